/- The walk of num.Number: it reads what 'numS' tells. -/
import Derived.Test.YtegiibpdkioocaaCutPre
import Derived.Test.YtegiibpdkioocaaDigP
namespace Go.Proofs.Ytegiibpdkioocaa
open Go.RowKit
set_option linter.unusedVariables false
/-- What strings.CutPrefix(s, the minus sign) answers. -/
def MinusRes (s : ByteArray) (w : World) (e : Ending) (w' : World) : Prop :=
  ∃ (d : ByteArray) (b : Bool), e = .returned (.tuple #[.string d, .bool b]) ∧ numS s.data.toList = numD d.data.toList b ∧ d.size ≤ s.size ∧ w = w'
theorem minus_any (s : ByteArray) (w : World) (hs : s.size ≤ 9223372036854775807) :
    Calls Try.prog 71 #[.string s, .string ⟨#[45]⟩] w (MinusRes s w) := by
  have hcut : (s.extract 1 s.size).data.toList = s.data.toList.drop 1 := Lib.extract_to_end s 1
  by_cases h : isPre ⟨#[45]⟩ s
  · refine (cut_yes s ⟨#[45]⟩ w hs h).mono ?_
    rintro e w' ⟨rfl, rfl⟩
    refine ⟨_, _, rfl, ?_, ?_, rfl⟩
    · show _ = numD (s.extract 1 s.size).data.toList true
      rw [hcut]
      have h1 : s.data.toList.take 1 = [45] := h
      cases hl : s.data.toList with
      | nil => rw [hl] at h1; cases h1
      | cons c r =>
        rw [hl] at h1
        have : c = 45 := by simpa using h1
        subst this
        rfl
    · show (s.extract 1 s.size).size ≤ _
      have e1 : (s.extract 1 s.size).data.toList.length = (s.extract 1 s.size).size := rfl
      have e2 : s.data.toList.length = s.size := rfl
      rw [hcut, List.length_drop] at e1
      omega
  · refine (cut_no s ⟨#[45]⟩ w hs (by decide) h).mono ?_
    rintro e w' ⟨rfl, rfl⟩
    refine ⟨_, _, rfl, ?_, Nat.le_refl _, rfl⟩
    cases hl : s.data.toList with
    | nil => rfl
    | cons c r =>
      have : c ≠ 45 := by
        rintro rfl
        apply h
        show s.data.toList.take 1 = [45]
        rw [hl]; rfl
      show (if c = 45 then _ else _) = _
      rw [if_neg this]
theorem numD_bad {l : List UInt8} {b : Bool} (h : l = [] ∨ 18 < l.length ∨ (l.head? = some 48 ∧ (1 < l.length ∨ b = true))) : numD l b = (0, 1) := by unfold numD; rw [if_pos h]
theorem numD_not {l : List UInt8} {b : Bool} {k : Nat} (hk : k < l.length) (h : ¬ (48 ≤ (l[k]).toNat ∧ (l[k]).toNat ≤ 57)) : numD l b = (0, 1) := by
  unfold numD
  split
  · rfl
  · rw [if_neg]
    intro ha
    rw [List.all_eq_true] at ha
    have := ha _ (List.getElem_mem hk)
    apply h
    simpa using this
theorem numD_all {l : List UInt8} {b : Bool} (h : ¬ (l = [] ∨ 18 < l.length ∨ (l.head? = some 48 ∧ (1 < l.length ∨ b = true)))) (ha : ∀ c ∈ l, 48 ≤ c.toNat ∧ c.toNat ≤ 57) :
    numD l b = ((if b then -(undig l : Int) else undig l), 0) := by
  unfold numD
  rw [if_neg h, if_pos]
  rw [List.all_eq_true]
  intro c hc
  have := ha c hc
  simp [this.1, this.2]
/-- The bytes up to place k are digits, and n is their number. -/
def Read (d : ByteArray) (k n : Nat) : Prop := (∀ c ∈ d.data.toList.take k, 48 ≤ c.toNat ∧ c.toNat ≤ 57) ∧ n = undig (d.data.toList.take k)
theorem Read.step {d : ByteArray} {k n : Nat} (h : Read d k n) (hk : k < d.size) (h1 : 48 ≤ d[k].toNat) (h2 : d[k].toNat ≤ 57) : Read d (k + 1) (10 * n + (d[k].toNat - 48)) := by
  have e : d.data.toList.take (k + 1) = d.data.toList.take k ++ [d[k]] := by
    rw [List.take_succ_eq_append_getElem (show k < d.data.toList.length from hk)]; rfl
  unfold Read
  rw [e]
  refine ⟨?_, by rw [undig_snoc, ← h.2]⟩
  intro c hc
  rcases List.mem_append.1 hc with hc | hc
  · exact h.1 c hc
  · have : c = d[k] := by simpa using hc
    rw [this]; exact ⟨h1, h2⟩
set_option maxHeartbeats 1000000 in
theorem num2_any (s : ByteArray) (w : World) (hs : s.size ≤ 9223372036854775807) :
    Calls Try.prog 20 #[.string s] w fun e w' => e = .returned (.tuple #[.int .i64 (numS s.data.toList).1, .int .i64 (numS s.data.toList).2]) ∧ w = w' := by
  have HM := Lib.hid (minus_any s w hs)
  go_enter Try.func20, Try.ntmps20
  go_wp2_with fail
  refine HM.out.mono ?_
  rintro e w' ⟨d, b, rfl, hN, hd, rfl⟩
  have hlen : d.data.toList.length = d.size := rfl
  by_cases h0 : d.size = 0
  · have hl : d.data.toList = [] := List.eq_nil_of_length_eq_zero h0
    have hr := hN.trans (numD_bad (.inl hl))
    have he1 : d.toList = [] := by rw [ByteArray.toList_eq, hl]
    have he2 : d.toList.isEmpty = true := by rw [he1]; rfl
    have HR := Lib.hid hr
    clear hr hN hl hlen h0
    go_wp2
    go_ret2
    exact ⟨by rw [HR.out]; rfl, rfl⟩
  · have hpos : 0 < d.size := by omega
    have hne : d.data.toList ≠ [] := fun e => h0 (by rw [← hlen, e]; rfl)
    have he1 : ¬ d.toList = [] := by rw [ByteArray.toList_eq]; exact hne
    have he2 : d.toList.isEmpty = false := by rw [ByteArray.toList_eq]; cases h : d.data.toList with
      | nil => exact absurd h hne
      | cons a l => rfl
    have hhead : d.data.toList.head? = some d[0] := by
      rw [List.head?_eq_getElem?, List.getElem?_eq_getElem (show 0 < d.data.toList.length from hpos)]; rfl
    by_cases h18 : 18 < d.size
    · have hr := hN.trans (numD_bad (.inr (.inl (by omega))))
      have HR := Lib.hid hr
      clear hr hN hlen h0 hne hhead
      go_wp2
      all_goals
        go_ret2
        exact ⟨by rw [HR.out]; rfl, rfl⟩
    · by_cases hz : d[0].toNat = 48 ∧ (1 < d.size ∨ b = true)
      · have hr := hN.trans (numD_bad (.inr (.inr ⟨by rw [hhead]; congr 1; exact UInt8.toNat_inj.1 hz.1, by rw [hlen]; exact hz.2⟩)))
        have HR := Lib.hid hr
        have hz1 : ((d[0].toNat : Int) == 48) = true := by simp [hz.1]
        rcases hz.2 with h1 | h1
        all_goals
          clear hr hN hlen h0 hne hhead hz
          go_wp2
          all_goals
            go_ret2
            exact ⟨by rw [HR.out]; rfl, rfl⟩
      · have hnb : ¬ (d.data.toList = [] ∨ 18 < d.data.toList.length ∨ (d.data.toList.head? = some 48 ∧ (1 < d.data.toList.length ∨ b = true))) := by
          rintro (h | h | ⟨h, h'⟩)
          · exact hne h
          · omega
          · apply hz
            rw [hhead] at h
            have h : d[0] = 48 := by simpa using h
            exact ⟨by rw [h]; rfl, by rw [← hlen]; exact h'⟩
        have HNB := Lib.hid hnb
        have HNN := Lib.hid hN
        have hgd : ((d[0].toNat : Int) == 48) = false ∨ (((d[0].toNat : Int) == 48) = true ∧ ¬ 1 < d.size ∧ b = false) := by
          by_cases h : d[0].toNat = 48
          · right
            refine ⟨by simp [h], fun h1 => hz ⟨h, .inl h1⟩, ?_⟩
            cases b
            · rfl
            · exact absurd ⟨h, .inr rfl⟩ hz
          · left; simp; omega
        clear hnb hN hz hne hhead
        have hsz : d.size ≤ 18 := by omega
        have hcase : (((d[0].toNat : Int) == 48) = false ∧ b = false) ∨ (((d[0].toNat : Int) == 48) = false ∧ b = true) ∨ (((d[0].toNat : Int) == 48) = true ∧ ¬ 1 < d.size ∧ b = false) := by
          rcases hgd with hg | hg
          · cases b
            · exact .inl ⟨hg, rfl⟩
            · exact .inr (.inl ⟨hg, rfl⟩)
          · exact .inr (.inr hg)
        clear hgd
        rcases hcase with ⟨hg, rfl⟩ | ⟨hg, rfl⟩ | ⟨hg, hg1, rfl⟩
        all_goals
          go_wp2
          go_loop [6, 35] (fun x i => ∃ k n : Nat, k ≤ d.size ∧ i = .int .i64 k ∧ x = .int .i64 n ∧ Hid (n < 10 ^ k) ∧ Read d k n) (fun _ i => d.size - (intOf i).toNat)
          case atStart => exact ⟨0, 0, Nat.zero_le _, rfl, rfl, by show 0 < 1; omega, by simp [Read, undig]⟩
          case round =>
            obtain ⟨k, n, hk, rfl, rfl, hnk, hrd⟩ := hrel
            have hn18 : n < 1000000000000000000 := Nat.lt_of_lt_of_le hnk.out (Nat.le_trans (Nat.pow_le_pow_right (by omega) (show k ≤ 18 by omega)) (by decide))
            by_cases hlt : k < d.size
            · have hn17 : n < 100000000000000000 := Nat.lt_of_lt_of_le hnk.out (Nat.le_trans (Nat.pow_le_pow_right (by omega) (show k ≤ 17 by omega)) (by decide))
              have hc := d[k].toNat_lt
              have hck : d.data.toList[k] = d[k] := rfl
              by_cases h1 : 48 ≤ d[k].toNat
              · by_cases h2 : d[k].toNat ≤ 57
                · have hst := hrd.step hlt h1 h2
                  have hn10 : 10 * n + (d[k].toNat - 48) < 10 ^ (k + 1) := by have := hnk.out; rw [Nat.pow_succ]; omega
                  have HN10 := Lib.hid hn10
                  clear hn10 hck
                  go_wp2
                  go_round
                  case rel => exact ⟨k + 1, 10 * n + (d[k].toNat - 48), by omega, by go_num, by go_num, HN10.out, hst⟩
                  case measure => simp [intOf]; omega
                · have hr := HNN.out.trans (numD_not (l := d.data.toList) (k := k) (by omega) (by rw [hck]; omega))
                  have HR := Lib.hid hr
                  clear hr hck
                  go_wp2
                  go_ret2
                  exact ⟨by rw [HR.out]; rfl, rfl⟩
              · have hr := HNN.out.trans (numD_not (l := d.data.toList) (k := k) (by omega) (by rw [hck]; omega))
                have HR := Lib.hid hr
                clear hr hck
                go_wp2
                go_ret2
                exact ⟨by rw [HR.out]; rfl, rfl⟩
            · have hkd : d.data.toList.take k = d.data.toList := List.take_of_length_le (by omega)
              have hall := hrd.1
              have hnu := hrd.2
              rw [hkd] at hall hnu
              have hr := HNN.out.trans (numD_all (by have := HNB.out; first | exact this | simpa using this) hall)
              rw [← hnu] at hr
              have HR := Lib.hid hr
              clear hr hall hnu hkd
              go_wp2
              go_ret2
              exact ⟨by rw [HR.out]; rfl, rfl⟩
end Go.Proofs.Ytegiibpdkioocaa
