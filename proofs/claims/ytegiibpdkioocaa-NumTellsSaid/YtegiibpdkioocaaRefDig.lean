/- The walks of arboretumref1.Number and Digits. -/
import Derived.Test.YtegiibpdkioocaaNum2
import Derived.Test.YtegiibpdkioocaaRowsN
import Derived.Deep.DeepCutAuto
namespace Go.Proofs.Ytegiibpdkioocaa
open Go.RowKit
set_option linter.unusedVariables false
set_option maxRecDepth 20000 in
set_option maxHeartbeats 2000000 in
theorem rnum_any (s : ByteArray) (w : World) (hs : s.size ≤ 9223372036854775807) :
    Calls Try.prog 21 #[.string s] w fun e w' => e = .returned (.tuple #[.int .i64 (numS s.data.toList).1, .int .i64 (numS s.data.toList).2]) ∧ w = w' := by
  obtain ⟨E, hE⟩ : ∃ E, E = numS s.data.toList := ⟨_, rfl⟩
  rw [← hE]
  go_enter Try.func21, Try.ntmps21
  go_upto_region 1 with fail
  go_cut [4] (fun m wx => ∃ bb : Bool, m = .bool bb ∧ Hid ((bb = true ∧ 0 < s.size ∧ E = numD (s.extract 1 s.size).data.toList true) ∨ (bb = false ∧ E = numD s.data.toList false)) ∧ wx = w)
  case first =>
    by_cases h0 : s.size = 0
    · have hl : s.data.toList = [] := List.eq_nil_of_length_eq_zero h0
      have HN : Hid (E = numD s.data.toList false) := Lib.hid (by rw [hE, hl]; rfl)
      clear hl hE
      go_wp2_with fail
      go_meet
      exact ⟨false, rfl, Lib.hid (.inr ⟨rfl, HN.out⟩), rfl⟩
    · have hp : 0 < s.size := by omega
      have hdr : s.data.toList = s[0] :: s.data.toList.drop 1 := by
        have hl : 0 < s.data.toList.length := hp
        have := List.drop_eq_getElem_cons hl
        rw [List.drop_zero] at this
        exact this
      have hx1 : (0 : Int) < s.size := by omega
      have hd : decide (0 < (s.size : Int)) = true := by simpa using hp
      have hd2 : decide (0 < s.size) = true := by simpa using hp
      by_cases h45 : s[0] = 45
      · have hz : ((s[0].toNat : Int) == 45) = true := by rw [h45]; rfl
        have HN : Hid (E = numD (s.extract 1 s.size).data.toList true) := Lib.hid (by
          have e : (s.extract 1 s.size).data.toList = s.data.toList.drop 1 := by
            rw [Lib.extract_data]
            have hl : s.data.toList.length = s.size := rfl
            first
              | rw [List.take_of_length_le (by rw [List.length_drop]; omega)]
              | rw [List.take_of_length_le (by omega)]
          rw [hE, e, hdr, numS, if_pos h45, List.drop_succ_cons, List.drop_zero])
        clear hdr h45 h0 hE
        go_wp2_with fail
        go_meet
        exact ⟨true, rfl, Lib.hid (.inl ⟨rfl, hp, HN.out⟩), rfl⟩
      · have hz : ((s[0].toNat : Int) == 45) = false := by
          rw [beq_eq_false_iff_ne]
          intro h
          apply h45
          apply UInt8.toNat_inj.1
          show s[0].toNat = 45
          omega
        have HN : Hid (E = numD s.data.toList false) := Lib.hid (by rw [hE, hdr, numS, if_neg h45])
        clear hdr h45 h0 hE
        go_wp2_with fail
        go_meet
        exact ⟨false, rfl, Lib.hid (.inr ⟨rfl, HN.out⟩), rfl⟩
  case rest =>
    obtain ⟨bb, rfl, HN0, rfl⟩ := hcut
    clear hE
    rcases HN0.out with ⟨rfl, hp, hN⟩ | ⟨rfl, hN⟩
    · obtain ⟨d, hdd⟩ : ∃ d, d = s.extract 1 s.size := ⟨_, rfl⟩
      have hds : d.size ≤ s.size := by rw [hdd, ByteArray.size_extract]; omega
      have HDd : Hid (s.extract 1 s.size = d) := Lib.hid hdd.symm
      rw [← hdd] at hN
      have hx1 : (1 : Int) ≤ s.size := by omega
      clear hdd HN0
      go_upto_region 5 with fail
      rw [HDd.out]
      clear HDd hp hx1
      have hlen : d.data.toList.length = d.size := rfl
      by_cases h0 : d.size = 0
      · have hl : d.data.toList = [] := List.eq_nil_of_length_eq_zero h0
        have hr := hN.trans (numD_bad (.inl hl))
        have hq0 : (d.size : Int) < 1 := by omega
        have he1 : d.toList = [] := by rw [ByteArray.toList_eq, hl]
        have he2 : d.toList.isEmpty = true := by rw [he1]; rfl
        have HR := Lib.hid hr
        clear hr hN hl hlen h0
        go_wp2
        go_ret2
        exact ⟨by rw [HR.out]; rfl, rfl⟩
      · have hpos : 0 < d.size := by omega
        have hq0 : ¬ ((d.size : Int) < 1) := by omega
        have hne : d.data.toList ≠ [] := fun e => h0 (by rw [← hlen, e]; rfl)
        have he1 : ¬ d.toList = [] := by rw [ByteArray.toList_eq]; exact hne
        have he2 : d.toList.isEmpty = false := by rw [ByteArray.toList_eq]; cases h : d.data.toList with
          | nil => exact absurd h hne
          | cons a l => rfl
        have hhead : d.data.toList.head? = some d[0] := by
          rw [List.head?_eq_getElem?, List.getElem?_eq_getElem (show 0 < d.data.toList.length from hpos)]; rfl
        by_cases h18 : 18 < d.size
        · have hr := hN.trans (numD_bad (.inr (.inl (by omega))))
          have HR := Lib.hid hr
          clear hr hN hlen h0 hne hhead
          go_wp2
          all_goals
            go_ret2
            exact ⟨by rw [HR.out]; rfl, rfl⟩
        · by_cases hz : d[0].toNat = 48 ∧ (1 < d.size ∨ true = true)
          · have hr := hN.trans (numD_bad (.inr (.inr ⟨by rw [hhead]; congr 1; exact UInt8.toNat_inj.1 hz.1, by rw [hlen]; exact hz.2⟩)))
            have HR := Lib.hid hr
            have hz1 : ((d[0].toNat : Int) == 48) = true := by simp [hz.1]
            rcases hz.2 with h1 | h1
            all_goals
              clear hr hN hlen h0 hne hhead hz
              go_wp2
              all_goals
                go_ret2
                exact ⟨by rw [HR.out]; rfl, rfl⟩
          · have hnb : ¬ (d.data.toList = [] ∨ 18 < d.data.toList.length ∨ (d.data.toList.head? = some 48 ∧ (1 < d.data.toList.length ∨ true = true))) := by
              rintro (h | h | ⟨h, h'⟩)
              · exact hne h
              · omega
              · apply hz
                rw [hhead] at h
                have h : d[0] = 48 := by simpa using h
                exact ⟨by rw [h]; rfl, by rw [← hlen]; exact h'⟩
            have HNB := Lib.hid hnb
            have HNN := Lib.hid hN
            have hgd : ((d[0].toNat : Int) == 48) = false ∨ (((d[0].toNat : Int) == 48) = true ∧ ¬ 1 < d.size ∧ true = false) := by
              by_cases h : d[0].toNat = 48
              · right
                refine ⟨by simp [h], fun h1 => hz ⟨h, .inl h1⟩, ?_⟩
                first | rfl | exact absurd ⟨h, .inr rfl⟩ hz
              · left; simp; omega
            clear hnb hN hz hne hhead
            have hsz : d.size ≤ 18 := by omega
            have hcase : (((d[0].toNat : Int) == 48) = false ∧ true = false) ∨ (((d[0].toNat : Int) == 48) = false ∧ true = true) ∨ (((d[0].toNat : Int) == 48) = true ∧ ¬ 1 < d.size ∧ true = false) := by
              rcases hgd with hg | hg
              · first | exact .inl ⟨hg, rfl⟩ | exact .inr (.inl ⟨hg, rfl⟩)
              · exact .inr (.inr hg)
            clear hgd
            rcases hcase with ⟨hg, hbb⟩ | ⟨hg, hbb⟩ | ⟨hg, hg1, hbb⟩
            all_goals first | (exact absurd hbb (by decide)) | skip
            all_goals clear hbb
            all_goals
              go_wp2
              go_loop [6, 7] (fun x i => ∃ k n : Nat, k ≤ d.size ∧ i = .int .i64 k ∧ x = .int .i64 n ∧ Hid (n < 10 ^ k) ∧ Read d k n) (fun _ i => d.size - (intOf i).toNat)
              case atStart => exact ⟨0, 0, Nat.zero_le _, rfl, rfl, by show 0 < 1; omega, by simp [Read, undig]⟩
              case round =>
                obtain ⟨k, n, hk, rfl, rfl, hnk, hrd⟩ := hrel
                have hn18 : n < 1000000000000000000 := Nat.lt_of_lt_of_le hnk.out (Nat.le_trans (Nat.pow_le_pow_right (by omega) (show k ≤ 18 by omega)) (by decide))
                by_cases hlt : k < d.size
                · have hn17 : n < 100000000000000000 := Nat.lt_of_lt_of_le hnk.out (Nat.le_trans (Nat.pow_le_pow_right (by omega) (show k ≤ 17 by omega)) (by decide))
                  have hc := d[k].toNat_lt
                  have hck : d.data.toList[k] = d[k] := rfl
                  by_cases h1 : 48 ≤ d[k].toNat
                  · by_cases h2 : d[k].toNat ≤ 57
                    · have hst := hrd.step hlt h1 h2
                      have hn10 : 10 * n + (d[k].toNat - 48) < 10 ^ (k + 1) := by have := hnk.out; rw [Nat.pow_succ]; omega
                      have HN10 := Lib.hid hn10
                      clear hn10 hck
                      go_wp2
                      go_round
                      case rel => exact ⟨k + 1, 10 * n + (d[k].toNat - 48), by omega, by go_num, by go_num, HN10.out, hst⟩
                      case measure => simp [intOf]; omega
                    · have hr := HNN.out.trans (numD_not (l := d.data.toList) (k := k) (by omega) (by rw [hck]; omega))
                      have HR := Lib.hid hr
                      clear hr hck
                      go_wp2
                      go_ret2
                      exact ⟨by rw [HR.out]; rfl, rfl⟩
                  · have hr := HNN.out.trans (numD_not (l := d.data.toList) (k := k) (by omega) (by rw [hck]; omega))
                    have HR := Lib.hid hr
                    clear hr hck
                    go_wp2
                    go_ret2
                    exact ⟨by rw [HR.out]; rfl, rfl⟩
                · have hkd : d.data.toList.take k = d.data.toList := List.take_of_length_le (by omega)
                  have hall := hrd.1
                  have hnu := hrd.2
                  rw [hkd] at hall hnu
                  have hr := HNN.out.trans (numD_all (by have := HNB.out; first | exact this | simpa using this) hall)
                  rw [← hnu] at hr
                  have HR := Lib.hid hr
                  clear hr hall hnu hkd
                  go_wp2
                  go_ret2
                  exact ⟨by rw [HR.out]; rfl, rfl⟩
    · obtain ⟨d, hdd⟩ : ∃ d, d = s := ⟨_, rfl⟩
      subst hdd
      have hds : d.size ≤ d.size := Nat.le_refl _
      clear HN0
      go_upto_region 5 with fail
      have hlen : d.data.toList.length = d.size := rfl
      by_cases h0 : d.size = 0
      · have hl : d.data.toList = [] := List.eq_nil_of_length_eq_zero h0
        have hr := hN.trans (numD_bad (.inl hl))
        have hq0 : (d.size : Int) < 1 := by omega
        have he1 : d.toList = [] := by rw [ByteArray.toList_eq, hl]
        have he2 : d.toList.isEmpty = true := by rw [he1]; rfl
        have HR := Lib.hid hr
        clear hr hN hl hlen h0
        go_wp2
        go_ret2
        exact ⟨by rw [HR.out]; rfl, rfl⟩
      · have hpos : 0 < d.size := by omega
        have hq0 : ¬ ((d.size : Int) < 1) := by omega
        have hne : d.data.toList ≠ [] := fun e => h0 (by rw [← hlen, e]; rfl)
        have he1 : ¬ d.toList = [] := by rw [ByteArray.toList_eq]; exact hne
        have he2 : d.toList.isEmpty = false := by rw [ByteArray.toList_eq]; cases h : d.data.toList with
          | nil => exact absurd h hne
          | cons a l => rfl
        have hhead : d.data.toList.head? = some d[0] := by
          rw [List.head?_eq_getElem?, List.getElem?_eq_getElem (show 0 < d.data.toList.length from hpos)]; rfl
        by_cases h18 : 18 < d.size
        · have hr := hN.trans (numD_bad (.inr (.inl (by omega))))
          have HR := Lib.hid hr
          clear hr hN hlen h0 hne hhead
          go_wp2
          all_goals
            go_ret2
            exact ⟨by rw [HR.out]; rfl, rfl⟩
        · by_cases hz : d[0].toNat = 48 ∧ (1 < d.size ∨ false = true)
          · have hr := hN.trans (numD_bad (.inr (.inr ⟨by rw [hhead]; congr 1; exact UInt8.toNat_inj.1 hz.1, by rw [hlen]; exact hz.2⟩)))
            have HR := Lib.hid hr
            have hz1 : ((d[0].toNat : Int) == 48) = true := by simp [hz.1]
            rcases hz.2 with h1 | h1
            all_goals
              clear hr hN hlen h0 hne hhead hz
              go_wp2
              all_goals
                go_ret2
                exact ⟨by rw [HR.out]; rfl, rfl⟩
          · have hnb : ¬ (d.data.toList = [] ∨ 18 < d.data.toList.length ∨ (d.data.toList.head? = some 48 ∧ (1 < d.data.toList.length ∨ false = true))) := by
              rintro (h | h | ⟨h, h'⟩)
              · exact hne h
              · omega
              · apply hz
                rw [hhead] at h
                have h : d[0] = 48 := by simpa using h
                exact ⟨by rw [h]; rfl, by rw [← hlen]; exact h'⟩
            have HNB := Lib.hid hnb
            have HNN := Lib.hid hN
            have hgd : ((d[0].toNat : Int) == 48) = false ∨ (((d[0].toNat : Int) == 48) = true ∧ ¬ 1 < d.size ∧ false = false) := by
              by_cases h : d[0].toNat = 48
              · right
                refine ⟨by simp [h], fun h1 => hz ⟨h, .inl h1⟩, ?_⟩
                first | rfl | exact absurd ⟨h, .inr rfl⟩ hz
              · left; simp; omega
            clear hnb hN hz hne hhead
            have hsz : d.size ≤ 18 := by omega
            have hcase : (((d[0].toNat : Int) == 48) = false ∧ false = false) ∨ (((d[0].toNat : Int) == 48) = false ∧ false = true) ∨ (((d[0].toNat : Int) == 48) = true ∧ ¬ 1 < d.size ∧ false = false) := by
              rcases hgd with hg | hg
              · first | exact .inl ⟨hg, rfl⟩ | exact .inr (.inl ⟨hg, rfl⟩)
              · exact .inr (.inr hg)
            clear hgd
            rcases hcase with ⟨hg, hbb⟩ | ⟨hg, hbb⟩ | ⟨hg, hg1, hbb⟩
            all_goals first | (exact absurd hbb (by decide)) | skip
            all_goals clear hbb
            all_goals
              go_wp2
              go_loop [6, 7] (fun x i => ∃ k n : Nat, k ≤ d.size ∧ i = .int .i64 k ∧ x = .int .i64 n ∧ Hid (n < 10 ^ k) ∧ Read d k n) (fun _ i => d.size - (intOf i).toNat)
              case atStart => exact ⟨0, 0, Nat.zero_le _, rfl, rfl, by show 0 < 1; omega, by simp [Read, undig]⟩
              case round =>
                obtain ⟨k, n, hk, rfl, rfl, hnk, hrd⟩ := hrel
                have hn18 : n < 1000000000000000000 := Nat.lt_of_lt_of_le hnk.out (Nat.le_trans (Nat.pow_le_pow_right (by omega) (show k ≤ 18 by omega)) (by decide))
                by_cases hlt : k < d.size
                · have hn17 : n < 100000000000000000 := Nat.lt_of_lt_of_le hnk.out (Nat.le_trans (Nat.pow_le_pow_right (by omega) (show k ≤ 17 by omega)) (by decide))
                  have hc := d[k].toNat_lt
                  have hck : d.data.toList[k] = d[k] := rfl
                  by_cases h1 : 48 ≤ d[k].toNat
                  · by_cases h2 : d[k].toNat ≤ 57
                    · have hst := hrd.step hlt h1 h2
                      have hn10 : 10 * n + (d[k].toNat - 48) < 10 ^ (k + 1) := by have := hnk.out; rw [Nat.pow_succ]; omega
                      have HN10 := Lib.hid hn10
                      clear hn10 hck
                      go_wp2
                      go_round
                      case rel => exact ⟨k + 1, 10 * n + (d[k].toNat - 48), by omega, by go_num, by go_num, HN10.out, hst⟩
                      case measure => simp [intOf]; omega
                    · have hr := HNN.out.trans (numD_not (l := d.data.toList) (k := k) (by omega) (by rw [hck]; omega))
                      have HR := Lib.hid hr
                      clear hr hck
                      go_wp2
                      go_ret2
                      exact ⟨by rw [HR.out]; rfl, rfl⟩
                  · have hr := HNN.out.trans (numD_not (l := d.data.toList) (k := k) (by omega) (by rw [hck]; omega))
                    have HR := Lib.hid hr
                    clear hr hck
                    go_wp2
                    go_ret2
                    exact ⟨by rw [HR.out]; rfl, rfl⟩
                · have hkd : d.data.toList.take k = d.data.toList := List.take_of_length_le (by omega)
                  have hall := hrd.1
                  have hnu := hrd.2
                  rw [hkd] at hall hnu
                  have hr := HNN.out.trans (numD_all (by have := HNB.out; first | exact this | simpa using this) hall)
                  rw [← hnu] at hr
                  have HR := Lib.hid hr
                  clear hr hall hnu hkd
                  go_wp2
                  go_ret2
                  exact ⟨by rw [HR.out]; rfl, rfl⟩
end Go.Proofs.Ytegiibpdkioocaa
