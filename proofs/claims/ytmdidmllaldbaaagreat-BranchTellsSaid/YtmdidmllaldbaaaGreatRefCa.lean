/- The walks of arboretumref7's childBytes, BranchSize, FindChild. -/
import Derived.Test.YtmdidmllaldbaaaGreatRefRdr
import Derived.Test.YtmdidmllaldbaaaGreatPutC
import Derived.Test.YtmdidmllaldbaaaGreatRiseC
import Derived.Test.YtmdidmllaldbaaaGreatFindC
import Derived.Test.YtmdidmllaldbaaaGreatSince
import Derived.Test.YtmdidmllaldbaaaGreatGetC
import Derived.Test.YtmdidmllaldbaaaGreatGetPC
namespace Go.Proofs.YtmdidmllaldbaaaGreat
/-! ### The walks of arboretumref7's childBytes, BranchSize, FindChild. -/
section
open Go.RowKit
set_option linter.unusedVariables false
set_option maxRecDepth 20000 in
set_option maxHeartbeats 2000000 in
theorem rchildB_any (e : Chd) (hok : ChdOk e) (w : World) :
    Calls Tryz.prog 179 #[.agg #[.string e.key, .int .i64 e.pg]] w fun e' w' => e' = .returned (.string ⟨(chdB e).toArray⟩) ∧ Below w.heap.size w w' := by
  obtain ⟨⟨h1, h2⟩, h3⟩ := hok
  have HT := Lib.hid (fun W => rtext_any e.key (by omega) W)
  have HV := Lib.hid (fun W => rvar1_any e.pg h1 h2 W)
  have HCat : Hid (∀ W : World, (Op.stringOp .add ⟨(textB e.key.data.toList).toArray⟩ ⟨(var1 e.pg).toArray⟩).run Tryz.prog W = .ok (.string ⟨(chdB e).toArray⟩) W) := Lib.hid (fun W => by
    have hk : e.key.data.toList.length = e.key.size := rfl
    have l1 := var1_len e.pg
    have l2 := var1_len (e.key.data.toList.length : Int)
    exact cat_run _ _ W (by unfold textB; rw [List.length_append]; omega))
  go_enter Tryz.func179, Tryz.ntmps179
  go_wp2_with fail
  have q : ∀ p : SinceW (w.heap.size + 1) (w.alloc (.cells #[.string e.key, .int .i64 e.pg] 192)), p.w.cell? ⟨w.heap.size, 0, none⟩ = some (.string e.key) ∧ p.w.cell? ⟨w.heap.size, 1, none⟩ = some (.int .i64 e.pg) := fun p => by
    have hk := (p.h.block w.heap.size (by omega)).trans (heap_alloc_new w _)
    exact ⟨by rw [blk_cell hk]; rfl, by rw [blk_cell hk]; rfl⟩
  have q0 := fun p => (q p).1
  have q1 := fun p => (q p).2
  have hcat := HCat.out
  clear q
  refine wp_region_since (B := w.heap.size + 1) (W0 := w.alloc (.cells #[.string e.key, .int .i64 e.pg] 192)) (by kernel_rfl) (by kernel_rfl) (Below.refl _ _) ?_
  repeat (go_big_quiet_step (first
    | (go_at_call 130; exact since_call (by simp) (HT.out _))
    | (go_at_call 129; exact since_call (by simp) (HV.out _))))
  refine wpQuiet_nil ?_
  intro _ hw'
  obtain ⟨⟨w5, hv5⟩, rfl⟩ := hw'
  have hb := ((Below.refl w.heap.size w).alloc (Nat.le_refl _) _).trans (hv5.mono (by omega))
  clear q0 q1 hv5 hcat
  go_wp2_with fail
  go_ret
  exact ⟨rfl, hb⟩
set_option maxRecDepth 20000 in
set_option maxHeartbeats 2000000 in
theorem rsizeC_any {ao : Option Addr} {n c : Nat} {l : List Chd} {w : World} (h : ChdsOk w ao n l) :
    Calls Tryz.prog 46 #[.slice ao n c] w fun e w' => e = .returned (.int .i64 (layB l).length) ∧ Below w.heap.size w w' := by
  have HH := Lib.hid h
  have hn : n ≤ 2000000 := h.few
  have HL := Lib.hid h.len
  have HBy := Lib.hid h.bytes
  clear h
  go_enter Tryz.func46, Tryz.ntmps46
  go_wp2_with fail
  go_loopw [3, 4] (fun x i wr => ∃ (k s : Nat), k ≤ n ∧ i = .int .i64 k ∧ x = .int .i64 s ∧ s ≤ 17600000000000 ∧ Hid (s = (layB (l.take k)).length) ∧ Hid (Below w.heap.size w wr)) (fun _ i _ => n - (intOf i).toNat)
  case atStart => exact ⟨0, 0, Nat.zero_le _, rfl, rfl, by omega, Lib.hid (by simp [layB]), Lib.hid (Below.refl _ _)⟩
  case round =>
    obtain ⟨k, s, hk, rfl, rfl, hs, HS, HB⟩ := hrel
    by_cases hlt : k < n
    · obtain ⟨b, o, e, rfl, hbB, hek, q1, q2⟩ := (HH.out.below HB.out).chds.get hlt
      have hok := HH.out.ok e (List.mem_of_getElem? hek)
      have hst := layB_take_succ l k e hek
      have hle : (layB (l.take (k + 1))).length ≤ 17600000000000 := by
        have h1 := HBy.out
        have e2 : layB l = layB (l.take (k + 1)) ++ layB (l.drop (k + 1)) := by rw [← layB_append, List.take_append_drop]
        rw [e2, List.length_append] at h1
        omega
      have hcl : s + (chdB e).length = (layB (l.take (k + 1))).length := by rw [hst, List.length_append, ← HS.out]
      have HN : Hid (s + (chdB e).length = (layB (l.take (k + 1))).length) := Lib.hid hcl
      have hsn : s + (chdB e).length ≤ 17600000000000 := by omega
      have HCh := Lib.hid (rchildB_any e hok wr)
      have hsz : (ByteArray.mk (chdB e).toArray).size = (chdB e).length := by show (chdB e).toArray.size = _; simp
      have hx1 : (0 : Int) ≤ k := by omega
      have hx2 : (k : Int) < n := by omega
      clear hek hst hle hcl
      go_wp2_with fail
      refine HCh.out.mono ?_
      rintro e1 w1 ⟨rfl, hb1⟩
      have HB1 := Lib.hid (HB.out.trans (hb1.mono HB.out.size))
      clear hb1
      go_wp2_with fail
      go_roundw
      case rel => exact ⟨k + 1, s + (chdB e).length, by omega, by go_num, by go_num, hsn, HN, HB1⟩
      case measure => simp [intOf]; omega
    · obtain rfl : k = n := by omega
      have hf : s = (layB l).length := by rw [HS.out, List.take_of_length_le (by rw [HL.out]; omega)]
      have HF := Lib.hid hf
      clear hf
      go_wp2_with fail
      go_ret
      exact ⟨by rw [← HF.out]; rfl, HB.out⟩
/-- The last child whose key is not above. -/
def LastC (l : List Chd) (key : ByteArray) (k i : Nat) : Prop := (k = 0 ∨ k < i) ∧ (∀ e, 0 < k → l[k]? = some e → ltB key e.key = false) ∧ ∀ j e, 1 ≤ j → k < j → j < i → l[j]? = some e → ltB key e.key = true
theorem lastC_find {l : List Chd} {key : ByteArray} {k k' : Nat} (hr : Rises l l.length) (h : LastC l key k l.length) (hf : FindOk l key k') : k = k' := by
  obtain ⟨f1, f2, f3, f4⟩ := hf
  obtain ⟨h1, h2, h3⟩ := h
  have up : ∀ (d p : Nat) (a b : Chd), 1 ≤ p → l[p]? = some a → l[p + d + 1]? = some b → ltB a.key b.key = true := by
    intro d
    induction d with
    | zero => intro p a b hp ha hb; exact hr p a b hp (by have := (List.getElem?_eq_some_iff.1 hb).1; omega) ha hb
    | succ d ih =>
      intro p a b hp ha hb
      have hbl := (List.getElem?_eq_some_iff.1 hb).1
      obtain ⟨m, hm⟩ : ∃ m, l[p + d + 1]? = some m := ⟨_, List.getElem?_eq_getElem (by omega)⟩
      exact ltB_trans (ih p a m hp ha hm) (hr (p + d + 1) m b (by omega) (by omega) hm (by rw [show p + d + 1 + 1 = p + (d + 1) + 1 from by omega]; exact hb))
  rcases Nat.lt_trichotomy k k' with hlt | he | hlt
  · exfalso
    have hl : k' < l.length := f2 (by rcases Nat.eq_zero_or_pos l.length with h0 | h0; have := f1 h0; omega; exact h0)
    obtain ⟨e, he⟩ : ∃ e, l[k']? = some e := ⟨_, List.getElem?_eq_getElem hl⟩
    have a := f3 e (by omega) he
    have b := h3 k' e (by omega) hlt hl he
    rw [leB_not] at a
    rw [a] at b
    cases b
  · exact he
  · exfalso
    have hl : k < l.length := by omega
    obtain ⟨e, he⟩ : ∃ e, l[k]? = some e := ⟨_, List.getElem?_eq_getElem hl⟩
    have a := h2 e (by omega) he
    obtain ⟨m, hm⟩ : ∃ m, l[k' + 1]? = some m := ⟨_, List.getElem?_eq_getElem (by omega)⟩
    have b := not_leB.1 (f4 m hm)
    by_cases hk : k = k' + 1
    · subst hk
      rw [hm] at he
      injection he with he
      subst he
      rw [a] at b
      cases b
    · have c := up (k - k' - 2) (k' + 1) m e (by omega) hm (by rw [show k' + 1 + (k - k' - 2) + 1 = k from by omega]; exact he)
      have := ltB_trans b c
      rw [a] at this
      cases this
set_option maxRecDepth 20000 in
set_option maxHeartbeats 2000000 in
theorem rfindC_any {ao : Option Addr} {n c : Nat} {l : List Chd} {w : World} (h : ChdsOk w ao n l) (key : ByteArray) (hkey : key.size ≤ 9223372036854775807) :
    Calls Tryz.prog 51 #[.slice ao n c, .string key] w fun e w' => ∃ k : Nat, e = .returned (.int .i64 k) ∧ LastC l key k n ∧ Below w.heap.size w w' := by
  have HH := Lib.hid h
  have hn : n ≤ 2000000 := h.few
  have HL := Lib.hid h.len
  clear h
  go_enter Tryz.func51, Tryz.ntmps51
  go_wp2_with fail
  go_loopw [5, 6] (fun x i wr => ∃ (k b : Nat), 1 ≤ k ∧ (k ≤ n ∨ (n = 0 ∧ k = 1)) ∧ i = .int .i64 k ∧ x = .int .i64 b ∧ Hid (LastC l key b k) ∧ Hid (Below w.heap.size w wr)) (fun _ i _ => n + 1 - (intOf i).toNat)
  case atStart => exact ⟨1, 0, by omega, (by rcases Nat.eq_zero_or_pos n with h0 | h0; exact .inr ⟨h0, rfl⟩; exact .inl h0), rfl, rfl, Lib.hid ⟨.inl rfl, fun e h => by omega, fun j e a b c => by omega⟩, Lib.hid (Below.refl _ _)⟩
  case round =>
    obtain ⟨k, b, hk1, hk, rfl, rfl, HLa, HB⟩ := hrel
    by_cases hlt : k < n
    · obtain ⟨g, o, e, rfl, hbB, hek, q1, q2⟩ := (HH.out.below HB.out).chds.get hlt
      have hok := HH.out.ok e (List.mem_of_getElem? hek)
      have hks : e.key.size ≤ 140737488351232 := hok.2
      obtain ⟨r, hr⟩ : ∃ r, ltB key e.key = r := ⟨_, rfl⟩
      have HLs : Hid (Calls Tryz.prog 178 #[.string key, .string e.key] wr (QuietRes (.bool r) wr)) := Lib.hid (by rw [← hr]; exact less_any key e.key wr hkey (by omega))
      have HN : Hid (LastC l key (if r = true then b else k) (k + 1)) := Lib.hid (by
        obtain ⟨a1, a2, a3⟩ := HLa.out
        cases r with
        | true =>
          refine ⟨by rcases a1 with a | a; exact .inl a; exact .inr (by show b < _; omega), a2, fun j x h1 h2 h3 hx => ?_⟩
          by_cases hj : j < k
          · exact a3 j x h1 h2 hj hx
          · obtain rfl : j = k := by omega
            rw [hek] at hx
            injection hx with hx
            subst hx
            exact hr
        | false =>
          refine ⟨.inr (by show k < _; omega), fun x h0 hx => ?_, fun j x h1 h2 h3 hx => ?_⟩
          · change l[k]? = some x at hx
            rw [hek] at hx
            injection hx with hx
            subst hx
            exact hr
          · change k < j at h2
            omega)
      have hx1 : (0 : Int) ≤ k := by omega
      have hx2 : (k : Int) < n := by omega
      clear hek hok hr q2
      cases r with
      | true =>
        go_wp2_with fail
        refine HLs.out.mono ?_
        rintro e1 w1 h1
        obtain ⟨rfl, hb1⟩ := h1.below
        have HB1 := Lib.hid (HB.out.trans (hb1.mono HB.out.size))
        clear hb1 h1
        go_wp2_with fail
        go_roundw
        case rel => exact ⟨k + 1, b, by omega, .inl (by omega), by go_num, rfl, HN, HB1⟩
        case measure => simp [intOf]; omega
      | false =>
        go_wp2_with fail
        refine HLs.out.mono ?_
        rintro e1 w1 h1
        obtain ⟨rfl, hb1⟩ := h1.below
        have HB1 := Lib.hid (HB.out.trans (hb1.mono HB.out.size))
        clear hb1 h1
        go_wp2_with fail
        go_roundw
        case rel => exact ⟨k + 1, k, by omega, .inl (by omega), by go_num, rfl, HN, HB1⟩
        case measure => simp [intOf]; omega
    · have hf : LastC l key b n := by
        obtain ⟨a1, a2, a3⟩ := HLa.out
        refine ⟨?_, a2, fun j x h1 h2 h3 hx => a3 j x h1 h2 (by omega) hx⟩
        rcases a1 with a | a
        · exact .inl a
        · by_cases h0 : b = 0
          · exact .inl h0
          · right
            omega
      have HF := Lib.hid hf
      clear hf
      go_wp2_with fail
      go_ret
      exact ⟨b, rfl, HF.out, HB.out⟩
end
/-! ### The walks of arboretumref7's PutBranch and GetBranch. -/
section
open Go.RowKit
set_option linter.unusedVariables false
theorem putC_wrong {l : List Chd} {k : Nat} {e : Chd} (h : rightGo (prevK l k) (l.drop k) = rightGo none l) (he : l[k]? = some e) (hb : (okC e && stepC (prevK l k) e) = false) : putC l = ([], 1) := by
  rw [rightGo_step he, hb] at h
  unfold putC rightC
  rw [← h]
  simp
theorem undrewN {B m : Nat} {a w : World} (h : Below B (a.drewN m) w) : Below B a w := ⟨h.os, h.tape, h.output, h.size, h.block⟩
set_option maxRecDepth 100000 in
set_option maxHeartbeats 8000000 in
theorem rputC_any {ao : Option Addr} {n c : Nat} {l : List Chd} {w : World} (h : ChdsOk w ao n l) :
    Calls Tryz.prog 37 #[.slice ao n c] w fun e w' => e = .returned (.tuple #[.string ⟨(putC l).1.toArray⟩, .int .i64 (putC l).2]) ∧ Below w.heap.size w w' := by
  obtain ⟨i0, hi, hz0, hz1, hz2⟩ := info_parts u8info
  have HH := Lib.hid h
  have hn : n ≤ 2000000 := h.few
  have HL := Lib.hid h.len
  have HBy := Lib.hid h.bytes
  clear h
  by_cases h0 : n = 0
  · have hl : l = [] := List.eq_nil_of_length_eq_zero (by rw [HL.out]; exact h0)
    have hp : putC l = ([], 1) := by rw [hl]; rfl
    have hd : ((n : Int) == 0) = true := by simp [h0]
    have HP := Lib.hid hp
    clear hp hl h0
    go_enter Tryz.func37, Tryz.ntmps37
    go_wp2_with fail
    go_ret2
    exact ⟨by rw [HP.out]; rfl, Below.refl _ _⟩
  have hd : ((n : Int) == 0) = false := by rw [beq_eq_false_iff_ne]; omega
  go_enter Tryz.func37, Tryz.ntmps37
  go_wp2_with fail
  go_loopw [4, 5] (fun bv i wr => ∃ (k : Nat) (P : List UInt8), k ≤ n ∧ i = .int .i64 k ∧ Hid (wr.ownsRow w.heap.size 5 1 bv P.length (Lib.byteCells P)) ∧ Hid (P = layB (l.take k)) ∧ Hid (rightGo (prevK l k) (l.drop k) = rightGo none l) ∧ Hid (Below w.heap.size w wr)) (fun _ i _ => n - (intOf i).toNat)
  case atStart => exact ⟨0, [], Nat.zero_le _, rfl, Lib.hid (World.ownsRow_nil _ _ _ _), Lib.hid (by simp [layB]), Lib.hid rfl, Lib.hid (Below.refl _ _)⟩
  case round =>
    obtain ⟨k, P, hk, rfl, HO, hP, HG, HB⟩ := hrel
    have hsz := HB.out.size
    by_cases hlt : k < n
    · obtain ⟨b, o, e, rfl, hbB, hek, q1, q2⟩ := (HH.out.below HB.out).chds.get hlt
      have hbW : b < wr.heap.size := Nat.lt_of_lt_of_le hbB (Nat.le_refl _)
      have hok := HH.out.ok e (List.mem_of_getElem? hek)
      have HOk := Lib.hid hok
      have hks : e.key.size ≤ 140737488351232 := hok.2
      have HEk := Lib.hid hek
      have HBad : Hid ((okC e && stepC (prevK l k) e) = false → putC l = ([], 1)) := Lib.hid (fun h => putC_wrong HG.out hek h)
      have hx1 : (0 : Int) ≤ k := by omega
      have hx2 : (k : Int) < n := by omega
      have HBx := Lib.hid (HB.out.alloc hsz (.cells #[.string e.key, .int .i64 e.pg] 192))
      clear hok hek
      by_cases p1 : e.pg < 2
      · have d1 : decide (e.pg < 2) = true := by simpa using p1
        have HF := Lib.hid (HBad.out (by unfold okC; rw [show decide (2 ≤ e.pg) = false from by simp; omega]; simp))
        go_wp2_with fail
        go_quiet (fail)
        go_wp2_with fail
        go_ret2
        exact ⟨by rw [HF.out]; rfl, below_drewN HBx.out _⟩
      have d1 : decide (e.pg < 2) = false := by simpa using p1
      by_cases p2 : 4294967295 < e.pg
      · have d2 : decide (4294967295 < e.pg) = true := by simpa using p2
        have HF := Lib.hid (HBad.out (by unfold okC; rw [show decide (e.pg ≤ 4294967295) = false from by simp; omega]; simp))
        go_wp2_with fail
        go_quiet (fail)
        go_wp2_with fail
        go_ret2
        exact ⟨by rw [HF.out]; rfl, below_drewN HBx.out _⟩
      have d2 : decide (4294967295 < e.pg) = false := by simpa using p2
      by_cases hk0 : k = 0
      · have e0 : ((k : Int) == 0) = true := by rw [hk0]; rfl
        have e1 : decide (0 < k) = false := by rw [hk0]; rfl
        have e2 : decide ((0 : Int) < (k : Int)) = false := by rw [hk0]; rfl
        have hs0 : stepC (prevK l k) e = e.key.toList.isEmpty := by rw [hk0]; exact emp_eq e.key
        cases hm : e.key.toList.isEmpty with
        | false =>
          have HF := Lib.hid (HBad.out (by rw [hs0, hm]; simp))
          clear hk0 hs0
          go_wp2_with fail
          go_quiet (fail)
          go_wp2_with fail
          go_ret2
          exact ⟨by rw [HF.out]; rfl, below_drewN HBx.out _⟩
        | true =>
          have hz : e.key.size = 0 := by
            have h1 : e.key.toList = [] := by simpa using hm
            rw [ByteArray.toList_eq] at h1
            have h2 : e.key.data.toList.length = e.key.size := rfl
            rw [h1] at h2
            exact h2.symm
          have hgd : (okC e && stepC (prevK l k) e) = true := by
            rw [hs0, hm]; unfold okC
            simp; omega
          have HGd := Lib.hid hgd
          clear hgd hz hs0 hk0
          have HG2 : Hid (rightGo (prevK l (k + 1)) (l.drop (k + 1)) = rightGo none l) := Lib.hid (by have h := HG.out; rw [rightGo_step HEk.out, HGd.out, Bool.true_and] at h; exact h)
          have hst := layB_take_succ l k e HEk.out
          have hle : (layB (l.take (k + 1))).length ≤ 17600000000000 := by
            have h1 := HBy.out
            have e2 : layB l = layB (l.take (k + 1)) ++ layB (l.drop (k + 1)) := by rw [← layB_append, List.take_append_drop]
            rw [e2, List.length_append] at h1
            omega
          have hPl : P.length + (chdB e).length ≤ 17600000000000 := by rw [hst, List.length_append, ← hP.out] at hle; exact hle
          have HNext : Hid (P ++ chdB e = layB (l.take (k + 1))) := Lib.hid (by rw [hst, hP.out])
          clear hst hle hP
          go_wp2_with fail
          go_quiet (fail)
          go_wp2_with fail
          refine (rchildB_any e HOk.out _).mono ?_
          rintro e1 w1 ⟨rfl, hb1⟩
          have HO1 := Lib.hid (own_below (HO.out.alloc (.cells #[.string e.key, .int .i64 e.pg] 192)) (undrewN hb1))
          have HB1 := Lib.hid (HBx.out.trans ((undrewN hb1).mono HBx.out.size))
          obtain ⟨S, hS⟩ : ∃ S, S = ByteArray.mk (chdB e).toArray := ⟨_, rfl⟩
          have hSz : S.size = (chdB e).length := by rw [hS]; show (chdB e).toArray.size = _; simp
          have HSd : Hid (S.data.toList = chdB e) := Lib.hid (by rw [hS, bytes_mk])
          rw [← hS]
          clear hb1 hS
          go_wp2_with (at_builtin; refine Lib.wpList_append_own_string _ rfl _ _ 160 9 rfl w.heap.size 5 i0 Tryz.underlying160 Tryz.underlying9 hi hz0 hz1 hz2 _ _ _ rfl HO1.out S rfl ?c3 ?c4 ?c5 ?_)
          case c3 => unfold maxLen; omega
          case c4 => omega
          case c5 => exact HB1.out.size
          intro v' w2 hown' hgrow _
          have HO2 : Hid (w2.ownsRow w.heap.size 5 1 v' (P ++ chdB e).length (Lib.byteCells (P ++ chdB e))) := Lib.hid (by
            have e2 : Lib.byteCells (P ++ chdB e) = Lib.byteCells P ++ Lib.strCells S := by rw [Lib.byteCells_append, ← HSd.out]; rfl
            rw [e2, List.length_append]
            first | exact hown' | (rw [← hSz]; exact hown'))
          have HB2 := Lib.hid (HB1.out.grown hgrow HB1.out.size (fun k hk => (HO1.out.lt k hk).1))
          clear hown' hgrow
          go_wp2_with fail
          go_roundw
          case rel => exact ⟨k + 1, P ++ chdB e, by omega, by go_num, HO2, HNext, HG2, HB2⟩
          case measure => simp [intOf]; omega
      · obtain ⟨j, hkj⟩ : ∃ j, k = j + 1 := ⟨k - 1, by omega⟩
        obtain ⟨b', o', e', hbe, hbB', hek', q3, q4⟩ := (HH.out.below HB.out).chds.get (k := j) (by omega)
        obtain ⟨rfl, rfl⟩ : b' = b ∧ o' = o := by injection hbe with h; injection h with h1 h2; exact ⟨h1.symm, h2.symm⟩
        have hok' := HH.out.ok e' (List.mem_of_getElem? hek')
        have hks' : e'.key.size ≤ 140737488351232 := hok'.2
        have hs0 : stepC (prevK l k) e = !(leB e.key e'.key) := by
          rw [hkj]
          show stepC ((l[j]?).map (·.key)) e = _
          rw [hek']; rfl
        have e0 : ((k : Int) == 0) = false := by simp; omega
        have e1 : decide (0 < k) = true := by simp; omega
        have e2 : decide ((0 : Int) < (k : Int)) = true := by simp; omega
        have m2 : (k : Int) - 1 = j := by omega
        have m3 : IntKind.i64.wrap (j : Int) = j := IntWalk.i64_in _ (by omega)
        have pp : ∀ ob, (wr.alloc ob).cell? ⟨b', o' + j * 2, none⟩ = some (.string e'.key) := fun ob => (World.cell?_alloc_lt wr ob _ (by show b' < _; omega)).trans q3
        have hy1 : (0 : Int) ≤ j := by omega
        have hy2 : (j : Int) < n := by omega
        have Hs0 := Lib.hid hs0
        clear hbe q4 hek' hkj hok' hs0 hk0
        by_cases p3 : e.key.size < 1
        · have d3 : decide (e.key.size < 1) = true := by simpa using p3
          have d3' : decide ((e.key.size : Int) < 1) = true := by simp; omega
          have HF := Lib.hid (HBad.out (by
            have hk0 : e.key = ⟨#[]⟩ := bytes_ext (List.eq_nil_of_length_eq_zero (show e.key.data.toList.length = 0 from by have h2 : e.key.data.toList.length = e.key.size := rfl; omega))
            rw [Hs0.out, hk0]
            rw [show leB ⟨#[]⟩ e'.key = true from by rw [leB_not]; exact lt_emp _]
            simp))
          go_wp2_with fail
          go_quiet (fail)
          go_wp2_with fail
          go_ret2
          exact ⟨by rw [HF.out]; rfl, below_drewN HBx.out _⟩
        have d3 : decide (e.key.size < 1) = false := by simpa using p3
        have d3' : decide ((e.key.size : Int) < 1) = false := by simp; omega
        by_cases p4 : 40 < e.key.size
        · have d4 : decide (40 < e.key.size) = true := by simpa using p4
          have d4' : decide ((40 : Int) < (e.key.size : Int)) = true := by simp; omega
          have HF := Lib.hid (HBad.out (by unfold okC; rw [show decide (e.key.size ≤ 40) = false from by simp; omega]; simp))
          go_wp2_with fail
          go_quiet (fail)
          go_wp2_with fail
          go_ret2
          exact ⟨by rw [HF.out]; rfl, below_drewN HBx.out _⟩
        have d4 : decide (40 < e.key.size) = false := by simpa using p4
        have d4' : decide ((40 : Int) < (e.key.size : Int)) = false := by simp; omega
        obtain ⟨r, hr⟩ : ∃ r, ltB e'.key e.key = r := ⟨_, rfl⟩
        have HLs : Hid (∀ W, Calls Tryz.prog 178 #[.string e'.key, .string e.key] W (QuietRes (.bool r) W)) := Lib.hid (fun W => by rw [← hr]; exact less_any e'.key e.key W (by omega) (by omega))
        cases r with
        | false =>
          have HF := Lib.hid (HBad.out (by
            rw [Hs0.out, show leB e.key e'.key = true from by rw [leB_not]; exact hr]; simp))
          go_wp2_with fail
          go_quiet (((go_at_call 178; first | exact QuietRes.more (HLs.out _) | exact Calls.quiet_of (HLs.out _))))
          go_wp2_with fail
          go_ret2
          exact ⟨by rw [HF.out]; rfl, below_drewN HBx.out _⟩
        | true =>
          have hgd : (okC e && stepC (prevK l k) e) = true := by
            rw [Hs0.out, show leB e.key e'.key = false from by rw [not_leB]; exact hr]
            unfold okC
            simp; omega
          have HGd := Lib.hid hgd
          clear hgd hr
          have HG2 : Hid (rightGo (prevK l (k + 1)) (l.drop (k + 1)) = rightGo none l) := Lib.hid (by have h := HG.out; rw [rightGo_step HEk.out, HGd.out, Bool.true_and] at h; exact h)
          have hst := layB_take_succ l k e HEk.out
          have hle : (layB (l.take (k + 1))).length ≤ 17600000000000 := by
            have h1 := HBy.out
            have e2 : layB l = layB (l.take (k + 1)) ++ layB (l.drop (k + 1)) := by rw [← layB_append, List.take_append_drop]
            rw [e2, List.length_append] at h1
            omega
          have hPl : P.length + (chdB e).length ≤ 17600000000000 := by rw [hst, List.length_append, ← hP.out] at hle; exact hle
          have HNext : Hid (P ++ chdB e = layB (l.take (k + 1))) := Lib.hid (by rw [hst, hP.out])
          clear hst hle hP
          go_wp2_with fail
          go_quiet (((go_at_call 178; first | exact QuietRes.more (HLs.out _) | exact Calls.quiet_of (HLs.out _))))
          go_wp2_with fail
          refine (rchildB_any e HOk.out _).mono ?_
          rintro e1 w1 ⟨rfl, hb1⟩
          have HO1 := Lib.hid (own_below (HO.out.alloc (.cells #[.string e.key, .int .i64 e.pg] 192)) (undrewN hb1))
          have HB1 := Lib.hid (HBx.out.trans ((undrewN hb1).mono HBx.out.size))
          obtain ⟨S, hS⟩ : ∃ S, S = ByteArray.mk (chdB e).toArray := ⟨_, rfl⟩
          have hSz : S.size = (chdB e).length := by rw [hS]; show (chdB e).toArray.size = _; simp
          have HSd : Hid (S.data.toList = chdB e) := Lib.hid (by rw [hS, bytes_mk])
          rw [← hS]
          clear hb1 hS
          go_wp2_with (at_builtin; refine Lib.wpList_append_own_string _ rfl _ _ 160 9 rfl w.heap.size 5 i0 Tryz.underlying160 Tryz.underlying9 hi hz0 hz1 hz2 _ _ _ rfl HO1.out S rfl ?c3 ?c4 ?c5 ?_)
          case c3 => unfold maxLen; omega
          case c4 => omega
          case c5 => exact HB1.out.size
          intro v' w2 hown' hgrow _
          have HO2 : Hid (w2.ownsRow w.heap.size 5 1 v' (P ++ chdB e).length (Lib.byteCells (P ++ chdB e))) := Lib.hid (by
            have e2 : Lib.byteCells (P ++ chdB e) = Lib.byteCells P ++ Lib.strCells S := by rw [Lib.byteCells_append, ← HSd.out]; rfl
            rw [e2, List.length_append]
            first | exact hown' | (rw [← hSz]; exact hown'))
          have HB2 := Lib.hid (HB1.out.grown hgrow HB1.out.size (fun k hk => (HO1.out.lt k hk).1))
          clear hown' hgrow
          go_wp2_with fail
          go_roundw
          case rel => exact ⟨k + 1, P ++ chdB e, by omega, by go_num, HO2, HNext, HG2, HB2⟩
          case measure => simp [intOf]; omega
    · obtain rfl : k = n := by omega
      have hG := HG.out
      rw [List.drop_eq_nil_of_le (by rw [HL.out]; omega), rightGo] at hG
      have hfull : P = layB l := by rw [hP.out, List.take_of_length_le (by rw [HL.out]; omega)]
      have hr : rightC l = true := by
        unfold rightC
        rw [← hG]
        have : l ≠ [] := fun h => by have h1 := HL.out; rw [h] at h1; exact h0 h1.symm
        cases l with
        | nil => exact absurd rfl this
        | cons a r => rfl
      have hPl : P.length ≤ 17600000000000 := by rw [hfull]; exact HBy.out
      obtain ⟨np, hnp⟩ : ∃ np, np = P.length := ⟨_, rfl⟩
      have hcv := run_string_own (P := Tryz.prog) HO.out 160 9 Tryz.underlying160 Tryz.underlying5 Tryz.underlying9
      obtain ⟨pa, pc, hpv, _⟩ := own_shape HO.out
      subst hpv
      rw [← hnp] at hcv
      by_cases hlen : 240 < np
      · have hp : putC l = ([], 2) := by unfold putC; rw [if_pos hr, if_pos (by rw [← hfull, ← hnp]; exact hlen)]
        have HP := Lib.hid hp
        have dd : decide (240 < np) = true := by simpa using hlen
        have dd2 : decide ((240 : Int) < (np : Int)) = true := by simp; omega
        rw [← hnp] at hPl ⊢
        clear hp hfull hr hG hcv hP HG hnp
        go_wp2_with fail
        refine bodyPost_ret (v := .tuple #[.string ⟨#[]⟩, .int .i64 2]) (by simp [results, Tryz.results37, go_sem]) rfl ⟨by rw [HP.out], HB.out⟩
      · have hp : putC l = (P, 0) := by unfold putC; rw [if_pos hr, if_neg (by rw [← hfull, ← hnp]; exact hlen), hfull]
        have HP := Lib.hid hp
        have dd : decide (240 < np) = false := by simpa using hlen
        have dd2 : decide ((240 : Int) < (np : Int)) = false := by simp; omega
        rw [← hnp] at hPl ⊢
        clear hp hfull hr hG hP HG hnp
        go_wp2_with fail
        refine bodyPost_ret (v := .tuple #[.string ⟨P.toArray⟩, .int .i64 0]) (by simp [results, Tryz.results37, go_sem]) rfl ⟨by rw [HP.out], HB.out⟩
end
/-! ### The walk of arboretumref7's GetBranch. -/
section
open Go.RowKit
set_option linter.unusedVariables false
theorem RRdr.at7 {w w' : World} {b : Nat} {st : RSt} (h : RRdr w b st) (hb : w'.heap[b]? = w.heap[b]?) : RRdr w' b st := by
  obtain ⟨s, h1, h2, h3⟩ := h
  exact ⟨s, h1, h2, hb.trans h3⟩
theorem own_neT7 {w : World} {b base : Nat} {T e : TypeId} {size n : Nat} {cs : Array Value} {v : Value} {xs : List Value} (hb : w.heap[b]? = some (.cells cs T (0, 0))) (hT : T ≠ e) (h : w.ownsRow base e size v n xs) : v.ownBlock ≠ some b := by
  rcases h.2 with ⟨rfl, _⟩ | ⟨g, cap, cur, rfl, _, hg, _⟩
  · simp [Value.ownBlock]
  · intro he
    have hgb : g = b := by simpa [Value.ownBlock] using he
    subst hgb
    rw [hb] at hg
    injection hg with hg
    injection hg with _ h2
    exact hT h2
/-- A reader of the call's own, a struct that is being made, and a row. -/
structure RT (w0 W : World) (T : TypeId) (size b ge : Nat) (st : RSt) (cs : Array Value) (v : Value) (k : Nat) (xs : List Value) : Prop where
  rd : RRdr W b st
  blk : W.heap[ge]? = some (.cells cs T (0, 0))
  lo : w0.heap.size ≤ ge
  hb : w0.heap.size ≤ b
  own : W.ownsRow w0.heap.size T size v k xs
  ne : v.ownBlock ≠ some ge
  bel : Below w0.heap.size w0 W
theorem RT.apart {w0 W : World} {T : TypeId} {size b ge : Nat} {st : RSt} {cs : Array Value} {v : Value} {k : Nat} {xs : List Value} (h : RT w0 W T size b ge st cs v k xs) (hT : 47 ≠ T) : v.ownBlock ≠ some b ∧ ge ≠ b := by
  obtain ⟨s, _, _, h3⟩ := h.rd
  refine ⟨own_neT7 h3 hT h.own, fun e => ?_⟩
  have h1 := h.blk
  rw [e, h3] at h1
  injection h1 with h1
  injection h1 with _ h1
  exact hT h1
theorem RT.call {w0 W W' : World} {T : TypeId} {size b ge : Nat} {st st' : RSt} {cs : Array Value} {v : Value} {k : Nat} {xs : List Value} (h : RT w0 W T size b ge st cs v k xs) (hT : 47 ≠ T) (h' : RRdr W' b st') (hg : W.grownBy W' (some b)) : RT w0 W' T size b ge st' cs v k xs :=
  ⟨h', (hg.block ge (blk_lt h.blk) (fun e => by injection e with e; exact (h.apart hT).2 e)).trans h.blk, h.lo, h.hb, h.own.kept hg (.inr (h.apart hT).1), h.ne, h.bel.grown hg h.bel.size (fun j hj => by injection hj with hj; have := h.hb; omega)⟩
theorem RT.set {w0 W : World} {T : TypeId} {size b ge : Nat} {st : RSt} {cs : Array Value} {v : Value} {k : Nat} {xs : List Value} (h : RT w0 W T size b ge st cs v k xs) (hT : 47 ≠ T) (i : Nat) (u : Value) : RT w0 (W.setCell ⟨ge, i, none⟩ u) T size b ge st (cs.setIfInBounds i u) v k xs := by
  have hg := grown_set W ge i u
  refine ⟨h.rd.at7 (hg.block b h.rd.lt (fun e => (h.apart hT).2 (by injection e with e; exact e.symm))), blk_set h.blk i u, h.lo, h.hb, h.own.kept hg (.inr h.ne), h.ne, h.bel.grown hg h.bel.size (fun j hj => by injection hj with hj; have := h.lo; omega)⟩
theorem RT.start {w0 W : World} {T : TypeId} {size b k : Nat} {st : RSt} {v : Value} {xs : List Value} (h : RRdr W b st) (hb : w0.heap.size ≤ b) (ho : W.ownsRow w0.heap.size T size v k xs) (hbel : Below w0.heap.size w0 W) (cs : Array Value) :
    RT w0 (W.alloc (.cells cs T)) T size b W.heap.size st cs v k xs :=
  ⟨h.below ((Below.refl _ _).alloc (Nat.le_refl _) _), heap_alloc_new W _, hbel.size, hb, ho.alloc _, (fun e => by have := (ho.lt _ e).2; omega), hbel.alloc hbel.size _⟩
theorem RT.cells {w0 W : World} {T : TypeId} {size b ge : Nat} {st : RSt} {cs : Array Value} {v : Value} {k : Nat} {xs : List Value} (h : RT w0 W T size b ge st cs v k xs) (i : Nat) : W.cell? ⟨ge, i, none⟩ = cs[i]? ∧ W.frozen? ⟨ge, i, none⟩ = false := ⟨blk_cell h.blk i, blk_frozen h.blk i⟩
set_option maxRecDepth 100000 in
set_option maxHeartbeats 8000000 in
theorem rgetC_any (s : ByteArray) (w : World) (hs : s.size ≤ 1000000) :
    Calls Tryz.prog 39 #[.string s] w (GetResC s.data.toList w) := by
  obtain ⟨i0, hi, hz0, hz1, hz2⟩ := info_parts chdInfoG
  obtain ⟨g0, hg0⟩ : ∃ g, g = getGo (s.data.toList.length + 1) (s.data.toList, 0) [] := ⟨_, rfl⟩
  have HP : Hid (getC s.data.toList = if g0.2.2 = 0 ∧ putC g0.1 = (s.data.toList, 0) then (g0.1, 0) else ([], 4)) := Lib.hid (by rw [hg0]; rfl)
  have hsl : s.data.toList.length = s.size := rfl
  rw [hsl] at hg0
  have HG0 := Lib.hid hg0
  have HR0 : Hid (RRdr (w.alloc (.cells #[.string s, .int .i64 0] 47)) w.heap.size (s.data.toList, 0)) := Lib.hid ⟨s, rfl, by omega, heap_alloc_new w _⟩
  have HB0 : Hid (Below w.heap.size w (w.alloc (.cells #[.string s, .int .i64 0] 47))) := Lib.hid ((Below.refl _ _).alloc (Nat.le_refl _) _)
  clear hg0 hsl
  go_enter Tryz.func39, Tryz.ntmps39
  go_wp2_with fail
  go_loopw [5] (fun l wr => ∃ (k : Nat) (acc : List Chd) (ao : Option Addr) (c : Nat) (st : RSt), l = .slice ao k c ∧ Hid (wr.ownsRow w.heap.size 192 2 (.slice ao k c) k (chdCells acc)) ∧ Hid (acc.length = k ∧ ∀ e ∈ acc, ChdOk e ∧ e.key.size ≤ 40) ∧ Hid (getGo (s.size + 1 - k) st acc = g0) ∧ Hid (RRdr wr w.heap.size st) ∧ k ≤ s.size + 1 ∧ Hid (st.2 = 0 → k + st.1.length ≤ s.size) ∧ Hid (Below w.heap.size w wr)) (fun l _ => s.size + 1 - sliceN l)
  case atStart => exact ⟨0, [], none, 0, (s.data.toList, 0), rfl, Lib.hid (World.ownsRow_nil _ _ _ _), Lib.hid ⟨rfl, by simp⟩, Lib.hid (by rw [HG0.out]; rfl), HR0, by omega, Lib.hid (fun _ => by show 0 + s.size ≤ _; omega), HB0⟩
  case round =>
    obtain ⟨k, acc, ao, c, st, rfl, HO, HA, HG, HR, hk, HL, HB⟩ := hrel
    obtain ⟨sb, hsb, hsbz, e0, e1, _, _⟩ := HR.out.facts
    have hsb2 : sb.size = st.1.length := by rw [← hsb]; rfl
    by_cases hgo : st.2 = 0 ∧ st.1 ≠ []
    · obtain ⟨h0, h1⟩ := hgo
      have hl1 := HL.out h0
      have hl2 : 0 < st.1.length := List.length_pos_iff.2 h1
      have hG := HG.out
      rw [show s.size + 1 - k = (s.size + 1 - (k + 1)) + 1 from by omega, getGo, if_pos ⟨h0, h1⟩] at hG
      have HG' := Lib.hid hG
      rw [h0] at e1
      have z1 : decide (0 < sb.size) = true := by simp; omega
      have z2 : decide ((0 : Int) < (sb.size : Int)) = true := by simp; omega
      have HE0 := Lib.hid (RT.start HR.out (Nat.le_refl _) HO.out HB.out #[.string ⟨#[]⟩, .int .i64 0])
      obtain ⟨ge, hge⟩ : ∃ ge, ge = wr.heap.size := ⟨_, rfl⟩
      rw [← hge] at HE0
      have HV1 := Lib.hid (rrtext_any HE0.out.rd 40)
      have hck := getChd_ok st
      have hcl := getChd_lt st
      obtain ⟨a1, ha1⟩ : ∃ a1, a1 = rText 40 st := ⟨_, rfl⟩
      have hcd : getChd st = (⟨bsC a1.1, (rVar a1.2).1⟩, (rVar a1.2).2) := by rw [ha1]; rfl
      have HCd := Lib.hid hcd
      have HCk := Lib.hid (And.intro hck hcl)
      rw [← ha1] at HV1
      have HL1 : Hid (k + st.1.length ≤ s.size) := Lib.hid hl1
      have hk2 : k < s.size := by omega
      clear hG h0 h1 ha1 hcd hck hcl hl1 hl2 hsb2
      go_wp2_with fail
      refine HV1.out.mono ?_
      rintro e w2 ⟨rfl, R2, hg2⟩
      have HE1 := Lib.hid (HE0.out.call (by decide) R2 hg2)
      have c1 := (HE1.out.cells 0).1
      have f1 := (HE1.out.cells 0).2
      have HE1' := Lib.hid (HE1.out.set (by decide) 0 (.string ⟨a1.1.toArray⟩))
      rw [hge] at c1 f1
      have HV2 := Lib.hid (rrvar_any HE1'.out.rd)
      obtain ⟨a2, ha2⟩ : ∃ a2, a2 = rVar a1.2 := ⟨_, rfl⟩
      rw [← ha2, hge] at HV2
      rw [← ha2] at HCd
      clear ha2 R2 hg2 HV1 HE0
      go_wp2_with fail
      refine HV2.out.mono ?_
      rintro e w3 ⟨rfl, R3, hg3⟩
      rw [← hge] at hg3
      have HE2 := Lib.hid (HE1'.out.call (by decide) R3 hg3)
      have c2 := (HE2.out.cells 1).1
      have f2 := (HE2.out.cells 1).2
      have d0 := (HE2.out.cells 0).1
      have HE2' := Lib.hid (HE2.out.set (by decide) 1 (.int .i64 a2.1))
      rw [hge] at c2 f2 d0
      simp at d0 c2
      have HRd := HE2'.out.rd
      have HOw := HE2'.out.own
      have HBl := HE2'.out.bel
      have hsz6 := HE2'.out.bel.size
      rw [hge] at HRd HOw HBl hsz6
      have HR6 := Lib.hid HRd
      have HO6 := Lib.hid HOw
      have HW6 := Lib.hid HBl
      have hkm : k ≤ 1000000 := by omega
      clear R3 hg3 HV2 HE1 HE1' HE2 HE2' HRd HOw HBl hge c1 f1
      go_wp2_with (at_builtin; refine wpList_append_own_at _ rfl (.tmp 31) (.tmp 33) 66 rfl w.heap.size 192 i0 _ 2 24 Tryz.underlying66 hi hz0 hz1 hz2 rfl (by omega) _ k (chdCells acc) rfl (HO6.out.alloc _) ⟨w3.heap.size, 0, none⟩ 1 1 [.string ⟨a1.1.toArray⟩, .int .i64 a2.1] rfl rfl (World.news_of_block (new_at _ _ _ (by simp))) (chdCells_one [⟨⟨a1.1.toArray⟩, a2.1⟩]) (by unfold maxLen; omega) (by omega) (Nat.le_trans hsz6 (by simp)) ?_; intro v1 w8 hown8 hg8' _ hat8; have hg8 := (World.grownBy_alloc _ _ _).trans hg8'; have HO8 := Lib.hid hown8; obtain ⟨sx, _, _, hx3⟩ := HR6.out; have hbk : some w.heap.size ≠ (Value.slice ao k c).ownBlock := (fun e => own_neT7 hx3 (by decide) HO6.out e.symm); have HR8 := Lib.hid (HR6.out.at7 (hg8.block w.heap.size HR6.out.lt hbk)); have HW8 := Lib.hid (HW6.out.grown hg8 hsz6 (fun j hj => (HO6.out.lt j hj).1)); obtain ⟨g8, cap8, hv8, _⟩ := hown8.form (by omega); subst hv8; clear hown8 hg8 hg8' hbk hx3)
      go_roundw
      case rel => exact ⟨k + 1, acc ++ [⟨bsC a1.1, a2.1⟩], some ⟨g8, 0, none⟩, cap8, a2.2, rfl, Lib.hid (by rw [chdCells_append]; exact HO8.out), Lib.hid (by
          obtain ⟨c1, c2⟩ := HA.out
          obtain ⟨c3, _⟩ := HCk.out
          rw [HCd.out] at c3
          refine ⟨by rw [List.length_append, c1]; rfl, fun e he => ?_⟩
          rcases List.mem_append.1 he with he | he
          · exact c2 e he
          · have : e = ⟨bsC a1.1, a2.1⟩ := by simpa using he
            rw [this]; exact c3), Lib.hid (by rw [← HG'.out, HCd.out]), HR8, by omega, Lib.hid (fun h => by
          obtain ⟨_, c4⟩ := HCk.out
          rw [HCd.out] at c4
          have := c4 h
          have := HL1.out
          show k + 1 + a2.2.1.length ≤ _
          dsimp only at *
          omega), HW8⟩
      case measure => simp [sliceN]; omega
    · have hfin : g0 = (acc, st) := by rw [← HG.out]; exact getGo_stop _ _ _ hgo
      have hP := HP.out
      rw [hfin] at hP
      dsimp only at hP
      obtain ⟨hA1, hA2⟩ := HA.out
      have hcd : ChdsOk wr ao k acc := ⟨chds_own HO.out, fun e he => (hA2 e he).1, by omega, by
        have : (acc.map (·.key.size)).sum ≤ 40 * acc.length := by
          clear hP hA1 HG hfin HO HA
          induction acc with
          | nil => simp
          | cons a r ih =>
            have h1 := (hA2 a List.mem_cons_self).2
            have h2 := ih (fun e he => hA2 e (List.mem_cons_of_mem _ he))
            rw [List.map_cons, List.sum_cons, List.length_cons]
            omega
        omega⟩
      have HPt := Lib.hid (rputC_any (c := c) hcd)
      obtain ⟨q, hq⟩ : ∃ q, q = putC acc := ⟨_, rfl⟩
      rw [← hq] at HPt hP
      have HLn := Lib.hid hA1
      have HF1 : Hid (∀ W, Below wr.heap.size wr W → W.cell? ⟨w.heap.size, 1, none⟩ = some (.int .i64 st.2)) := Lib.hid (fun W hb => by have h := (HR.out.below hb).facts; obtain ⟨_, _, _, _, h, _⟩ := h; exact h)
      have hres : ∀ W, Below wr.heap.size wr W → Below w.heap.size w W := fun W hb => HB.out.trans (hb.mono HB.out.size)
      have HBel := Lib.hid hres
      have HOw : Hid (∀ W, Below wr.heap.size wr W → W.ownsRow w.heap.size 192 2 (.slice ao k c) k (chdCells acc)) := Lib.hid (fun W hb => own_below HO.out hb)
      have HHP := Lib.hid hP
      have z0 : ((st.2 == 0) = true → decide (0 < sb.size) = false) := fun h => by
        have h0 : st.2 = 0 := by simpa using h
        have h1 : st.1 = [] := Classical.byContradiction fun hn => hgo ⟨h0, hn⟩
        rw [h1] at hsb2
        simp at hsb2
        simp [hsb2]
      have HZ := Lib.hid z0
      clear hcd hA2 hP hq hfin HG HG0 HP hres z0 hgo hsb2 hA1
      by_cases h0 : st.2 = 0
      · have zz := HZ.out (by simpa using h0)
        have zz2 : decide ((0 : Int) < (sb.size : Int)) = false := by simp at zz; simp [zz]
        rw [h0] at e1 HF1
        obtain ⟨q1, q2⟩ := q
        obtain ⟨z, hz⟩ : ∃ z, ((ByteArray.mk q1.toArray).toList == s.toList) = z := ⟨_, rfl⟩
        have hzq : z = true ↔ q1 = s.data.toList := by
          rw [← hz, beq_iff_eq, ByteArray.toList_eq, ByteArray.toList_eq, bytes_mk]
        obtain ⟨Q, hQ⟩ : ∃ Q, Q = ByteArray.mk q1.toArray := ⟨_, rfl⟩
        dsimp only at HPt
        rw [← hQ] at HPt hz
        clear hQ
        by_cases hq2 : q2 = 0
        · subst hq2
          cases z with
          | true =>
            have hP := HHP.out
            rw [if_pos ⟨h0, by rw [hzq.1 rfl]⟩] at hP
            have HRes := Lib.hid hP
            clear hP h0 hzq HHP HZ
            go_wp2_with fail
            refine HPt.out.mono ?_
            rintro e w5 ⟨rfl, hb5⟩
            have g1 := HF1.out w5 hb5
            have HB5 := Lib.hid (HBel.out w5 hb5)
            have HO5 := Lib.hid (HOw.out w5 hb5)
            clear hb5 HPt HF1 HOw HBel
            go_wp2_with fail
            go_ret2
            exact ⟨ao, k, c, by rw [HRes.out]; rfl, by rw [HRes.out]; exact HO5.out, by rw [HRes.out]; exact HLn.out, HB5.out⟩
          | false =>
            have hP := HHP.out
            rw [if_neg (by rintro ⟨_, h⟩; injection h with h _; exact absurd (hzq.2 h) (by decide))] at hP
            have HRes := Lib.hid hP
            clear hP h0 hzq HHP HZ
            go_wp2_with fail
            refine HPt.out.mono ?_
            rintro e w5 ⟨rfl, hb5⟩
            have g1 := HF1.out w5 hb5
            have HB5 := Lib.hid (HBel.out w5 hb5)
            have HO5 := Lib.hid (HOw.out w5 hb5)
            clear hb5 HPt HF1 HOw HBel
            go_wp2_with fail
            go_ret2
            exact ⟨none, 0, 0, by rw [HRes.out]; rfl, by rw [HRes.out]; exact World.ownsRow_nil _ _ _ _, by rw [HRes.out]; rfl, HB5.out⟩
        · have hP := HHP.out
          rw [if_neg (by rintro ⟨_, h⟩; injection h with _ h; exact hq2 h)] at hP
          have HRes := Lib.hid hP
          have hd : (q2 != 0) = true := by simpa using hq2
          clear hP h0 hzq HHP HZ hz hq2
          go_wp2_with fail
          refine HPt.out.mono ?_
          rintro e w5 ⟨rfl, hb5⟩
          have g1 := HF1.out w5 hb5
          have HB5 := Lib.hid (HBel.out w5 hb5)
          have HO5 := Lib.hid (HOw.out w5 hb5)
          clear hb5 HPt HF1 HOw HBel
          go_wp2_with fail
          go_ret2
          exact ⟨none, 0, 0, by rw [HRes.out]; rfl, by rw [HRes.out]; exact World.ownsRow_nil _ _ _ _, by rw [HRes.out]; rfl, HB5.out⟩
      · have hP := HHP.out
        rw [if_neg (fun h => h0 h.1)] at hP
        have HRes := Lib.hid hP
        obtain ⟨r, hr⟩ : ∃ r, r = st.2 := ⟨_, rfl⟩
        rw [← hr] at e1 HF1 h0
        have hd1 : (r != 0) = true := by simpa using h0
        have hd2 : (r == 0) = false := by simpa using h0
        clear hP h0 HHP HZ hr
        go_wp2_with fail
        refine HPt.out.mono ?_
        rintro e w5 ⟨rfl, hb5⟩
        have g1 := HF1.out w5 hb5
        have HB5 := Lib.hid (HBel.out w5 hb5)
        have HO5 := Lib.hid (HOw.out w5 hb5)
        clear hb5 HPt HF1 HOw HBel
        go_wp2_with fail
        go_ret2
        exact ⟨none, 0, 0, by rw [HRes.out]; rfl, by rw [HRes.out]; exact World.ownsRow_nil _ _ _ _, by rw [HRes.out]; rfl, HB5.out⟩
end
end Go.Proofs.YtmdidmllaldbaaaGreat
