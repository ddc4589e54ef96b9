/- The walks of arboretumref7's itemBytes, Right, LeafSize. -/
import Derived.Test.YtmdidmllaldbaaaGreatRefRdr
import Derived.Test.YtmdidmllaldbaaaGreatPutI
import Derived.Test.YtmdidmllaldbaaaGreatSince
import Derived.Test.YtmdidmllaldbaaaGreatRefS
import Derived.Test.YtmdidmllaldbaaaGreatGetPI
import Derived.Test.YtmdidmllaldbaaaGreatGetI
namespace Go.Proofs.YtmdidmllaldbaaaGreat
/-! ### The walks of arboretumref7's itemBytes, Right, LeafSize. -/
section
open Go.RowKit
set_option linter.unusedVariables false
attribute [local irreducible] var1
set_option maxRecDepth 20000 in
set_option maxHeartbeats 4000000 in
theorem ritemB_any0 (e : Itm) (hok : ItmOk e) (h0 : e.ov = 0) (w : World) :
    Calls Tryz.prog 202 #[e.agg] w fun e' w' => e' = .returned (.string ⟨(itmB e).toArray⟩) ∧ Below w.heap.size w w' := by
  obtain ⟨⟨h1, h2⟩, ⟨h3, h4⟩, h5, h6⟩ := hok
  have HT := Lib.hid (fun W => rtext_any e.key (by omega) W)
  have HT2 := Lib.hid (fun W => rtext_any e.vl (by omega) W)
  have HV := Lib.hid (fun W => rvar1_any e.ov h1 h2 W)
  have HV2 := Lib.hid (fun W => rvar1_any e.sz h3 h4 W)
  have HBo := Lib.hid (fun W => rbool_ref (e.ov != 0) W)
  have hk : e.key.data.toList.length = e.key.size := rfl
  have hk2 : e.vl.data.toList.length = e.vl.size := rfl
  have hhl := headI_len e
  have l1 := var1_len e.ov
  have l2 := var1_len e.sz
  have l3 := var1_len (e.vl.data.toList.length : Int)
  have HC1 : Hid (∀ W : World, (Op.stringOp .add ⟨(textB e.key.data.toList).toArray⟩ ⟨(boolR (e.ov != 0)).toArray⟩).run Tryz.prog W = .ok (.string ⟨(headI e).toArray⟩) W) := Lib.hid (fun W => by
    have h := cat_run (textB e.key.data.toList) (boolR (e.ov != 0)) W (by
      have : (headI e).length = (textB e.key.data.toList).length + (boolR (e.ov != 0)).length := by unfold headI; rw [List.length_append]; rfl
      omega)
    exact h)
  unfold Itm.agg
  have hb : (e.ov != 0) = false := by simp [h0]
  have HC2 : Hid (∀ W : World, (Op.stringOp .add ⟨(headI e).toArray⟩ ⟨(textB e.vl.data.toList).toArray⟩).run Tryz.prog W = .ok (.string ⟨(itmB e).toArray⟩) W) := Lib.hid (fun W => by
    have h := cat_run (headI e) (textB e.vl.data.toList) W (by unfold textB; rw [List.length_append]; omega)
    have e2 : itmB e = headI e ++ textB e.vl.data.toList := by unfold itmB tailI; rw [if_pos h0]; unfold textsB; simp
    rw [e2]; exact h)
  rw [hb] at HBo HC1
  have HH0 := Lib.hid h0
  clear h0 hhl l1 l2 l3 hk hk2
  go_enter Tryz.func202, Tryz.ntmps202
  go_wp2_with fail
  have q : ∀ p : SinceW (w.heap.size + 1) (w.alloc (.cells #[.string e.key, .string e.vl, .int .i64 e.ov, .int .i64 e.sz] 133)), p.w.cell? ⟨w.heap.size, 0, none⟩ = some (.string e.key) ∧ p.w.cell? ⟨w.heap.size, 2, none⟩ = some (.int .i64 e.ov) := fun p => by
    have hk := (p.h.block w.heap.size (by omega)).trans (heap_alloc_new w _)
    exact ⟨by rw [blk_cell hk]; rfl, by rw [blk_cell hk]; rfl⟩
  have q0 := fun p => (q p).1
  have q1 := fun p => (q p).2
  have hcat := HC1.out
  clear q
  refine wp_region_since (B := w.heap.size + 1) (W0 := w.alloc (.cells #[.string e.key, .string e.vl, .int .i64 e.ov, .int .i64 e.sz] 133)) (by kernel_rfl) (by kernel_rfl) (Below.refl _ _) ?_
  repeat (go_big_quiet_step (first
    | (go_at_call 130; exact since_call (by simp) (HT.out _))
    | (go_at_call 191; exact since_same (HBo.out _))))
  refine wpQuiet_nil ?_
  intro w5 hw'
  obtain ⟨⟨w9, hv5⟩, rfl⟩ := hw'
  have hk5 := (hv5.block w.heap.size (by omega)).trans (heap_alloc_new w _)
  have c2 : w5.cell? ⟨w.heap.size, 2, none⟩ = some (.int .i64 e.ov) := by rw [blk_cell hk5]; rfl
  have c1 : w5.cell? ⟨w.heap.size, 1, none⟩ = some (.string e.vl) := by rw [blk_cell hk5]; rfl
  have HB5 := Lib.hid (((Below.refl w.heap.size w).alloc (Nat.le_refl _) _).trans (hv5.mono (by omega)))
  clear q0 q1 hv5 hcat hk5
  go_wp2_with fail
  refine (HT2.out _).mono ?_
  rintro e1 w6 ⟨rfl, hb6⟩
  have HB6 := Lib.hid (HB5.out.trans (hb6.mono HB5.out.size))
  have hcat := HC2.out w6
  clear hb6 hb HH0 HC1 HC2 HT HT2 HV HV2 HBo HB5
  go_wp2_with fail
  clear hcat c1 c2
  go_ret
  exact ⟨by simp, HB6.out⟩
set_option maxRecDepth 20000 in
set_option maxHeartbeats 4000000 in
theorem ritemB_any1 (e : Itm) (hok : ItmOk e) (h0 : ¬ e.ov = 0) (w : World) :
    Calls Tryz.prog 202 #[e.agg] w fun e' w' => e' = .returned (.string ⟨(itmB e).toArray⟩) ∧ Below w.heap.size w w' := by
  obtain ⟨⟨h1, h2⟩, ⟨h3, h4⟩, h5, h6⟩ := hok
  have HT := Lib.hid (fun W => rtext_any e.key (by omega) W)
  have HT2 := Lib.hid (fun W => rtext_any e.vl (by omega) W)
  have HV := Lib.hid (fun W => rvar1_any e.ov h1 h2 W)
  have HV2 := Lib.hid (fun W => rvar1_any e.sz h3 h4 W)
  have HBo := Lib.hid (fun W => rbool_ref (e.ov != 0) W)
  have hk : e.key.data.toList.length = e.key.size := rfl
  have hk2 : e.vl.data.toList.length = e.vl.size := rfl
  have hhl := headI_len e
  have l1 := var1_len e.ov
  have l2 := var1_len e.sz
  have l3 := var1_len (e.vl.data.toList.length : Int)
  have HC1 : Hid (∀ W : World, (Op.stringOp .add ⟨(textB e.key.data.toList).toArray⟩ ⟨(boolR (e.ov != 0)).toArray⟩).run Tryz.prog W = .ok (.string ⟨(headI e).toArray⟩) W) := Lib.hid (fun W => by
    have h := cat_run (textB e.key.data.toList) (boolR (e.ov != 0)) W (by
      have : (headI e).length = (textB e.key.data.toList).length + (boolR (e.ov != 0)).length := by unfold headI; rw [List.length_append]; rfl
      omega)
    exact h)
  unfold Itm.agg
  have hb : (e.ov != 0) = true := by simp [h0]
  have HC2 : Hid (∀ W : World, (Op.stringOp .add ⟨(headI e).toArray⟩ ⟨(var1 e.ov).toArray⟩).run Tryz.prog W = .ok (.string ⟨(headI e ++ var1 e.ov).toArray⟩) W) := Lib.hid (fun W => cat_run _ _ W (by omega))
  have HC3 : Hid (∀ W : World, (Op.stringOp .add ⟨(headI e ++ var1 e.ov).toArray⟩ ⟨(var1 e.sz).toArray⟩).run Tryz.prog W = .ok (.string ⟨(itmB e).toArray⟩) W) := Lib.hid (fun W => by
    have h := cat_run (headI e ++ var1 e.ov) (var1 e.sz) W (by rw [List.length_append]; omega)
    have e2 : itmB e = headI e ++ var1 e.ov ++ var1 e.sz := by unfold itmB tailI; rw [if_neg h0]; simp [vars, List.append_assoc]
    rw [e2]; exact h)
  rw [hb] at HBo HC1
  clear h0 hhl l1 l2 l3 hk hk2
  obtain ⟨A0, hA0⟩ : ∃ A, A = ByteArray.mk (headI e).toArray := ⟨_, rfl⟩
  obtain ⟨A1, hA1⟩ : ∃ A, A = ByteArray.mk (headI e ++ var1 e.ov).toArray := ⟨_, rfl⟩
  obtain ⟨A2, hA2⟩ : ∃ A, A = ByteArray.mk (itmB e).toArray := ⟨_, rfl⟩
  obtain ⟨V1, hV1⟩ : ∃ A, A = ByteArray.mk (var1 e.ov).toArray := ⟨_, rfl⟩
  obtain ⟨V2, hV2⟩ : ∃ A, A = ByteArray.mk (var1 e.sz).toArray := ⟨_, rfl⟩
  rw [← hA2]
  rw [← hA0] at HC1 HC2
  rw [← hA1] at HC2 HC3
  rw [← hA2] at HC3
  rw [← hV1] at HC2 HV
  rw [← hV2] at HC3 HV2
  clear hA0 hA1 hA2 hV1 hV2
  go_enter Tryz.func202, Tryz.ntmps202
  go_wp2_with fail
  have q : ∀ p : SinceW (w.heap.size + 1) (w.alloc (.cells #[.string e.key, .string e.vl, .int .i64 e.ov, .int .i64 e.sz] 133)), p.w.cell? ⟨w.heap.size, 0, none⟩ = some (.string e.key) ∧ p.w.cell? ⟨w.heap.size, 2, none⟩ = some (.int .i64 e.ov) := fun p => by
    have hk := (p.h.block w.heap.size (by omega)).trans (heap_alloc_new w _)
    exact ⟨by rw [blk_cell hk]; rfl, by rw [blk_cell hk]; rfl⟩
  have q0 := fun p => (q p).1
  have q1 := fun p => (q p).2
  have hcat := HC1.out
  clear q
  refine wp_region_since (B := w.heap.size + 1) (W0 := w.alloc (.cells #[.string e.key, .string e.vl, .int .i64 e.ov, .int .i64 e.sz] 133)) (by kernel_rfl) (by kernel_rfl) (Below.refl _ _) ?_
  repeat (go_big_quiet_step (first
    | (go_at_call 130; exact since_call (by simp) (HT.out _))
    | (go_at_call 191; exact since_same (HBo.out _))))
  refine wpQuiet_nil ?_
  intro w5 hw'
  obtain ⟨⟨w9, hv5⟩, rfl⟩ := hw'
  have hk5 := (hv5.block w.heap.size (by omega)).trans (heap_alloc_new w _)
  have c2 : w5.cell? ⟨w.heap.size, 2, none⟩ = some (.int .i64 e.ov) := by rw [blk_cell hk5]; rfl
  have HK5 := Lib.hid hk5
  have HL5 := Lib.hid (blk_lt hk5)
  have HB5 := Lib.hid (((Below.refl w.heap.size w).alloc (Nat.le_refl _) _).trans (hv5.mono (by omega)))
  clear q0 q1 hv5 hcat hk5
  go_wp2_with fail
  have q : ∀ p : SinceW w5.heap.size w5, p.w.cell? ⟨w.heap.size, 2, none⟩ = some (.int .i64 e.ov) ∧ p.w.cell? ⟨w.heap.size, 3, none⟩ = some (.int .i64 e.sz) := fun p => by
    have hk := (p.h.block w.heap.size HL5.out).trans HK5.out
    exact ⟨by rw [blk_cell hk]; rfl, by rw [blk_cell hk]; rfl⟩
  have q0 := fun p => (q p).1
  have q1 := fun p => (q p).2
  have hc2 := HC2.out
  have hc3 := HC3.out
  clear q c2
  refine wp_region_since (B := w5.heap.size) (W0 := w5) (by kernel_rfl) (by kernel_rfl) (Below.refl _ _) ?_
  iterate 7 (go_big_quiet_step (first | (go_at_call 129; exact since_call (Nat.le_refl _) (HV.out _))))
  repeat (go_big_quiet_step (first | (go_at_call 129; exact since_call (Nat.le_refl _) (HV2.out _))))
  refine wpQuiet_nil ?_
  intro w6 hw'
  obtain ⟨⟨w9, hv6⟩, rfl⟩ := hw'
  have HB6 := Lib.hid (HB5.out.trans (hv6.mono HB5.out.size))
  clear q0 q1 hv6 hc2 hc3
  go_wp2_with fail
  go_ret
  exact ⟨rfl, HB6.out⟩
theorem ritemB_any (e : Itm) (hok : ItmOk e) (w : World) :
    Calls Tryz.prog 202 #[e.agg] w fun e' w' => e' = .returned (.string ⟨(itmB e).toArray⟩) ∧ Below w.heap.size w w' := by
  by_cases h0 : e.ov = 0
  · exact ritemB_any0 e hok h0 w
  · exact ritemB_any1 e hok h0 w
set_option maxRecDepth 20000 in
set_option maxHeartbeats 2000000 in
theorem rsizeI_any {ao : Option Addr} {n c : Nat} {l : List Itm} {w : World} (h : ItmsOk w ao n l) :
    Calls Tryz.prog 100 #[.slice ao n c] w fun e w' => e = .returned (.int .i64 (layI l).length) ∧ Below w.heap.size w w' := by
  have HH := Lib.hid h
  have hn : n ≤ 2000000 := h.few
  have HL := Lib.hid h.len
  have HBy := Lib.hid h.bytes
  clear h
  go_enter Tryz.func100, Tryz.ntmps100
  go_wp2_with fail
  go_loopw [3, 4] (fun x i wr => ∃ (k s : Nat), k ≤ n ∧ i = .int .i64 k ∧ x = .int .i64 s ∧ s ≤ 17600000000000 ∧ Hid (s = (layI (l.take k)).length) ∧ Hid (Below w.heap.size w wr)) (fun _ i _ => n - (intOf i).toNat)
  case atStart => exact ⟨0, 0, Nat.zero_le _, rfl, rfl, by omega, Lib.hid (by simp [layI]), Lib.hid (Below.refl _ _)⟩
  case round =>
    obtain ⟨k, s, hk, rfl, rfl, hs, HS, HB⟩ := hrel
    by_cases hlt : k < n
    · obtain ⟨b, o, e, rfl, hbB, hek, q1, q2, q3, q4⟩ := (HH.out.below HB.out).itms.get hlt
      have hok := HH.out.ok e (List.mem_of_getElem? hek)
      have hst := layI_take_succ l k e hek
      have hle : (layI (l.take (k + 1))).length ≤ 17600000000000 := by
        have h1 := HBy.out
        have e2 : layI l = layI (l.take (k + 1)) ++ layI (l.drop (k + 1)) := by rw [← layI_append, List.take_append_drop]
        rw [e2, List.length_append] at h1
        omega
      have hcl : s + (itmB e).length = (layI (l.take (k + 1))).length := by rw [hst, List.length_append, ← HS.out]
      have HN : Hid (s + (itmB e).length = (layI (l.take (k + 1))).length) := Lib.hid hcl
      have hsn : s + (itmB e).length ≤ 17600000000000 := by omega
      have HCh := Lib.hid (ritemB_any e hok wr)
      have hsz : (ByteArray.mk (itmB e).toArray).size = (itmB e).length := by show (itmB e).toArray.size = _; simp
      have hx1 : (0 : Int) ≤ k := by omega
      have hx2 : (k : Int) < n := by omega
      clear hek hst hle hcl
      go_wp2_with fail
      refine HCh.out.mono ?_
      rintro e1 w1 ⟨rfl, hb1⟩
      have HB1 := Lib.hid (HB.out.trans (hb1.mono HB.out.size))
      clear hb1
      go_wp2_with fail
      go_roundw
      case rel => exact ⟨k + 1, s + (itmB e).length, by omega, by go_num, by go_num, hsn, HN, HB1⟩
      case measure => simp [intOf]; omega
    · obtain rfl : k = n := by omega
      have hf : s = (layI l).length := by rw [HS.out, List.take_of_length_le (by rw [HL.out]; omega)]
      have HF := Lib.hid hf
      clear hf
      go_wp2_with fail
      go_ret
      exact ⟨by rw [← HF.out]; rfl, HB.out⟩
end
/-! ### The walks of arboretumref7's Right. -/
section
open Go.RowKit
set_option linter.unusedVariables false
set_option maxRecDepth 20000 in
set_option maxHeartbeats 4000000 in
theorem rright_any (e : Itm) (hok : ItmOk e) (w : World) :
    Calls Tryz.prog 201 #[e.agg] w fun e' w' => e' = .returned (.bool (okI e)) ∧ Below w.heap.size w w' := by
  obtain ⟨⟨o1, o2⟩, ⟨y1, y2⟩, hk, hv⟩ := hok
  have hb : Below w.heap.size w (w.alloc (.cells #[.string e.key, .string e.vl, .int .i64 e.ov, .int .i64 e.sz] 133)) := (Below.refl _ _).alloc (Nat.le_refl _) _
  have HB := Lib.hid hb
  clear hb
  unfold Itm.agg
  rcases Classical.em (e.key.size < 1) with p1 | p1
  · have dp10 : decide (e.key.size < 1) = true := by rw [decide_eq_true_iff]; omega
    have dp11 : decide ((e.key.size : Int) < 1) = true := by rw [decide_eq_true_iff]; omega
    rw [show okI e = false from by unfold okI; rw [emp_eqI]; unfold inB; rw [show decide ((1 : Int) ≤ (e.key.size : Int)) = false from by simp; omega]; simp]
    go_enter Tryz.func201, Tryz.ntmps201
    go_wp2_with fail
    go_ret
    exact ⟨rfl, HB.out⟩
  have dp10 : decide (e.key.size < 1) = false := by rw [decide_eq_false_iff_not]; omega
  have dp11 : decide ((e.key.size : Int) < 1) = false := by rw [decide_eq_false_iff_not]; omega
  rcases Classical.em (40 < e.key.size) with p2 | p2
  · have dp20 : decide (40 < e.key.size) = true := by rw [decide_eq_true_iff]; omega
    have dp21 : decide ((40 : Int) < (e.key.size : Int)) = true := by rw [decide_eq_true_iff]; omega
    rw [show okI e = false from by unfold okI; rw [emp_eqI]; unfold inB; rw [show decide ((e.key.size : Int) ≤ 40) = false from by simp; omega]; simp]
    go_enter Tryz.func201, Tryz.ntmps201
    go_wp2_with fail
    go_ret
    exact ⟨rfl, HB.out⟩
  have dp20 : decide (40 < e.key.size) = false := by rw [decide_eq_false_iff_not]; omega
  have dp21 : decide ((40 : Int) < (e.key.size : Int)) = false := by rw [decide_eq_false_iff_not]; omega
  by_cases h0 : e.ov = 0
  · have d0 : (e.ov == 0) = true := by simpa using h0
    rcases Classical.em (e.sz = 0) with z1 | z1
    rotate_left
    · have dz10 : (e.sz == 0) = false := by simp <;> omega
      rw [show okI e = false from by unfold okI; rw [emp_eqI]; unfold inB; simp [*] <;> omega]
      clear h0
      go_enter Tryz.func201, Tryz.ntmps201
      go_wp2_with fail
      go_ret
      exact ⟨rfl, HB.out⟩
    have dz10 : (e.sz == 0) = true := by simp <;> omega
    rcases Classical.em (e.vl.size ≤ 60) with z2 | z2
    rotate_left
    · have dz20 : decide (e.vl.size ≤ 60) = false := by rw [decide_eq_false_iff_not]; omega
      have dz21 : decide ((e.vl.size : Int) ≤ 60) = false := by rw [decide_eq_false_iff_not]; omega
      rw [show okI e = false from by unfold okI; rw [emp_eqI]; unfold inB; simp [*] <;> omega]
      clear h0
      clear z1
      go_enter Tryz.func201, Tryz.ntmps201
      go_wp2_with fail
      go_ret
      exact ⟨rfl, HB.out⟩
    have dz20 : decide (e.vl.size ≤ 60) = true := by rw [decide_eq_true_iff]; omega
    have dz21 : decide ((e.vl.size : Int) ≤ 60) = true := by rw [decide_eq_true_iff]; omega
    rw [show okI e = true from by unfold okI; rw [emp_eqI]; unfold inB; simp [*] <;> omega]
    clear h0
    clear z1
    go_enter Tryz.func201, Tryz.ntmps201
    go_wp2_with fail
    go_ret
    exact ⟨rfl, HB.out⟩
  · have d0 : (e.ov == 0) = false := by simpa using h0
    rcases Classical.em (1 ≤ e.ov) with n1 | n1
    rotate_left
    · have dn10 : decide (1 ≤ e.ov) = false := by rw [decide_eq_false_iff_not]; omega
      rw [show okI e = false from by unfold okI; rw [emp_eqI]; unfold inB; simp [*] <;> omega]
      clear h0
      go_enter Tryz.func201, Tryz.ntmps201
      go_wp2_with fail
      go_ret
      exact ⟨rfl, HB.out⟩
    have dn10 : decide (1 ≤ e.ov) = true := by rw [decide_eq_true_iff]; omega
    rcases Classical.em (e.ov ≤ 4294967295) with n2 | n2
    rotate_left
    · have dn20 : decide (e.ov ≤ 4294967295) = false := by rw [decide_eq_false_iff_not]; omega
      rw [show okI e = false from by unfold okI; rw [emp_eqI]; unfold inB; simp [*] <;> omega]
      clear h0
      go_enter Tryz.func201, Tryz.ntmps201
      go_wp2_with fail
      go_ret
      exact ⟨rfl, HB.out⟩
    have dn20 : decide (e.ov ≤ 4294967295) = true := by rw [decide_eq_true_iff]; omega
    rcases Classical.em (61 ≤ e.sz) with n3 | n3
    rotate_left
    · have dn30 : decide (61 ≤ e.sz) = false := by rw [decide_eq_false_iff_not]; omega
      rw [show okI e = false from by unfold okI; rw [emp_eqI]; unfold inB; simp [*] <;> omega]
      clear h0
      go_enter Tryz.func201, Tryz.ntmps201
      go_wp2_with fail
      go_ret
      exact ⟨rfl, HB.out⟩
    have dn30 : decide (61 ≤ e.sz) = true := by rw [decide_eq_true_iff]; omega
    rcases Classical.em (e.sz ≤ 2000) with n4 | n4
    rotate_left
    · have dn40 : decide (e.sz ≤ 2000) = false := by rw [decide_eq_false_iff_not]; omega
      rw [show okI e = false from by unfold okI; rw [emp_eqI]; unfold inB; simp [*] <;> omega]
      clear h0
      go_enter Tryz.func201, Tryz.ntmps201
      go_wp2_with fail
      go_ret
      exact ⟨rfl, HB.out⟩
    have dn40 : decide (e.sz ≤ 2000) = true := by rw [decide_eq_true_iff]; omega
    obtain ⟨x, hx⟩ : ∃ x, e.vl.toList.isEmpty = x := ⟨_, rfl⟩
    rw [show okI e = x from by unfold okI; rw [emp_eqI]; unfold inB; simp [*] <;> omega]
    clear h0
    go_enter Tryz.func201, Tryz.ntmps201
    go_wp2_with fail
    go_ret
    exact ⟨rfl, HB.out⟩
end
/-! ### The walk of arboretumref7's PutLeaf. -/
section
open Go.RowKit
set_option linter.unusedVariables false
theorem putI_wrong {l : List Itm} {k : Nat} {e : Itm} (h : riseGoI (prevI l k) (l.drop k) = riseGoI none l) (he : l[k]? = some e) (hb : (okI e && stepI (prevI l k) e) = false) : putI l = ([], 1) := by
  rw [riseGoI_step he, hb] at h
  unfold putI riseI
  rw [← h]
  simp
set_option maxRecDepth 100000 in
set_option maxHeartbeats 8000000 in
theorem rputI_any {ao : Option Addr} {n c : Nat} {l : List Itm} {w : World} (h : ItmsOk w ao n l) :
    Calls Tryz.prog 95 #[.slice ao n c] w fun e w' => e = .returned (.tuple #[.string ⟨(putI l).1.toArray⟩, .int .i64 (putI l).2]) ∧ Below w.heap.size w w' := by
  obtain ⟨i0, hi, hz0, hz1, hz2⟩ := info_parts u8info
  have HH := Lib.hid h
  have hn : n ≤ 2000000 := h.few
  have HL := Lib.hid h.len
  have HBy := Lib.hid h.bytes
  clear h
  go_enter Tryz.func95, Tryz.ntmps95
  go_wp2_with fail
  go_loopw [4, 5] (fun bv i wr => ∃ (k : Nat) (P : List UInt8), k ≤ n ∧ i = .int .i64 k ∧ Hid (wr.ownsRow w.heap.size 5 1 bv P.length (Lib.byteCells P)) ∧ Hid (P = layI (l.take k)) ∧ Hid (riseGoI (prevI l k) (l.drop k) = riseGoI none l) ∧ Hid (Below w.heap.size w wr)) (fun _ i _ => n - (intOf i).toNat)
  case atStart => exact ⟨0, [], Nat.zero_le _, rfl, Lib.hid (World.ownsRow_nil _ _ _ _), Lib.hid (by simp [layI]), Lib.hid rfl, Lib.hid (Below.refl _ _)⟩
  case round =>
    obtain ⟨k, P, hk, rfl, HO, hP, HG, HB⟩ := hrel
    have hsz := HB.out.size
    by_cases hlt : k < n
    · obtain ⟨b, o, e, rfl, hbB, hek, q1, q2, q3, q4⟩ := (HH.out.below HB.out).itms.get hlt
      have hok := HH.out.ok e (List.mem_of_getElem? hek)
      have HOk := Lib.hid hok
      have hks : e.key.size ≤ 140737488351232 := hok.2.2.1
      have HEk := Lib.hid hek
      have HBad : Hid ((okI e && stepI (prevI l k) e) = false → putI l = ([], 1)) := Lib.hid (fun h => putI_wrong HG.out hek h)
      have hx1 : (0 : Int) ≤ k := by omega
      have hx2 : (k : Int) < n := by omega
      have HRt := Lib.hid (fun W => rright_any e hok W)
      obtain ⟨r0, hr0⟩ : ∃ r, okI e = r := ⟨_, rfl⟩
      rw [hr0] at HRt
      have HR0 := Lib.hid hr0
      unfold Itm.agg at HRt
      clear hok hek hr0
      cases r0 with
      | false =>
        have HF := Lib.hid (HBad.out (by rw [HR0.out]; rfl))
        have s1 : ∀ p : SinceW wr.heap.size wr, p.w.cell? ⟨b, o + k * 4, none⟩ = some (.string e.key) := fun p => cell_later p.h q1
        have s2 : ∀ p : SinceW wr.heap.size wr, p.w.cell? ⟨b, o + k * 4 + 1, none⟩ = some (.string e.vl) := fun p => cell_later p.h q2
        have s3 : ∀ p : SinceW wr.heap.size wr, p.w.cell? ⟨b, o + k * 4 + 2, none⟩ = some (.int .i64 e.ov) := fun p => cell_later p.h q3
        have s4 : ∀ p : SinceW wr.heap.size wr, p.w.cell? ⟨b, o + k * 4 + 3, none⟩ = some (.int .i64 e.sz) := fun p => cell_later p.h q4
        clear q1 q2 q3 q4
        go_wp2_with fail
        refine wp_region_since (B := wr.heap.size) (W0 := wr) (by kernel_rfl) (by kernel_rfl) (Below.refl _ _) ?_
        repeat (go_big_quiet_step (first | (go_at_call 201; exact since_call (Nat.le_refl _) (HRt.out _))))
        refine wpQuiet_nil ?_
        intro w5 hw'
        obtain ⟨⟨w9, hv5⟩, rfl⟩ := hw'
        have HBx := Lib.hid (HB.out.trans (hv5.mono HB.out.size))
        clear hv5 s1 s2 s3 s4
        go_wp2_with fail
        go_ret2
        exact ⟨by rw [HF.out]; rfl, HBx.out⟩
      | true =>
        have s1 : ∀ p : SinceW wr.heap.size wr, p.w.cell? ⟨b, o + k * 4, none⟩ = some (.string e.key) := fun p => cell_later p.h q1
        have s2 : ∀ p : SinceW wr.heap.size wr, p.w.cell? ⟨b, o + k * 4 + 1, none⟩ = some (.string e.vl) := fun p => cell_later p.h q2
        have s3 : ∀ p : SinceW wr.heap.size wr, p.w.cell? ⟨b, o + k * 4 + 2, none⟩ = some (.int .i64 e.ov) := fun p => cell_later p.h q3
        have s4 : ∀ p : SinceW wr.heap.size wr, p.w.cell? ⟨b, o + k * 4 + 3, none⟩ = some (.int .i64 e.sz) := fun p => cell_later p.h q4
        by_cases hk0 : k = 0
        · have e0 : ((k : Int) == 0) = true := by rw [hk0]; rfl
          have e1 : decide (0 < k) = false := by rw [hk0]; rfl
          have e2 : decide ((0 : Int) < (k : Int)) = false := by rw [hk0]; rfl
          have HGd : Hid ((okI e && stepI (prevI l k) e) = true) := Lib.hid (by rw [HR0.out, hk0]; rfl)
          have HG2 : Hid (riseGoI (prevI l (k + 1)) (l.drop (k + 1)) = riseGoI none l) := Lib.hid (by have h := HG.out; rw [riseGoI_step HEk.out, HGd.out, Bool.true_and] at h; exact h)
          have hst := layI_take_succ l k e HEk.out
          have hle : (layI (l.take (k + 1))).length ≤ 17600000000000 := by
            have h1 := HBy.out
            have e2 : layI l = layI (l.take (k + 1)) ++ layI (l.drop (k + 1)) := by rw [← layI_append, List.take_append_drop]
            rw [e2, List.length_append] at h1
            omega
          have hPl : P.length + (itmB e).length ≤ 17600000000000 := by rw [hst, List.length_append, ← hP.out] at hle; exact hle
          have HNext : Hid (P ++ itmB e = layI (l.take (k + 1))) := Lib.hid (by rw [hst, hP.out])
          clear hst hle hP
          have hcell : ∀ W, Below wr.heap.size wr W → W.cell? ⟨b, o + k * 4, none⟩ = some (.string e.key) ∧ W.cell? ⟨b, o + k * 4 + 1, none⟩ = some (.string e.vl) ∧ W.cell? ⟨b, o + k * 4 + 2, none⟩ = some (.int .i64 e.ov) ∧ W.cell? ⟨b, o + k * 4 + 3, none⟩ = some (.int .i64 e.sz) := fun W hb => ⟨cell_later hb q1, cell_later hb q2, cell_later hb q3, cell_later hb q4⟩
          have HCl := Lib.hid hcell
          clear q1 q2 q3 q4 hcell hk0
          go_wp2_with fail
          refine wp_region_since (B := wr.heap.size) (W0 := wr) (by kernel_rfl) (by kernel_rfl) (Below.refl _ _) ?_
          repeat (go_big_quiet_step (first | (go_at_call 201; exact since_call (Nat.le_refl _) (HRt.out _))))
          refine wpQuiet_nil ?_
          intro w5 hw'
          obtain ⟨⟨w9, hv5⟩, rfl⟩ := hw'
          have HBx := Lib.hid (HB.out.trans (hv5.mono HB.out.size))
          have HOx := Lib.hid (own_below HO.out hv5)
          obtain ⟨c1, c2, c3, c4⟩ := HCl.out _ hv5
          have HIt := Lib.hid (fun W => ritemB_any e HOk.out W)
          unfold Itm.agg at HIt
          clear hv5 s1 s2 s3 s4
          go_wp2_with fail
          refine (HIt.out _).mono ?_
          rintro e1 w1 ⟨rfl, hb1⟩
          have HO1 := Lib.hid (own_below HOx.out hb1)
          have HB1 := Lib.hid (HBx.out.trans (hb1.mono HBx.out.size))
          obtain ⟨S, hS⟩ : ∃ S, S = ByteArray.mk (itmB e).toArray := ⟨_, rfl⟩
          have hSz : S.size = (itmB e).length := by rw [hS]; show (itmB e).toArray.size = _; simp
          have HSd : Hid (S.data.toList = itmB e) := Lib.hid (by rw [hS, bytes_mk])
          rw [← hS]
          clear hb1 hS
          go_wp2_with (at_builtin; refine Lib.wpList_append_own_string _ rfl _ _ 160 9 rfl w.heap.size 5 i0 Tryz.underlying160 Tryz.underlying9 hi hz0 hz1 hz2 _ _ _ rfl HO1.out S rfl ?c3 ?c4 ?c5 ?_)
          case c3 => unfold maxLen; omega
          case c4 => omega
          case c5 => exact HB1.out.size
          intro v' w2 hown' hgrow _
          have HO2 : Hid (w2.ownsRow w.heap.size 5 1 v' (P ++ itmB e).length (Lib.byteCells (P ++ itmB e))) := Lib.hid (by
            have e2 : Lib.byteCells (P ++ itmB e) = Lib.byteCells P ++ Lib.strCells S := by rw [Lib.byteCells_append, ← HSd.out]; rfl
            rw [e2, List.length_append]
            first | exact hown' | (rw [← hSz]; exact hown'))
          have HB2 := Lib.hid (HB1.out.grown hgrow HB1.out.size (fun k hk => (HO1.out.lt k hk).1))
          clear hown' hgrow
          go_wp2_with fail
          go_roundw
          case rel => exact ⟨k + 1, P ++ itmB e, by omega, by go_num, HO2, HNext, HG2, HB2⟩
          case measure => simp [intOf]; omega
        · obtain ⟨j, hkj⟩ : ∃ j, k = j + 1 := ⟨k - 1, by omega⟩
          obtain ⟨b', o', e', hbe, hbB', hek', q5, q6, q7, q8⟩ := (HH.out.below HB.out).itms.get (k := j) (by omega)
          obtain ⟨rfl, rfl⟩ : b' = b ∧ o' = o := by injection hbe with h; injection h with h1 h2; exact ⟨h1.symm, h2.symm⟩
          have hok' := HH.out.ok e' (List.mem_of_getElem? hek')
          have hks' : e'.key.size ≤ 140737488351232 := hok'.2.2.1
          have Hs0 : Hid (stepI (prevI l k) e = ltB e'.key e.key) := Lib.hid (by
            rw [hkj]
            show stepI ((l[j]?).map (·.key)) e = _
            rw [hek']; rfl)
          have e0 : ((k : Int) == 0) = false := by simp; omega
          have e1 : decide (0 < k) = true := by simp; omega
          have e2 : decide ((0 : Int) < (k : Int)) = true := by simp; omega
          have m2 : (k : Int) - 1 = j := by omega
          have m3 : IntKind.i64.wrap (j : Int) = j := IntWalk.i64_in _ (by omega)
          have s5 : ∀ p : SinceW wr.heap.size wr, p.w.cell? ⟨b', o' + j * 4, none⟩ = some (.string e'.key) := fun p => cell_later p.h q5
          have hy1 : (0 : Int) ≤ j := by omega
          have hy2 : (j : Int) < n := by omega
          have hcell : ∀ W, Below wr.heap.size wr W → W.cell? ⟨b', o' + k * 4, none⟩ = some (.string e.key) ∧ W.cell? ⟨b', o' + k * 4 + 1, none⟩ = some (.string e.vl) ∧ W.cell? ⟨b', o' + k * 4 + 2, none⟩ = some (.int .i64 e.ov) ∧ W.cell? ⟨b', o' + k * 4 + 3, none⟩ = some (.int .i64 e.sz) := fun W hb => ⟨cell_later hb q1, cell_later hb q2, cell_later hb q3, cell_later hb q4⟩
          have HCl := Lib.hid hcell
          clear q1 q2 q3 q4 q5 q6 q7 q8 hcell hbe hek' hkj hok' hk0
          obtain ⟨r, hr⟩ : ∃ r, ltB e'.key e.key = r := ⟨_, rfl⟩
          have HLs : Hid (∀ W, Calls Tryz.prog 178 #[.string e'.key, .string e.key] W fun e1 w1 => e1 = .returned (.bool r) ∧ Below W.heap.size W w1) := Lib.hid (fun W => by rw [← hr]; exact (less_any e'.key e.key W (by omega) (by omega)).mono (fun e1 w1 h => h.below))
          cases r with
          | false =>
            have HF := Lib.hid (HBad.out (by rw [Hs0.out, hr]; simp))
            clear hr
            go_wp2_with fail
            refine wp_region_since (B := wr.heap.size) (W0 := wr) (by kernel_rfl) (by kernel_rfl) (Below.refl _ _) ?_
            repeat (go_big_quiet_step (first | (go_at_call 201; exact since_call (Nat.le_refl _) (HRt.out _)) | (go_at_call 178; exact since_call (Nat.le_refl _) (HLs.out _))))
            refine wpQuiet_nil ?_
            intro w5 hw'
            obtain ⟨⟨w9, hv5⟩, rfl⟩ := hw'
            have HBx := Lib.hid (HB.out.trans (hv5.mono HB.out.size))
            have HOx := Lib.hid (own_below HO.out hv5)
            clear hv5 s1 s2 s3 s4 s5
            go_wp2_with fail
            go_ret2
            exact ⟨by rw [HF.out]; rfl, HBx.out⟩
          | true =>
            have HGd : Hid ((okI e && stepI (prevI l k) e) = true) := Lib.hid (by rw [HR0.out, Hs0.out, hr]; rfl)
            clear hr
            have HG2 : Hid (riseGoI (prevI l (k + 1)) (l.drop (k + 1)) = riseGoI none l) := Lib.hid (by have h := HG.out; rw [riseGoI_step HEk.out, HGd.out, Bool.true_and] at h; exact h)
            have hst := layI_take_succ l k e HEk.out
            have hle : (layI (l.take (k + 1))).length ≤ 17600000000000 := by
              have h1 := HBy.out
              have e2 : layI l = layI (l.take (k + 1)) ++ layI (l.drop (k + 1)) := by rw [← layI_append, List.take_append_drop]
              rw [e2, List.length_append] at h1
              omega
            have hPl : P.length + (itmB e).length ≤ 17600000000000 := by rw [hst, List.length_append, ← hP.out] at hle; exact hle
            have HNext : Hid (P ++ itmB e = layI (l.take (k + 1))) := Lib.hid (by rw [hst, hP.out])
            clear hst hle hP
            go_wp2_with fail
            refine wp_region_since (B := wr.heap.size) (W0 := wr) (by kernel_rfl) (by kernel_rfl) (Below.refl _ _) ?_
            repeat (go_big_quiet_step (first | (go_at_call 201; exact since_call (Nat.le_refl _) (HRt.out _)) | (go_at_call 178; exact since_call (Nat.le_refl _) (HLs.out _))))
            refine wpQuiet_nil ?_
            intro w5 hw'
            obtain ⟨⟨w9, hv5⟩, rfl⟩ := hw'
            have HBx := Lib.hid (HB.out.trans (hv5.mono HB.out.size))
            have HOx := Lib.hid (own_below HO.out hv5)
            obtain ⟨c1, c2, c3, c4⟩ := HCl.out _ hv5
            have HIt := Lib.hid (fun W => ritemB_any e HOk.out W)
            unfold Itm.agg at HIt
            clear hv5 s1 s2 s3 s4 s5
            go_wp2_with fail
            refine (HIt.out _).mono ?_
            rintro e1 w1 ⟨rfl, hb1⟩
            have HO1 := Lib.hid (own_below HOx.out hb1)
            have HB1 := Lib.hid (HBx.out.trans (hb1.mono HBx.out.size))
            obtain ⟨S, hS⟩ : ∃ S, S = ByteArray.mk (itmB e).toArray := ⟨_, rfl⟩
            have hSz : S.size = (itmB e).length := by rw [hS]; show (itmB e).toArray.size = _; simp
            have HSd : Hid (S.data.toList = itmB e) := Lib.hid (by rw [hS, bytes_mk])
            rw [← hS]
            clear hb1 hS
            go_wp2_with (at_builtin; refine Lib.wpList_append_own_string _ rfl _ _ 160 9 rfl w.heap.size 5 i0 Tryz.underlying160 Tryz.underlying9 hi hz0 hz1 hz2 _ _ _ rfl HO1.out S rfl ?c3 ?c4 ?c5 ?_)
            case c3 => unfold maxLen; omega
            case c4 => omega
            case c5 => exact HB1.out.size
            intro v' w2 hown' hgrow _
            have HO2 : Hid (w2.ownsRow w.heap.size 5 1 v' (P ++ itmB e).length (Lib.byteCells (P ++ itmB e))) := Lib.hid (by
              have e2 : Lib.byteCells (P ++ itmB e) = Lib.byteCells P ++ Lib.strCells S := by rw [Lib.byteCells_append, ← HSd.out]; rfl
              rw [e2, List.length_append]
              first | exact hown' | (rw [← hSz]; exact hown'))
            have HB2 := Lib.hid (HB1.out.grown hgrow HB1.out.size (fun k hk => (HO1.out.lt k hk).1))
            clear hown' hgrow
            go_wp2_with fail
            go_roundw
            case rel => exact ⟨k + 1, P ++ itmB e, by omega, by go_num, HO2, HNext, HG2, HB2⟩
            case measure => simp [intOf]; omega
    · obtain rfl : k = n := by omega
      have hG := HG.out
      rw [List.drop_eq_nil_of_le (by rw [HL.out]; omega), riseGoI] at hG
      have hfull : P = layI l := by rw [hP.out, List.take_of_length_le (by rw [HL.out]; omega)]
      have hr : riseI l = true := hG.symm
      have hPl : P.length ≤ 17600000000000 := by rw [hfull]; exact HBy.out
      obtain ⟨np, hnp⟩ : ∃ np, np = P.length := ⟨_, rfl⟩
      have hcv := run_string_own (P := Tryz.prog) HO.out 160 9 Tryz.underlying160 Tryz.underlying5 Tryz.underlying9
      obtain ⟨pa, pc, hpv, _⟩ := own_shape HO.out
      subst hpv
      rw [← hnp] at hcv
      by_cases hlen : 240 < np
      · have hp : putI l = ([], 2) := by unfold putI; rw [if_pos hr, if_pos (by rw [← hfull, ← hnp]; exact hlen)]
        have HP := Lib.hid hp
        have dd : decide (240 < np) = true := by simpa using hlen
        have dd2 : decide ((240 : Int) < (np : Int)) = true := by simp; omega
        rw [← hnp] at hPl ⊢
        clear hp hfull hr hG hcv hP HG hnp
        go_wp2_with fail
        refine bodyPost_ret (v := .tuple #[.string ⟨#[]⟩, .int .i64 2]) (by simp [results, Tryz.results95, go_sem]) rfl ⟨by rw [HP.out], HB.out⟩
      · have hp : putI l = (P, 0) := by unfold putI; rw [if_pos hr, if_neg (by rw [← hfull, ← hnp]; exact hlen), hfull]
        have HP := Lib.hid hp
        have dd : decide (240 < np) = false := by simpa using hlen
        have dd2 : decide ((240 : Int) < (np : Int)) = false := by simp; omega
        rw [← hnp] at hPl ⊢
        clear hp hfull hr hG hP HG hnp
        go_wp2_with fail
        refine bodyPost_ret (v := .tuple #[.string ⟨P.toArray⟩, .int .i64 0]) (by simp [results, Tryz.results95, go_sem]) rfl ⟨by rw [HP.out], HB.out⟩
end
/-! ### Plain: bytes whose items, read, hold one of an overflow of nothing behind a truth are no items. -/
section
set_option linter.unusedVariables false
/-- What has been read so far, if all of it is read and is right. -/
def PathI (b : List UInt8) (acc : List Itm) (st : RSt) : Prop := ∀ F, putI F = (b, 0) → acc = F.take acc.length → acc.length ≤ F.length → st = (layI (F.drop acc.length), 0)
theorem pathI_start (b : List UInt8) : PathI b [] (b, 0) := fun F h _ _ => by
  have h1 := putI_good (l := F) (by rw [h])
  rw [h] at h1
  have h2 := h1.2.2.1
  injection h2 with h2
  show (b, (0 : Int)) = (layI F, 0)
  rw [← h2]
theorem pathI_step {b : List UInt8} {acc : List Itm} {st : RSt} (h : PathI b acc st) : PathI b (acc ++ [(getItm st).1]) (getItm st).2 := fun F hF hp hl => by
  rw [List.length_append, List.length_singleton] at hp hl ⊢
  obtain ⟨x, hx⟩ : ∃ x, x = (getItm st).1 := ⟨_, rfl⟩
  rw [← hx] at hp
  have hk : acc.length < F.length := by omega
  have e1 : F.take (acc.length + 1) = F.take acc.length ++ [F[acc.length]] := by rw [List.take_add_one, List.getElem?_eq_getElem hk]; rfl
  rw [e1] at hp
  have e2 := List.append_inj' hp rfl
  have hst := h F hF e2.1 (by omega)
  have hd : F.drop acc.length = F[acc.length] :: F.drop (acc.length + 1) := List.drop_eq_getElem_cons hk
  rw [hd, layI_cons] at hst
  have hg := (putI_good (l := F) (by rw [hF])).1 F[acc.length] (List.getElem_mem hk)
  rw [hst, getItm_itmB _ _ hg]
theorem getGoI_pre : ∀ (n : Nat) (st : RSt) (acc : List Itm), acc = (getGoI n st acc).1.take acc.length ∧ acc.length ≤ (getGoI n st acc).1.length
  | 0, st, acc => by rw [getGoI]; exact ⟨(List.take_of_length_le (Nat.le_refl _)).symm, Nat.le_refl _⟩
  | n + 1, st, acc => by
    rw [getGoI]
    split
    · obtain ⟨h1, h2⟩ := getGoI_pre n (getItm st).2 (acc ++ [(getItm st).1])
      rw [List.length_append, List.length_singleton] at h1 h2
      refine ⟨?_, by omega⟩
      have h3 := congrArg (List.take acc.length) h1
      rw [List.take_left, List.take_take, Nat.min_eq_left (by omega)] at h3
      exact h3
    · exact ⟨(List.take_of_length_le (Nat.le_refl _)).symm, Nat.le_refl _⟩
/-- An overflow of nothing behind a truth: then these bytes are no items. -/
theorem getI_over0 {b : List UInt8} {acc : List Itm} {st : RSt} {f : Nat} (h : PathI b acc st) (hg : getGoI (f + 1) st acc = getGoI (b.length + 1) (b, 0) []) (hgo : st.2 = 0 ∧ st.1 ≠ []) (hb : (rBool (rText 40 st).2).1 = true) (hz : (getItm st).1.ov = 0) : getI b = ([], 4) := by
  unfold getI
  split
  · rename_i hh
    exfalso
    rw [← hg] at hh
    rw [getGoI, if_pos hgo] at hh
    obtain ⟨F, hF⟩ : ∃ F, F = (getGoI f (getItm st).2 (acc ++ [(getItm st).1])).1 := ⟨_, rfl⟩
    obtain ⟨p1, p2⟩ := getGoI_pre f (getItm st).2 (acc ++ [(getItm st).1])
    rw [← hF] at hh p1 p2
    rw [List.length_append, List.length_singleton] at p1 p2
    have hk : acc.length < F.length := by omega
    have e1 : F.take (acc.length + 1) = F.take acc.length ++ [F[acc.length]] := by rw [List.take_add_one, List.getElem?_eq_getElem hk]; rfl
    rw [e1] at p1
    have e2 := List.append_inj' p1 rfl
    have hst := h F hh.2 e2.1 (by omega)
    have hd : F.drop acc.length = F[acc.length] :: F.drop (acc.length + 1) := List.drop_eq_getElem_cons hk
    rw [hd, layI_cons] at hst
    have hgd := (putI_good (l := F) (by rw [hh.2])).1 F[acc.length] (List.getElem_mem hk)
    obtain ⟨⟨h1, h2⟩, h3⟩ := (goodI_iff _).1 hgd
    have e3 := rText_textB 40 F[acc.length].key.data.toList (boolI (F[acc.length].ov != 0) ++ (tailI F[acc.length] ++ layI (F.drop (acc.length + 1)))) (by have hl : F[acc.length].key.data.toList.length = F[acc.length].key.size := rfl; omega)
    have e4 : itmB F[acc.length] ++ layI (F.drop (acc.length + 1)) = textB F[acc.length].key.data.toList ++ (boolI (F[acc.length].ov != 0) ++ (tailI F[acc.length] ++ layI (F.drop (acc.length + 1)))) := by
      unfold itmB headI
      simp only [List.append_assoc]
    rw [e4] at hst
    have hov : F[acc.length].ov = 0 := by
      have := e2.2
      injection this with this _
      rw [← this]; exact hz
    rw [hst] at hb
    rw [if_neg (by have hl : F[acc.length].key.data.toList.length = F[acc.length].key.size := rfl; omega)] at e3
    rw [e3] at hb
    dsimp only at hb
    rw [rBool_boolI, hov] at hb
    simp at hb
  · rfl
end
/-! ### The walk of arboretumref7's GetLeaf. -/
section
open Go.RowKit
set_option linter.unusedVariables false
set_option maxRecDepth 100000 in
set_option maxHeartbeats 16000000 in
theorem rgetI_any (s : ByteArray) (w : World) (hs : s.size ≤ 1000000) :
    Calls Tryz.prog 97 #[.string s] w (GetResI s.data.toList w) := by
  obtain ⟨i0, hi, hz0, hz1, hz2⟩ := info_parts itmInfo
  obtain ⟨g0, hg0⟩ : ∃ g, g = getGoI (s.data.toList.length + 1) (s.data.toList, 0) [] := ⟨_, rfl⟩
  have HP : Hid (getI s.data.toList = if g0.2.2 = 0 ∧ putI g0.1 = (s.data.toList, 0) then (g0.1, 0) else ([], 4)) := Lib.hid (by rw [hg0]; rfl)
  have HGG := Lib.hid hg0
  have HPS := Lib.hid (pathI_start s.data.toList)
  have hsl : s.data.toList.length = s.size := rfl
  rw [hsl] at hg0
  have HG0 := Lib.hid hg0
  have HR0 : Hid (RRdr (w.alloc (.cells #[.string s, .int .i64 0] 47)) w.heap.size (s.data.toList, 0)) := Lib.hid ⟨s, rfl, by omega, heap_alloc_new w _⟩
  have HB0 : Hid (Below w.heap.size w (w.alloc (.cells #[.string s, .int .i64 0] 47))) := Lib.hid ((Below.refl _ _).alloc (Nat.le_refl _) _)
  clear hg0 hsl
  go_enter Tryz.func97, Tryz.ntmps97
  go_wp2_with fail
  go_loopw [5] (fun l wr => ∃ (k : Nat) (acc : List Itm) (ao : Option Addr) (c : Nat) (st : RSt), l = .slice ao k c ∧ Hid (wr.ownsRow w.heap.size 133 4 (.slice ao k c) k (itmCells acc)) ∧ Hid (acc.length = k ∧ ∀ e ∈ acc, ItmOk e ∧ e.len ≤ 100) ∧ Hid (getGoI (s.size + 1 - k) st acc = g0) ∧ Hid (PathI s.data.toList acc st) ∧ Hid (RRdr wr w.heap.size st) ∧ k ≤ s.size + 1 ∧ Hid (st.2 = 0 → k + st.1.length ≤ s.size) ∧ Hid (Below w.heap.size w wr)) (fun l _ => s.size + 1 - sliceNI l)
  case atStart => exact ⟨0, [], none, 0, (s.data.toList, 0), rfl, Lib.hid (World.ownsRow_nil _ _ _ _), Lib.hid ⟨rfl, by simp⟩, Lib.hid (by rw [HG0.out]; rfl), HPS, HR0, by omega, Lib.hid (fun _ => by show 0 + s.size ≤ _; omega), HB0⟩
  case round =>
    obtain ⟨k, acc, ao, c, st, rfl, HO, HA, HG, HPa, HR, hk, HL, HB⟩ := hrel
    obtain ⟨sb, hsb, hsbz, e0, e1, _, _⟩ := HR.out.facts
    have hsb2 : sb.size = st.1.length := by rw [← hsb]; rfl
    by_cases hgo : st.2 = 0 ∧ st.1 ≠ []
    · have HGo := Lib.hid hgo
      obtain ⟨h0, h1⟩ := hgo
      have hl1 := HL.out h0
      have hl2 : 0 < st.1.length := List.length_pos_iff.2 h1
      have hG := HG.out
      rw [show s.size + 1 - k = (s.size + 1 - (k + 1)) + 1 from by omega] at hG
      have HGf := Lib.hid hG
      rw [getGoI, if_pos ⟨h0, h1⟩] at hG
      have HG' := Lib.hid hG
      rw [h0] at e1
      have z1 : decide (0 < sb.size) = true := by simp; omega
      have z2 : decide ((0 : Int) < (sb.size : Int)) = true := by simp; omega
      have HE0 := Lib.hid (RT.start HR.out (Nat.le_refl _) HO.out HB.out #[.string ⟨#[]⟩, .string ⟨#[]⟩, .int .i64 0, .int .i64 0])
      obtain ⟨ge, hge⟩ : ∃ ge, ge = wr.heap.size := ⟨_, rfl⟩
      rw [← hge] at HE0
      have HV1 := Lib.hid (rrtext_any HE0.out.rd 40)
      have hck := getItm_ok st
      have hcl := getItm_lt st
      have hps := pathI_step HPa.out
      have hov : (rBool (rText 40 st).2).1 = true → (getItm st).1.ov = 0 → getI s.data.toList = ([], 4) := fun hb hz => getI_over0 HPa.out (HGf.out.trans HGG.out) HGo.out hb hz
      obtain ⟨a1, ha1⟩ : ∃ a1, a1 = rText 40 st := ⟨_, rfl⟩
      have hcd0 : getItm st = if (rBool a1.2).1 = true then (⟨bsI a1.1, ⟨#[]⟩, (rVar (rBool a1.2).2).1, (rVar (rVar (rBool a1.2).2).2).1⟩, (rVar (rVar (rBool a1.2).2).2).2) else (⟨bsI a1.1, bsI (rText 60 (rBool a1.2).2).1, 0, 0⟩, (rText 60 (rBool a1.2).2).2) := by rw [ha1]; rfl
      obtain ⟨q, hq⟩ : ∃ q, q = rBool a1.2 := ⟨_, rfl⟩
      rw [← hq] at hcd0
      rw [← ha1, ← hq] at hov
      have HQ := Lib.hid hq
      have HCd0 := Lib.hid hcd0
      have HCk := Lib.hid (And.intro hck (And.intro hcl hps))
      have HOv := Lib.hid hov
      rw [← ha1] at HV1
      have HL1 : Hid (k + st.1.length ≤ s.size) := Lib.hid hl1
      have hk2 : k < s.size := by omega
      clear hG h0 h1 ha1 hcd0 hck hcl hl1 hl2 hsb2 hq hov hps HGo
      go_wp2_with fail
      refine HV1.out.mono ?_
      rintro e w2 ⟨rfl, R2, hg2⟩
      have HE1 := Lib.hid (HE0.out.call (by decide) R2 hg2)
      have c1 := (HE1.out.cells 0).1
      have f1 := (HE1.out.cells 0).2
      have HE1' := Lib.hid (HE1.out.set (by decide) 0 (.string ⟨a1.1.toArray⟩))
      rw [hge] at c1 f1
      have HV2 := Lib.hid (rrbool_any HE1'.out.rd)
      rw [← HQ.out, hge] at HV2
      obtain ⟨qb, qs⟩ := q
      clear R2 hg2 HV1 HE0 HQ
      go_wp2_with fail
      refine HV2.out.mono ?_
      rintro e w3 ⟨rfl, R3, hg3⟩
      rw [← hge] at hg3
      have HE2 := Lib.hid (HE1'.out.call (by decide) R3 hg3)
      clear R3 hg3 HV2 HE1 HE1' c1 f1
      try dsimp only at HE2 HCd0
      have hkm : k ≤ 1000000 := by omega
      cases qb with
      | true =>
        obtain ⟨a3, ha3⟩ : ∃ a3, a3 = rVar qs := ⟨_, rfl⟩
        obtain ⟨a4, ha4⟩ : ∃ a4, a4 = rVar a3.2 := ⟨_, rfl⟩
        have hcd : getItm st = (⟨bsI a1.1, ⟨#[]⟩, a3.1, a4.1⟩, a4.2) := by rw [HCd0.out, ha4, ha3]; rfl
        have HCd := Lib.hid hcd
        have HV3 := Lib.hid (rrvar_any HE2.out.rd)
        rw [← ha3] at HV3
        have HA4 := Lib.hid ha4
        clear hcd ha3 ha4 HCd0
        go_wp2_with fail
        refine HV3.out.mono ?_
        rintro e w4 ⟨rfl, R4, hg4⟩
        try rw [← hge] at hg4
        have HE3 := Lib.hid (HE2.out.call (by decide) R4 hg4)
        have c2 := (HE3.out.cells 2).1
        have f2 := (HE3.out.cells 2).2
        have HE3' := Lib.hid (HE3.out.set (by decide) 2 (.int .i64 a3.1))
        have HV4 := Lib.hid (rrvar_any HE3'.out.rd)
        rw [← HA4.out] at HV4
        rw [hge] at c2 f2 HV4
        simp at c2
        clear R4 hg4 HV3 HE2 HA4
        go_wp2_with fail
        refine HV4.out.mono ?_
        rintro e w5 ⟨rfl, R5, hg5⟩
        try rw [← hge] at hg5
        have HE4 := Lib.hid (HE3'.out.call (by decide) R5 hg5)
        have c3 := (HE4.out.cells 3).1
        have f3 := (HE4.out.cells 3).2
        have HE4' := Lib.hid (HE4.out.set (by decide) 3 (.int .i64 a4.1))
        have d0 := (HE4'.out.cells 0).1
        have d1 := (HE4'.out.cells 1).1
        have d2 := (HE4'.out.cells 2).1
        have d3 := (HE4'.out.cells 3).1
        rw [hge] at c3 f3 d0 d1 d2 d3
        simp at c3
        simp at d0 d1 d2 d3
        obtain ⟨W8, hW8⟩ : ∃ W8, W8 = w5.setCell ⟨wr.heap.size, 3, none⟩ (.int .i64 a4.1) := ⟨_, rfl⟩
        rw [← hge] at hW8
        have HRd := HE4'.out.rd
        have HOw := HE4'.out.own
        have HBl := HE4'.out.bel
        have hsz6 := HE4'.out.bel.size
        rw [← hW8] at HRd HOw HBl hsz6
        rw [hge] at hW8
        rw [← hW8] at d0 d1 d2 d3
        have HR6 := Lib.hid HRd
        have HO6 := Lib.hid HOw
        have HW6 := Lib.hid HBl
        clear R5 hg5 HV4 HE3 HE3' HE4 HE4' HRd HOw HBl c2 f2
        go_upto_region 9 with fail
        rw [← hW8]
        clear hW8 hge c3 f3
        by_cases hz : a3.1 = 0
        · have dz : (a3.1 == 0) = true := by simpa using hz
          have HRes := Lib.hid (HOv.out (by first | rfl | trivial) (by rw [HCd.out]; exact hz))
          go_wp2_with fail
          go_ret2
          exact ⟨none, 0, 0, by rw [HRes.out]; rfl, by rw [HRes.out]; exact World.ownsRow_nil _ _ _ _, by rw [HRes.out]; rfl, HW6.out⟩
        · have dz : (a3.1 == 0) = false := by simpa using hz
          clear hz
          go_wp2_with (at_builtin; refine wpList_append_own_at _ rfl (.tmp 42) (.tmp 44) 131 rfl w.heap.size 133 i0 _ 4 48 Tryz.underlying131 hi hz0 hz1 hz2 rfl (by omega) _ k (itmCells acc) rfl (HO6.out.alloc _) ⟨W8.heap.size, 0, none⟩ 1 1 [.string ⟨a1.1.toArray⟩, .string ⟨#[]⟩, .int .i64 a3.1, .int .i64 a4.1] rfl rfl (World.news_of_block (new_at _ _ _ (by simp))) (itmCells_one [⟨⟨a1.1.toArray⟩, ⟨#[]⟩, a3.1, a4.1⟩]) (by unfold maxLen; omega) (by omega) (Nat.le_trans hsz6 (by simp)) ?_; intro v1 w8 hown8 hg8' _ hat8; have hg8 := (World.grownBy_alloc _ _ _).trans hg8'; have HO8 := Lib.hid hown8; obtain ⟨sx, _, _, hx3⟩ := HR6.out; have hbk : some w.heap.size ≠ (Value.slice ao k c).ownBlock := (fun e => own_neT7 hx3 (by decide) HO6.out e.symm); have HR8 := Lib.hid (HR6.out.at7 (hg8.block w.heap.size HR6.out.lt hbk)); have HW8 := Lib.hid (HW6.out.grown hg8 hsz6 (fun j hj => (HO6.out.lt j hj).1)); obtain ⟨g8, cap8, hv8, _⟩ := hown8.form (by omega); subst hv8; clear hown8 hg8 hg8' hbk hx3)
          go_roundw
          case rel => exact ⟨k + 1, acc ++ [⟨bsI a1.1, ⟨#[]⟩, a3.1, a4.1⟩], some ⟨g8, 0, none⟩, cap8, a4.2, rfl, Lib.hid (by rw [itmCells_append]; exact HO8.out), Lib.hid (by
              obtain ⟨c1, c2⟩ := HA.out
              obtain ⟨c3, _⟩ := HCk.out
              rw [HCd.out] at c3
              refine ⟨by rw [List.length_append, c1]; rfl, fun e he => ?_⟩
              rcases List.mem_append.1 he with he | he
              · exact c2 e he
              · have : e = ⟨bsI a1.1, ⟨#[]⟩, a3.1, a4.1⟩ := by simpa using he
                rw [this]; exact c3), Lib.hid (by rw [← HG'.out, HCd.out]), Lib.hid (by have h := HCk.out.2.2; rw [HCd.out] at h; exact h), HR8, by omega, Lib.hid (fun h => by
              obtain ⟨_, c4, _⟩ := HCk.out
              rw [HCd.out] at c4
              have := c4 h
              have := HL1.out
              show k + 1 + a4.2.1.length ≤ _
              dsimp only at *
              omega), HW8⟩
          case measure => simp [sliceNI]; omega
      | false =>
        obtain ⟨a3, ha3⟩ : ∃ a3, a3 = rText 60 qs := ⟨_, rfl⟩
        have hcd : getItm st = (⟨bsI a1.1, bsI a3.1, 0, 0⟩, a3.2) := by rw [HCd0.out, ha3]; rfl
        have HCd := Lib.hid hcd
        have HV3 := Lib.hid (rrtext_any HE2.out.rd 60)
        rw [← ha3] at HV3
        clear hcd ha3 HCd0
        go_wp2_with fail
        refine HV3.out.mono ?_
        rintro e w5 ⟨rfl, R5, hg5⟩
        try rw [← hge] at hg5
        have HE4 := Lib.hid (HE2.out.call (by decide) R5 hg5)
        have c3 := (HE4.out.cells 1).1
        have f3 := (HE4.out.cells 1).2
        have HE4' := Lib.hid (HE4.out.set (by decide) 1 (.string ⟨a3.1.toArray⟩))
        have d0 := (HE4'.out.cells 0).1
        have d1 := (HE4'.out.cells 1).1
        have d2 := (HE4'.out.cells 2).1
        have d3 := (HE4'.out.cells 3).1
        rw [hge] at c3 f3 d0 d1 d2 d3
        simp at c3
        simp at d0 d1 d2 d3
        obtain ⟨W8, hW8⟩ : ∃ W8, W8 = w5.setCell ⟨wr.heap.size, 1, none⟩ (.string ⟨a3.1.toArray⟩) := ⟨_, rfl⟩
        rw [← hge] at hW8
        have HRd := HE4'.out.rd
        have HOw := HE4'.out.own
        have HBl := HE4'.out.bel
        have hsz6 := HE4'.out.bel.size
        rw [← hW8] at HRd HOw HBl hsz6
        rw [hge] at hW8
        rw [← hW8] at d0 d1 d2 d3
        have HR6 := Lib.hid HRd
        have HO6 := Lib.hid HOw
        have HW6 := Lib.hid HBl
        clear R5 hg5 HV3 HE2 HE4 HE4' HRd HOw HBl
        go_upto_region 12 with fail
        rw [← hW8]
        clear hW8 hge c3 f3
        go_wp2_with (at_builtin; refine wpList_append_own_at _ rfl (.tmp 42) (.tmp 44) 131 rfl w.heap.size 133 i0 _ 4 48 Tryz.underlying131 hi hz0 hz1 hz2 rfl (by omega) _ k (itmCells acc) rfl (HO6.out.alloc _) ⟨W8.heap.size, 0, none⟩ 1 1 [.string ⟨a1.1.toArray⟩, .string ⟨a3.1.toArray⟩, .int .i64 0, .int .i64 0] rfl rfl (World.news_of_block (new_at _ _ _ (by simp))) (itmCells_one [⟨⟨a1.1.toArray⟩, ⟨a3.1.toArray⟩, 0, 0⟩]) (by unfold maxLen; omega) (by omega) (Nat.le_trans hsz6 (by simp)) ?_; intro v1 w8 hown8 hg8' _ hat8; have hg8 := (World.grownBy_alloc _ _ _).trans hg8'; have HO8 := Lib.hid hown8; obtain ⟨sx, _, _, hx3⟩ := HR6.out; have hbk : some w.heap.size ≠ (Value.slice ao k c).ownBlock := (fun e => own_neT7 hx3 (by decide) HO6.out e.symm); have HR8 := Lib.hid (HR6.out.at7 (hg8.block w.heap.size HR6.out.lt hbk)); have HW8 := Lib.hid (HW6.out.grown hg8 hsz6 (fun j hj => (HO6.out.lt j hj).1)); obtain ⟨g8, cap8, hv8, _⟩ := hown8.form (by omega); subst hv8; clear hown8 hg8 hg8' hbk hx3)
        go_roundw
        case rel => exact ⟨k + 1, acc ++ [⟨bsI a1.1, bsI a3.1, 0, 0⟩], some ⟨g8, 0, none⟩, cap8, a3.2, rfl, Lib.hid (by rw [itmCells_append]; exact HO8.out), Lib.hid (by
            obtain ⟨c1, c2⟩ := HA.out
            obtain ⟨c3, _⟩ := HCk.out
            rw [HCd.out] at c3
            refine ⟨by rw [List.length_append, c1]; rfl, fun e he => ?_⟩
            rcases List.mem_append.1 he with he | he
            · exact c2 e he
            · have : e = ⟨bsI a1.1, bsI a3.1, 0, 0⟩ := by simpa using he
              rw [this]; exact c3), Lib.hid (by rw [← HG'.out, HCd.out]), Lib.hid (by have h := HCk.out.2.2; rw [HCd.out] at h; exact h), HR8, by omega, Lib.hid (fun h => by
            obtain ⟨_, c4, _⟩ := HCk.out
            rw [HCd.out] at c4
            have := c4 h
            have := HL1.out
            show k + 1 + a3.2.1.length ≤ _
            dsimp only at *
            omega), HW8⟩
        case measure => simp [sliceNI]; omega
    · have hfin : g0 = (acc, st) := by rw [← HG.out]; exact getGoI_stop _ _ _ hgo
      have hP := HP.out
      rw [hfin] at hP
      dsimp only at hP
      obtain ⟨hA1, hA2⟩ := HA.out
      have hcd : ItmsOk wr ao k acc := ⟨itms_own HO.out, fun e he => (hA2 e he).1, by omega, by
        have : (acc.map Itm.len).sum ≤ 100 * acc.length := by
          clear hP hA1 HG hfin HO HA HPa
          induction acc with
          | nil => simp
          | cons a r ih =>
            have h1 := (hA2 a List.mem_cons_self).2
            have h2 := ih (fun e he => hA2 e (List.mem_cons_of_mem _ he))
            rw [List.map_cons, List.sum_cons, List.length_cons]
            omega
        omega⟩
      have HPt := Lib.hid (rputI_any (c := c) hcd)
      obtain ⟨q, hq⟩ : ∃ q, q = putI acc := ⟨_, rfl⟩
      rw [← hq] at HPt hP
      have HLn := Lib.hid hA1
      have HF1 : Hid (∀ W, Below wr.heap.size wr W → W.cell? ⟨w.heap.size, 1, none⟩ = some (.int .i64 st.2)) := Lib.hid (fun W hb => by have h := (HR.out.below hb).facts; obtain ⟨_, _, _, _, h, _⟩ := h; exact h)
      have hres : ∀ W, Below wr.heap.size wr W → Below w.heap.size w W := fun W hb => HB.out.trans (hb.mono HB.out.size)
      have HBel := Lib.hid hres
      have HOw : Hid (∀ W, Below wr.heap.size wr W → W.ownsRow w.heap.size 133 4 (.slice ao k c) k (itmCells acc)) := Lib.hid (fun W hb => own_below HO.out hb)
      have HHP := Lib.hid hP
      have z0 : ((st.2 == 0) = true → decide (0 < sb.size) = false) := fun h => by
        have h0 : st.2 = 0 := by simpa using h
        have h1 : st.1 = [] := Classical.byContradiction fun hn => hgo ⟨h0, hn⟩
        rw [h1] at hsb2
        simp at hsb2
        simp [hsb2]
      have HZ := Lib.hid z0
      clear hcd hA2 hP hq hfin HG HG0 HP hres z0 hgo hsb2 hA1 HPa HGG HPS
      by_cases h0 : st.2 = 0
      · have zz := HZ.out (by simpa using h0)
        have zz2 : decide ((0 : Int) < (sb.size : Int)) = false := by simp at zz; simp [zz]
        rw [h0] at e1 HF1
        obtain ⟨q1, q2⟩ := q
        obtain ⟨z, hz⟩ : ∃ z, ((ByteArray.mk q1.toArray).toList == s.toList) = z := ⟨_, rfl⟩
        have hzq : z = true ↔ q1 = s.data.toList := by
          rw [← hz, beq_iff_eq, ByteArray.toList_eq, ByteArray.toList_eq, bytes_mk]
        obtain ⟨Q, hQ⟩ : ∃ Q, Q = ByteArray.mk q1.toArray := ⟨_, rfl⟩
        dsimp only at HPt
        rw [← hQ] at HPt hz
        clear hQ
        by_cases hq2 : q2 = 0
        · subst hq2
          cases z with
          | true =>
            have hP := HHP.out
            rw [if_pos ⟨h0, by rw [hzq.1 rfl]⟩] at hP
            have HRes := Lib.hid hP
            clear hP h0 hzq HHP HZ
            go_wp2_with fail
            refine HPt.out.mono ?_
            rintro e w5 ⟨rfl, hb5⟩
            have g1 := HF1.out w5 hb5
            have HB5 := Lib.hid (HBel.out w5 hb5)
            have HO5 := Lib.hid (HOw.out w5 hb5)
            clear hb5 HPt HF1 HOw HBel
            go_wp2_with fail
            go_ret2
            exact ⟨ao, k, c, by rw [HRes.out]; rfl, by rw [HRes.out]; exact HO5.out, by rw [HRes.out]; exact HLn.out, HB5.out⟩
          | false =>
            have hP := HHP.out
            rw [if_neg (by rintro ⟨_, h⟩; injection h with h _; exact absurd (hzq.2 h) (by decide))] at hP
            have HRes := Lib.hid hP
            clear hP h0 hzq HHP HZ
            go_wp2_with fail
            refine HPt.out.mono ?_
            rintro e w5 ⟨rfl, hb5⟩
            have g1 := HF1.out w5 hb5
            have HB5 := Lib.hid (HBel.out w5 hb5)
            have HO5 := Lib.hid (HOw.out w5 hb5)
            clear hb5 HPt HF1 HOw HBel
            go_wp2_with fail
            go_ret2
            exact ⟨none, 0, 0, by rw [HRes.out]; rfl, by rw [HRes.out]; exact World.ownsRow_nil _ _ _ _, by rw [HRes.out]; rfl, HB5.out⟩
        · have hP := HHP.out
          rw [if_neg (by rintro ⟨_, h⟩; injection h with _ h; exact hq2 h)] at hP
          have HRes := Lib.hid hP
          have hd : (q2 != 0) = true := by simpa using hq2
          clear hP h0 hzq HHP HZ hz hq2
          go_wp2_with fail
          refine HPt.out.mono ?_
          rintro e w5 ⟨rfl, hb5⟩
          have g1 := HF1.out w5 hb5
          have HB5 := Lib.hid (HBel.out w5 hb5)
          have HO5 := Lib.hid (HOw.out w5 hb5)
          clear hb5 HPt HF1 HOw HBel
          go_wp2_with fail
          go_ret2
          exact ⟨none, 0, 0, by rw [HRes.out]; rfl, by rw [HRes.out]; exact World.ownsRow_nil _ _ _ _, by rw [HRes.out]; rfl, HB5.out⟩
      · have hP := HHP.out
        rw [if_neg (fun h => h0 h.1)] at hP
        have HRes := Lib.hid hP
        obtain ⟨r, hr⟩ : ∃ r, r = st.2 := ⟨_, rfl⟩
        rw [← hr] at e1 HF1 h0
        have hd1 : (r != 0) = true := by simpa using h0
        have hd2 : (r == 0) = false := by simpa using h0
        clear hP h0 HHP HZ hr
        go_wp2_with fail
        refine HPt.out.mono ?_
        rintro e w5 ⟨rfl, hb5⟩
        have g1 := HF1.out w5 hb5
        have HB5 := Lib.hid (HBel.out w5 hb5)
        have HO5 := Lib.hid (HOw.out w5 hb5)
        clear hb5 HPt HF1 HOw HBel
        go_wp2_with fail
        go_ret2
        exact ⟨none, 0, 0, by rw [HRes.out]; rfl, by rw [HRes.out]; exact World.ownsRow_nil _ _ _ _, by rw [HRes.out]; rfl, HB5.out⟩
end
end Go.Proofs.YtmdidmllaldbaaaGreat
