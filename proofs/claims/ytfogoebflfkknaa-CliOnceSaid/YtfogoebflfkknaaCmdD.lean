/- The walks of cmd.Get, PutReply and Tell. -/
import Derived.Test.YtfogoebflfkknaaCmdC
namespace Go.Proofs.Ytfogoebflfkknaa
open Go.RowKit
set_option linter.unusedVariables false
set_option maxRecDepth 20000 in
theorem cmdGet_aux (s : ByteArray) (w : World) (hs : s.size ≤ 281474976710656) (q : OpV) (g : Int) (hr : getOpV (s.data.toList, 0) = (q, g)) :
    Calls Try.prog 21 #[.string s] w fun e w' => e = .returned (.tuple #[q.agg, .int .i64 g]) ∧ Below w.heap.size w w' := by
  go_enter Try.func21, Try.ntmps21
  go_wp2_with fail
  refine (RS.new (w0 := w.alloc (.cells (opCells op0) 23)) (B := w.heap.size + 1) s (Below.refl _ _) (by simp) hs).mono ?_
  rintro e w1 ⟨b, rfl, R1⟩
  go_wp2_with fail
  refine (getOp_any R1).mono ?_
  rw [hr]
  clear hr
  dsimp only [OpV.agg]
  rintro e w2 ⟨rfl, hb2⟩
  have hk : OpBlk w2 w.heap.size op0 := (hb2.block w.heap.size (by omega)).trans (heap_alloc_new w _)
  obtain ⟨⟨x0, x1, x2⟩, ⟨x3, x4, x5⟩, xf⟩ := hk.facts
  have xf0 := xf 0
  have xf1 := xf 1
  have xf2 := xf 2
  have xf3 := xf 3
  have xf4 := xf 4
  have xf5 := xf 5
  dsimp only [op0] at x0 x1 x2 x3 x4 x5
  have HB : Hid (Below w.heap.size w w2) := Lib.hid (((Below.refl _ _).alloc (Nat.le_refl _) _).trans (hb2.mono (by omega)))
  clear hk xf hb2 R1
  go_wp2_with fail
  refine bodyPost_ret (v := .tuple #[.agg #[.int .i64 q.kd, .int .i64 q.ss, .int .i64 q.sq, .string q.key, .string q.val, .string q.old], .int .i64 g]) (by simp [results, Try.results21, go_sem, x0, x1, x2, x3, x4, x5]; try rfl) rfl ⟨rfl, ?_⟩
  exact (((((HB.out.setCell (Nat.le_refl _) _).setCell (Nat.le_refl _) _).setCell (Nat.le_refl _) _).setCell (Nat.le_refl _) _).setCell (Nat.le_refl _) _).setCell (Nat.le_refl _) _
theorem cmdGet_any (s : ByteArray) (w : World) (hs : s.size ≤ 281474976710656) :
    Calls Try.prog 21 #[.string s] w fun e w' => e = .returned (.tuple #[(getOpV (s.data.toList, 0)).1.agg, .int .i64 (getOpV (s.data.toList, 0)).2]) ∧ Below w.heap.size w w' :=
  cmdGet_aux s w hs _ _ rfl
def RepOk (r : RepV) : Prop := (-9223372036854775808 ≤ r.err ∧ r.err ≤ 9223372036854775807) ∧ (-9223372036854775808 ≤ r.num ∧ r.num ≤ 9223372036854775807) ∧ r.val.size ≤ 10000000000
def repB (r : RepV) : List UInt8 := vars [r.err, r.num] ++ textsB [r.val]
set_option maxRecDepth 20000 in
set_option maxHeartbeats 2000000 in
theorem putReply_any (r : RepV) (hok : RepOk r) (w : World) : Calls Try.prog 15 #[r.agg] w fun e w' => e = .returned (.string ⟨(repB r).toArray⟩) ∧ Below w.heap.size w w' := by
  obtain ⟨er, nm, vl⟩ := r
  obtain ⟨k1, k2, k3⟩ := hok
  dsimp only at k1 k2 k3
  unfold RepV.agg
  have hHC : ∀ W, Below (w.heap.size + 1) (w.alloc (.cells #[.int .i64 er, .string vl, .int .i64 nm] 26)) W → W.cell? ⟨w.heap.size, 0, none⟩ = some (.int .i64 er) ∧ W.cell? ⟨w.heap.size, 1, none⟩ = some (.string vl) ∧ W.cell? ⟨w.heap.size, 2, none⟩ = some (.int .i64 nm) := by
    intro W hb
    have hk : W.heap[w.heap.size]? = _ := (hb.block w.heap.size (by omega)).trans (heap_alloc_new w _)
    refine ⟨?_, ?_, ?_⟩ <;> rw [blk_cell hk] <;> rfl
  have HC := Lib.hid hHC
  have hcat : ∀ W : World, (Op.stringOp .add ⟨(vars [er, nm]).toArray⟩ ⟨(textsB [vl]).toArray⟩).run Try.prog W = .ok (.string ⟨(repB ⟨er, nm, vl⟩).toArray⟩) W := fun W => by
    have h1 := vars_len [er, nm]
    have h2 := textsB_len [vl]
    rw [cat_run _ _ W (by simp at h1 h2; omega)]
    rfl
  have HK := Lib.hid (And.intro k1 (And.intro k2 k3))
  clear hHC k1 k2 k3
  go_enter Try.func15, Try.ntmps15
  go_wp2_with fail
  go_region_held3 (fun W => W.cell? ⟨w.heap.size, 0, none⟩ = some (.int .i64 er) ∧ W.cell? ⟨w.heap.size, 1, none⟩ = some (.string vl) ∧ W.cell? ⟨w.heap.size, 2, none⟩ = some (.int .i64 nm))
    ((refine HC.out _ ?_; (repeat (with_reducible (first | assumption | exact Below.refl _ _ | refine Below.drew ?_ | refine Below.alloc ?_ ?_ _))); all_goals (simp <;> omega)))
    (first
      | (go_at_call 45; ((refine (var_row [er, nm] 2 (by first | exact new_at _ _ _ (by simp) | exact old_at _ _ _ _ (new_at _ _ _ (by simp))) rfl rfl (by omega) (by have := HK.out; simp; omega)).mono ?_); rintro e5 w5 ⟨rfl, hb5⟩; have hv5 : Below (w.heap.size + 1) (w.alloc (.cells #[.int .i64 er, .string vl, .int .i64 nm] 26)) w5 := (by (refine Below.trans ?_ (hb5.mono ?_)); (repeat (with_reducible (first | assumption | exact Below.refl _ _ | refine Below.drew ?_ | refine Below.alloc ?_ ?_ _))); all_goals (simp <;> omega)); have hs5 : w.heap.size + 1 ≤ w5.heap.size := (by have := hv5.size; simp at this; omega)))
      | (go_at_call 46; ((refine (text_row [vl] 1 (by first | exact new_at _ _ _ (by simp) | exact old_at _ _ _ _ (new_at _ _ _ (by simp)) | exact ((hb5.block _ (by first | (simp; done) | (simp; omega))).trans (by first | exact new_at _ _ _ (by simp) | exact old_at _ _ _ _ (new_at _ _ _ (by simp))))) rfl rfl (by omega) (by have := HK.out; simp; omega)).mono ?_); rintro e6 w6 ⟨rfl, hb6⟩; have hv6 : Below (w.heap.size + 1) (w.alloc (.cells #[.int .i64 er, .string vl, .int .i64 nm] 26)) w6 := (by (refine Below.trans ?_ (hb6.mono ?_)); (repeat (with_reducible (first | assumption | exact Below.refl _ _ | refine Below.drew ?_ | refine Below.alloc ?_ ?_ _))); all_goals (simp <;> omega)); have hs6 : w.heap.size + 1 ≤ w6.heap.size := (by have := hv6.size; simp at this; omega))))
  all_goals (
    go_wp2_with fail
    go_ret
    exact ⟨rfl, ((Below.refl _ _).alloc (Nat.le_refl _) _).trans (hv6.mono (by omega))⟩)
def tellB (n l : Int) (r : RepV) : List UInt8 := 97 :: (vars [n, l] ++ repB r)
set_option maxRecDepth 20000 in
set_option maxHeartbeats 2000000 in
theorem tell_any (n l : Int) (r : RepV) (hn : -9223372036854775808 ≤ n ∧ n ≤ 9223372036854775807) (hl : -9223372036854775808 ≤ l ∧ l ≤ 9223372036854775807) (hok : RepOk r) (w : World) :
    Calls Try.prog 17 #[.int .i64 n, .int .i64 l, r.agg] w fun e w' => e = .returned (.string ⟨(tellB n l r).toArray⟩) ∧ Below w.heap.size w w' := by
  have HP := Lib.hid (fun W => putReply_any r hok W)
  have hrl : (repB r).length ≤ 20000000000 := by
    have h1 := vars_len [r.err, r.num]
    have h2 := textsB_len [r.val]
    have := hok.2.2
    unfold repB
    rw [List.length_append]
    simp at h1 h2
    omega
  have hcat1 : ∀ W : World, (Op.stringOp .add ⟨#[97]⟩ ⟨(vars [n, l]).toArray⟩).run Try.prog W = .ok (.string ⟨(97 :: vars [n, l]).toArray⟩) W := fun W => by
    have h1 := vars_len [n, l]
    exact cat_run [97] _ W (by simp at h1 ⊢; omega)
  have hcat2 : ∀ W : World, (Op.stringOp .add ⟨(97 :: vars [n, l]).toArray⟩ ⟨(repB r).toArray⟩).run Try.prog W = .ok (.string ⟨(tellB n l r).toArray⟩) W := fun W => by
    have h1 := vars_len [n, l]
    rw [cat_run _ _ W (by simp at h1 ⊢; omega)]
    rfl
  obtain ⟨er, nm, vl⟩ := r
  unfold RepV.agg at *
  have hHC : ∀ W, Below (w.heap.size + 1) (w.alloc (.cells #[.int .i64 er, .string vl, .int .i64 nm] 26)) W → W.cell? ⟨w.heap.size, 0, none⟩ = some (.int .i64 er) ∧ W.cell? ⟨w.heap.size, 1, none⟩ = some (.string vl) ∧ W.cell? ⟨w.heap.size, 2, none⟩ = some (.int .i64 nm) := by
    intro W hb
    have hk : W.heap[w.heap.size]? = _ := (hb.block w.heap.size (by omega)).trans (heap_alloc_new w _)
    refine ⟨?_, ?_, ?_⟩ <;> rw [blk_cell hk] <;> rfl
  have HC := Lib.hid hHC
  have HN := Lib.hid (And.intro hn hl)
  clear hHC hok hrl hn hl
  go_enter Try.func17, Try.ntmps17
  go_wp2_with fail
  go_region_held3 (fun W => W.cell? ⟨w.heap.size, 0, none⟩ = some (.int .i64 er) ∧ W.cell? ⟨w.heap.size, 1, none⟩ = some (.string vl) ∧ W.cell? ⟨w.heap.size, 2, none⟩ = some (.int .i64 nm))
    ((refine HC.out _ ?_; (repeat (with_reducible (first | assumption | exact Below.refl _ _ | refine Below.drew ?_ | refine Below.alloc ?_ ?_ _))); all_goals (simp <;> omega)))
    (first
      | (go_at_call 45; ((refine (var_row [n, l] 2 (by first | exact new_at _ _ _ (by simp) | exact old_at _ _ _ _ (new_at _ _ _ (by simp))) rfl rfl (by omega) (by have := HN.out; simp; omega)).mono ?_); rintro e5 w5 ⟨rfl, hb5⟩; have hv5 : Below (w.heap.size + 1) (w.alloc (.cells #[.int .i64 er, .string vl, .int .i64 nm] 26)) w5 := (by (refine Below.trans ?_ (hb5.mono ?_)); (repeat (with_reducible (first | assumption | exact Below.refl _ _ | refine Below.drew ?_ | refine Below.alloc ?_ ?_ _))); all_goals (simp <;> omega)); have hs5 : w.heap.size + 1 ≤ w5.heap.size := (by have := hv5.size; simp at this; omega)))
      | (go_at_call 15; ((refine (HP.out _).mono ?_); rintro e6 w6 ⟨rfl, hb6⟩; have hv6 : Below (w.heap.size + 1) (w.alloc (.cells #[.int .i64 er, .string vl, .int .i64 nm] 26)) w6 := (by (refine Below.trans ?_ (hb6.mono ?_)); (repeat (with_reducible (first | assumption | exact Below.refl _ _ | refine Below.drew ?_ | refine Below.alloc ?_ ?_ _))); all_goals (simp <;> omega)); have hs6 : w.heap.size + 1 ≤ w6.heap.size := (by have := hv6.size; simp at this; omega))))
  all_goals (
    go_wp2_with fail
    go_ret
    exact ⟨rfl, ((Below.refl _ _).alloc (Nat.le_refl _) _).trans (hv6.mono (by omega))⟩)
end Go.Proofs.Ytfogoebflfkknaa
