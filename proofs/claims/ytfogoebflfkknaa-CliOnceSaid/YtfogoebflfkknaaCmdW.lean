/- The walks of arboretumlaw23.alive and want. -/
import Derived.Test.YtfogoebflfkknaaCmdE
namespace Go.Proofs.Ytfogoebflfkknaa
open Go.RowKit
set_option linter.unusedVariables false
def gOp : OpV := ⟨4, 0, 0, ⟨#[107]⟩, ⟨#[]⟩, ⟨#[]⟩⟩
def vRep : RepV := ⟨0, 0, ⟨#[118]⟩⟩
theorem gOp_valid : validV gOp = 0 := by decide +kernel
theorem alC_put (W : World) : Calls Try.prog 11 #[.agg #[.int .i64 4, .int .i64 0, .int .i64 0, .string ⟨#[107]⟩, .string ⟨#[]⟩, .string ⟨#[]⟩]] W fun e w' => e = .returned (.tuple #[.string ⟨(opB gOp).toArray⟩, .int .i64 0]) ∧ Below W.heap.size W w' := by
  refine (putOp_any gOp (by unfold OpOk gOp; decide +kernel) W).mono ?_
  unfold PutOp
  rw [gOp_valid, if_pos rfl]
  exact fun _ _ h => h
theorem alC_get (W : World) : Calls Try.prog 21 #[.string ⟨(opB gOp).toArray⟩] W fun e w' => e = .returned (.tuple #[.agg #[.int .i64 4, .int .i64 0, .int .i64 0, .string ⟨#[107]⟩, .string ⟨#[]⟩, .string ⟨#[]⟩], .int .i64 0]) ∧ Below W.heap.size W w' :=
  cmdGet_aux ⟨(opB gOp).toArray⟩ W (by decide +kernel) gOp 0 (by kernel_rfl)
theorem alC_tell (W : World) : Calls Try.prog 17 #[.int .i64 3, .int .i64 2, .agg #[.int .i64 0, .string ⟨#[118]⟩, .int .i64 0]] W fun e w' => e = .returned (.string ⟨(tellB 3 2 vRep).toArray⟩) ∧ Below W.heap.size W w' :=
  tell_any 3 2 vRep (by decide) (by decide) (by unfold RepOk vRep; decide +kernel) W
theorem alC_told (W : World) : Calls Try.prog 27 #[.string ⟨(tellB 3 2 vRep).toArray⟩] W fun e w' => e = .returned (.tuple #[.int .i64 3, .int .i64 2, .agg #[.int .i64 0, .string ⟨#[118]⟩, .int .i64 0], .int .i64 0]) ∧ Below W.heap.size W w' :=
  told_ok ⟨(tellB 3 2 vRep).toArray⟩ W (by decide +kernel) (by decide +kernel) (3, ([4, 0, 0, 2, 118], 0)) (2, ([0, 0, 2, 118], 0)) vRep (by rfl) (by rfl) (by rfl)
theorem alC_valid (W : World) : Calls Try.prog 13 #[.agg #[.int .i64 1, .int .i64 0, .int .i64 1, .string ⟨#[107]⟩, .string ⟨#[]⟩, .string ⟨#[]⟩]] W fun e w' => e = .returned (.int .i64 1) ∧ Below W.heap.size W w' := by
  refine (valid_any ⟨1, 0, 1, ⟨#[107]⟩, ⟨#[]⟩, ⟨#[]⟩⟩ W).mono ?_
  rw [show validV ⟨1, 0, 1, ⟨#[107]⟩, ⟨#[]⟩, ⟨#[]⟩⟩ = 1 from by decide +kernel]
  exact fun _ _ h => h
set_option maxRecDepth 20000 in
set_option maxHeartbeats 2000000 in
theorem aliveC_any (w : World) :
    Calls Try.prog 10 #[] w fun e w' => e = .returned (.bool true) ∧ Below w.heap.size w w' := by
  go_enter Try.func10, Try.ntmps10
  go_wp2_with fail
  refine (alC_put _).mono ?_
  rintro e w1 ⟨rfl, hb1⟩
  have k1 : OpBlk w1 w.heap.size gOp := (hb1.block w.heap.size (by simp)).trans (heap_alloc_new w _)
  have hv1 : Below w.heap.size w w1 := ((Below.refl _ _).alloc (Nat.le_refl _) _).trans (hb1.mono (by simp))
  have HK1 := Lib.hid k1
  clear k1 hb1
  go_wp2_with fail
  refine (alC_get _).mono ?_
  rintro e w2 ⟨rfl, hb2⟩
  have HK2 := Lib.hid (HK1.out.below hb2)
  have hv2 := hv1.trans (hb2.mono hv1.size)
  clear HK1 hv1 hb2
  go_wp2_with fail
  refine (alC_tell _).mono ?_
  rintro e w3 ⟨rfl, hb3⟩
  have HG3 : Hid (OpBlk w3 w2.heap.size gOp) := Lib.hid ((hb3.block w2.heap.size (by simp)).trans (heap_alloc_new w2 _))
  have HK3 : Hid (OpBlk w3 w.heap.size gOp) := Lib.hid ((hb3.block w.heap.size (by have := blk_lt HK2.out; simp; omega)).trans ((Below.heap_alloc w2 _ w.heap.size (blk_lt HK2.out)).trans HK2.out))
  have hv3 : Below w.heap.size w w3 := (hv2.alloc hv2.size _).trans (hb3.mono (by have := hv2.size; simp; omega))
  clear HK2 hv2 hb3
  go_wp2_with fail
  refine (alC_told _).mono ?_
  rintro e w4 ⟨rfl, hb4⟩
  have HG4 : Hid (OpBlk w4 w2.heap.size gOp) := Lib.hid (HG3.out.below hb4)
  have HK4 : Hid (OpBlk w4 w.heap.size gOp) := Lib.hid (HK3.out.below hb4)
  have hv4 : Below w.heap.size w w4 := hv3.trans (hb4.mono hv3.size)
  clear HK3 HG3 hv3 hb4
  go_wp2_with fail
  refine (alC_valid _).mono ?_
  rintro e w5 ⟨rfl, hb5⟩
  have hs4 := hv4.size
  have hK4 : OpBlk (w4.alloc (.cells (repCells vRep) 26)) w.heap.size gOp := (Below.heap_alloc w4 _ w.heap.size (blk_lt HK4.out)).trans HK4.out
  have hG4 : OpBlk (w4.alloc (.cells (repCells vRep) 26)) w2.heap.size gOp := (Below.heap_alloc w4 _ w2.heap.size (blk_lt HG4.out)).trans HG4.out
  have hR4 : RepBlk (w4.alloc (.cells (repCells vRep) 26)) w4.heap.size vRep := heap_alloc_new w4 _
  have hK5 : OpBlk w5 w.heap.size gOp := hK4.below hb5
  have hG5 : OpBlk w5 w2.heap.size gOp := hG4.below hb5
  have hR5 : RepBlk w5 w4.heap.size vRep := hR4.below hb5
  have hv5 : Below w.heap.size w w5 := (hv4.alloc hv4.size _).trans (hb5.mono (by simp; omega))
  obtain ⟨⟨x0, x1, x2⟩, ⟨x3, x4, x5⟩, _⟩ := hK5.facts
  obtain ⟨⟨y0, y1, y2⟩, ⟨y3, y4, y5⟩, _⟩ := hG5.facts
  obtain ⟨⟨z0, z1, z2⟩, _⟩ := hR5.facts
  dsimp only [gOp] at x0 x1 x2 x3 x4 x5 y0 y1 y2 y3 y4 y5
  dsimp only [vRep] at z0 z1 z2
  have HV := Lib.hid hv5
  clear hK4 hG4 hR4 hK5 hG5 hR5 hv5 hv4 hb5 HK4 HG4 hs4
  go_wp2_with fail
  go_ret
  exact ⟨rfl, HV.out⟩
end Go.Proofs.Ytfogoebflfkknaa
