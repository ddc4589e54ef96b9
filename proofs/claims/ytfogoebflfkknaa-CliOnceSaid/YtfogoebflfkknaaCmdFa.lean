/- The walks of cmd.Asked. -/
import Derived.Test.YtfogoebflfkknaaCmdE
namespace Go.Proofs.Ytfogoebflfkknaa
open Go.RowKit
set_option linter.unusedVariables false
set_option maxRecDepth 20000 in
theorem asked_no (s : ByteArray) (w : World) (hs : s.size ≤ 281474976710656) (hp : ¬ isPre ⟨#[113]⟩ s) :
    Calls Try.prog 25 #[.string s] w fun e w' => e = .returned (.tuple #[.int .i64 0, op0.agg, .int .i64 4]) ∧ Below w.heap.size w w' := by
  have HC := Lib.hid (fun W => cut_no s ⟨#[113]⟩ W (by omega) (by decide) hp)
  have hk : OpBlk (w.alloc (.cells (opCells op0) 23)) w.heap.size op0 := heap_alloc_new w _
  obtain ⟨⟨x0, x1, x2⟩, ⟨x3, x4, x5⟩, xf⟩ := hk.facts
  have xf0 := xf 0
  have xf1 := xf 1
  have xf2 := xf 2
  have xf3 := xf 3
  have xf4 := xf 4
  have xf5 := xf 5
  have HB : Hid (Below w.heap.size w (w.alloc (.cells (opCells op0) 23))) := Lib.hid ((Below.refl _ _).alloc (Nat.le_refl _) _)
  clear hk xf hp
  go_enter Try.func25, Try.ntmps25
  go_wp2_with fail
  refine (HC.out _).mono ?_
  rintro e w1 ⟨rfl, rfl⟩
  dsimp only [op0, opCells] at x0 x1 x2 x3 x4 x5 xf0 xf1 xf2 xf3 xf4 xf5 HB
  go_wp2_with fail
  refine bodyPost_ret (v := .tuple #[.int .i64 0, .agg #[.int .i64 0, .int .i64 0, .int .i64 0, .string ⟨#[]⟩, .string ⟨#[]⟩, .string ⟨#[]⟩], .int .i64 4]) (by simp (maxDischargeDepth := 10) [results, Try.results25, go_sem, x0, x1, x2, x3, x4, x5]; try rfl) rfl ⟨rfl, ?_⟩
  exact (by ((repeat (with_reducible (first | exact HB.out | refine Below.setCell ?_ ?_ _ | refine Below.alloc ?_ ?_ _ | refine Below.drew ?_ | refine below_drewN ?_ _))); all_goals (first | exact Nat.le_refl _ | (simp [World.setCell] <;> omega))))
end Go.Proofs.Ytfogoebflfkknaa
