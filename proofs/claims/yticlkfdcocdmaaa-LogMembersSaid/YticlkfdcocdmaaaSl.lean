/- Slicing a list of entries. -/
import Derived.Test.YticlkfdcocdmaaaLogMP
namespace Go.Proofs.Yticlkfdcocdmaaa
open Go.RowKit
theorem sliceE_l (w : World) (g o n c f : Nat) (h1 : f ≤ n) (h2 : f < c) :
    (Instr.sliceAt 22 (.slice (some ⟨g, o, none⟩) n c) (some (.int .i64 (f : Int))) none none).run Try.prog w = .ok (.slice (some ⟨g, o + f * 4, none⟩) (n - f) (c - f)) w := by
  have hun : Try.prog.underlying 22 = some (.slice (Try.prog.elem 22)) := by kernel_rfl
  have hs : (sizeOf (Try.prog.elem 22)).run Try.prog w = .ok 4 w := by kernel_rfl
  rw [run_sliceAt_slice _ _ _ _ _ _ hun, run_slice_l w _ _ _ _ hun .i64 (f : Int) (by omega) (by omega), hs]
  have hcf : c ≠ f := by omega
  simp [sliced, hcf, Addr.add]
theorem sliceE_hm (w : World) (ao : Option Addr) (n c k : Nat) (h2 : k ≤ c) :
    (Instr.sliceAt 22 (.slice ao n c) none (some (.int .i64 (k : Int))) (some (.int .i64 (k : Int)))).run Try.prog w = .ok (.slice ao k k) w := by
  have hun : Try.prog.underlying 22 = some (.slice (Try.prog.elem 22)) := by kernel_rfl
  have hs : (sizeOf (Try.prog.elem 22)).run Try.prog w = .ok 4 w := by kernel_rfl
  rw [run_sliceAt_slice _ _ _ _ _ _ hun, run_slice_hm w _ _ _ _ hun .i64 .i64 (k : Int) (k : Int) (by omega) (by omega) (by omega), hs]
  cases ao <;> simp [sliced, Addr.add]
end Go.Proofs.Yticlkfdcocdmaaa
