/- The walks of strings.Builder's methods: what is written is what String tells. -/
import Derived.Test.YticlkfdcocdmaaaClone
import Derived.Lib.Builder
import Derived.Lib.AppendStr
import Derived.RegionTactic
namespace Go.Proofs.Yticlkfdcocdmaaa
open Go.RowKit
/-- Blocks that are no builder and no row of bytes lie as they lay. -/
def Far (b : Nat) (w w' : World) : Prop := ∀ (g : Nat) (cs : Array Value) (T : TypeId), w.heap[g]? = some (.cells cs T (0, 0)) → g ≠ b → T ≠ 5 → w'.heap[g]? = w.heap[g]?
/-- What String tells. -/
def StrRes (B : Nat) (l : List UInt8) (e : Ending) (w w' : World) : Prop := e = .returned (.string ⟨l.toArray⟩) ∧ Below B w w'
end Go.Proofs.Yticlkfdcocdmaaa
