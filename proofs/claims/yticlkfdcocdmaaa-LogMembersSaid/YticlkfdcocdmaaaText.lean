/- The walk of num.Text: it lays texts, each behind its length. -/
import Derived.Test.YticlkfdcocdmaaaBuild
import Derived.Test.YticlkfdcocdmaaaViewI
import Derived.Test.YticlkfdcocdmaaaTextP
namespace Go.Proofs.Yticlkfdcocdmaaa
open Go.RowKit
set_option linter.unusedVariables false
/-- A slice of texts reads as ss. -/
def TextsAt (w : World) (ao : Option Addr) (n : Nat) (ss : List ByteArray) : Prop :=
  ss.length = n ∧ (0 < n → ∃ b o, ao = some ⟨b, o, none⟩ ∧ b < w.heap.size ∧ ∀ (k : Nat) (s : ByteArray), ss[k]? = some s → w.cell? ⟨b, o + k, none⟩ = some (.string s))
end Go.Proofs.Yticlkfdcocdmaaa
