/- The walks of arboretumref1.Reader: the document's own reader reads what the plain one tells. -/
import Derived.Test.YtmdidmllaldbaaaNumber
import Derived.Test.YtmdidmllaldbaaaReader2
import Derived.Test.YtmdidmllaldbaaaRefVar
import Derived.IntWalk
namespace Go.Proofs.Ytmdidmllaldbaaa
/-! ### The walks of arboretumref1.Reader: the document's own reader reads what the plain one tells. -/
section
open Go.RowKit
theorem rmul (k c : Nat) (hk : k ≤ 9) (h9 : k = 9 → c ≤ 1) (hc : c < 128) : c * 128 ^ k + 128 ^ k ≤ 18446744073709551616 := by
  rw [← Nat.succ_mul]
  rcases Nat.lt_or_ge k 9 with h | h
  · calc (c + 1) * 128 ^ k ≤ 128 * 128 ^ 8 := Nat.mul_le_mul (by omega) (Nat.pow_le_pow_right (by omega) (by omega))
      _ ≤ _ := by decide
  · obtain rfl : k = 9 := by omega
    calc (c + 1) * 128 ^ 9 ≤ 2 * 128 ^ 9 := Nat.mul_le_mul_right _ (by have := h9 rfl; omega)
      _ ≤ _ := by decide
end
/-! ### The walk of arboretumref1.Reader.Bool: the document's own reader reads what the plain one tells. -/
section
open Go.RowKit
end
end Go.Proofs.Ytmdidmllaldbaaa
