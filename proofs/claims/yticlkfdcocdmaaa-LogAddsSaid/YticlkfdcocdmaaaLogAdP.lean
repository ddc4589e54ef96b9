/- The plain law of LogAdds: a log to which texts were added. -/
import Derived.Test.YticlkfdcocdmaaaLogG
namespace Go.Proofs.Yticlkfdcocdmaaa
open Go.RowKit
set_option linter.unusedVariables false
def entA (base term : Int) (ss : List ByteArray) (i : Nat) : Ent := ⟨base + i + 1, term, 1, ss.getD i ⟨#[]⟩⟩
def logA (base term : Int) (ss : List ByteArray) (k : Nat) : LogV := ⟨base, term, (List.range k).map (entA base term ss)⟩
section
variable (base term : Int) (ss : List ByteArray)
theorem logA_len (k : Nat) : (logA base term ss k).l.length = k := by simp [logA]
theorem logA_get (k i : Nat) (h : i < k) : (logA base term ss k).l[i]? = some (entA base term ss i) := by simp [logA, h]
theorem logA_succ (k : Nat) : (logA base term ss k).l ++ [entA base term ss k] = (logA base term ss (k + 1)).l := by simp [logA, List.range_succ]
theorem lastA (k : Nat) : (lastV (logA base term ss k)).1 = base + k := by
  unfold lastV
  rw [List.getLast?_eq_getElem?, logA_len]
  by_cases h : k = 0
  · subst h; show base = _; omega
  · rw [logA_get _ _ _ k (k - 1) (by omega)]
    show base + ((k - 1 : Nat) : Int) + 1 = _
    omega
theorem atA (k : Nat) : atV (logA base term ss (k + 1)) (base + k + 1) = some (entA base term ss k) := by
  unfold atV
  rw [logA_len]
  show (if base + (k : Int) + 1 ≤ base ∨ ((k + 1 : Nat) : Int) < base + k + 1 - base then none else _) = _
  rw [if_neg (by omega), show (base + (k : Int) + 1 - (logA base term ss (k + 1)).base - 1).toNat = k from by show (base + (k : Int) + 1 - base - 1).toNat = k; omega, logA_get _ _ _ _ _ (by omega)]
/-- What Slice answers, entry by entry. -/
theorem sliceA_len (n : Nat) (f m : Int) : ((sliceV (logA base term ss n) f m).length : Int) = if base < f ∧ f ≤ base + n then (if m < 1 then 0 else min m (base + n - f + 1)) else 0 := by
  unfold sliceV
  rw [logA_len]
  show ((if f ≤ base ∨ (n : Int) < f - base ∨ m < 1 then [] else (List.drop (f - base - 1).toNat (logA base term ss n).l).take m.toNat).length : Int) = _
  by_cases h1 : base < f ∧ f ≤ base + n
  · rw [if_pos h1]
    by_cases h2 : m < 1
    · rw [if_pos h2, if_pos (.inr (.inr h2))]; rfl
    · rw [if_neg h2, if_neg (by omega), List.length_take, List.length_drop, logA_len]
      omega
  · rw [if_neg h1]
    by_cases h2 : f ≤ base ∨ (n : Int) < f - base ∨ m < 1
    · rw [if_pos h2]; rfl
    · omega
theorem sliceA_get (n : Nat) (f m : Int) (i : Nat) (e : Ent) (h : (sliceV (logA base term ss n) f m)[i]? = some e) :
    ∃ j : Nat, f = base + j + 1 ∧ j + i < n ∧ e = entA base term ss (j + i) := by
  unfold sliceV at h
  rw [logA_len] at h
  change (if f ≤ base ∨ (n : Int) < f - base ∨ m < 1 then [] else (List.drop (f - base - 1).toNat (logA base term ss n).l).take m.toNat)[i]? = some e at h
  by_cases h2 : f ≤ base ∨ (n : Int) < f - base ∨ m < 1
  · rw [if_pos h2] at h; simp at h
  · rw [if_neg h2] at h
    obtain ⟨j, hj⟩ : ∃ j : Nat, f - base - 1 = j := ⟨(f - base - 1).toNat, by omega⟩
    rw [hj, Int.toNat_natCast] at h
    have hi : i < ((List.drop j (logA base term ss n).l).take m.toNat).length := (List.getElem?_eq_some_iff.1 h).1
    rw [List.length_take, List.length_drop, logA_len] at hi
    rw [List.getElem?_take, if_pos (by omega), List.getElem?_drop, logA_get _ _ _ _ _ (by omega)] at h
    injection h with h
    exact ⟨j, by omega, by omega, h.symm⟩
end
end Go.Proofs.Yticlkfdcocdmaaa
