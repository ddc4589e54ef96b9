/- The plain law of LogCompacts: what a log of n entries answers, before and behind Compact. -/
import Derived.Test.YticlkfdcocdmaaaLogF
namespace Go.Proofs.Yticlkfdcocdmaaa
open Go.RowKit
set_option linter.unusedVariables false
def entN (i : Nat) : Ent := ⟨(i : Int) + 1, 1 + (i : Int) / 3, 1, ⟨#[]⟩⟩
def logN (n : Nat) : LogV := ⟨0, 0, (List.range n).map entN⟩
theorem logN_len (n : Nat) : (logN n).l.length = n := by simp [logN]
theorem logN_get (n i : Nat) (h : i < n) : (logN n).l[i]? = some (entN i) := by simp [logN, h]
theorem logN_succ (n : Nat) : (logN n).l ++ [entN n] = (logN (n + 1)).l := by simp [logN, List.range_succ]
theorem lastN (n : Nat) : lastV (logN n) = if n = 0 then (0, 0) else ((n : Int), 1 + ((n : Int) - 1) / 3) := by
  unfold lastV
  rw [List.getLast?_eq_getElem?, logN_len]
  by_cases h : n = 0
  · subst h; rfl
  · rw [if_neg h, logN_get n (n - 1) (by omega)]
    simp only [entN]
    rw [show ((n - 1 : Nat) : Int) = (n : Int) - 1 from by omega]
    congr 1
    omega
theorem atN (n : Nat) (i : Int) : atV (logN n) i = if 1 ≤ i ∧ i ≤ n then some (entN (i - 1).toNat) else none := by
  unfold atV
  rw [logN_len]
  show (if i ≤ 0 ∨ (n : Int) < i - 0 then none else (logN n).l[(i - 0 - 1).toNat]?) = _
  by_cases h : 1 ≤ i ∧ i ≤ n
  · rw [if_pos h, if_neg (by omega), logN_get _ _ (by omega), show i - 0 - 1 = i - 1 from by omega]
  · rw [if_neg h, if_pos (by omega)]
theorem termN (n : Nat) (i : Int) : termV (logN n) i = if 0 ≤ i ∧ i ≤ n then ((if i = 0 then 0 else 1 + (i - 1) / 3), true) else (0, false) := by
  unfold termV
  rw [atN]
  show (if i = 0 then ((0 : Int), true) else _) = _
  by_cases h0 : i = 0
  · subst h0
    rw [if_pos rfl, if_pos (by omega), if_pos rfl]
  · rw [if_neg h0]
    by_cases h : 1 ≤ i ∧ i ≤ n
    · rw [if_pos h, if_pos (by omega), if_neg h0]
      simp only [Option.getD_some, Option.isSome_some, entN]
      rw [show (((i - 1).toNat : Nat) : Int) = i - 1 from by omega]
    · rw [if_neg h, if_neg (by omega)]
      rfl
/-- Behind Compact. -/
def logC (n k : Nat) : LogV := ⟨k, if k = 0 then 0 else 1 + ((k : Int) - 1) / 3, (logN n).l.drop k⟩
theorem compactN (n : Nat) (i : Int) : compactV (logN n) i = if 0 ≤ i ∧ i ≤ n then (logC n i.toNat, true) else (logN n, false) := by
  unfold compactV
  rw [termN, lastN]
  by_cases h : 0 ≤ i ∧ i ≤ n
  · have hl : i ≤ (if n = 0 then ((0 : Int), (0 : Int)) else ((n : Int), 1 + ((n : Int) - 1) / 3)).1 := by
      split
      · show i ≤ 0; omega
      · show i ≤ n; omega
    rw [if_pos h, if_pos h, if_pos ⟨rfl, hl⟩]
    have hi : ((i.toNat : Nat) : Int) = i := by omega
    show ((⟨i, (if i = 0 then (0 : Int) else 1 + (i - 1) / 3), (logN n).l.drop (i - 0).toNat⟩ : LogV), true) = _
    unfold logC
    rw [hi, show i - 0 = i from by omega]
    by_cases h0 : i = 0
    · subst h0; rfl
    · rw [if_neg h0, if_neg (by omega)]
  · rw [if_neg h, if_neg h, if_neg (by simp)]
theorem logC_len (n k : Nat) : (logC n k).l.length = n - k := by
  show ((logN n).l.drop k).length = _
  rw [List.length_drop, logN_len]
theorem lastC (n k : Nat) (h : k ≤ n) : (lastV (logC n k)).1 = n ∧ (lastV (logC n k)).2 = (if n = 0 then 0 else 1 + ((n : Int) - 1) / 3) := by
  unfold lastV
  rw [List.getLast?_eq_getElem?, logC_len]
  by_cases hk : k = n
  · subst hk
    have : (logC k k).l[k - k - 1]? = none := by
      rw [List.getElem?_eq_none]
      rw [logC_len]; omega
    rw [this]
    exact ⟨rfl, rfl⟩
  · have : (logC n k).l[n - k - 1]? = some (entN (n - 1)) := by
      show ((logN n).l.drop k)[n - k - 1]? = _
      rw [List.getElem?_drop, show k + (n - k - 1) = n - 1 from by omega, logN_get _ _ (by omega)]
    rw [this, if_neg (by omega)]
    simp only [entN]
    refine ⟨by omega, ?_⟩
    rw [show ((n - 1 : Nat) : Int) = (n : Int) - 1 from by omega]
theorem termC (n k : Nat) : termV (logC n k) k = ((if k = 0 then 0 else 1 + ((k : Int) - 1) / 3), true) := by
  unfold termV
  exact if_pos (show (k : Int) = (logC n k).base from rfl)
theorem atC (n k : Nat) (i : Int) (h : i ≤ k) : atV (logC n k) i = none := by
  unfold atV
  exact if_pos (.inl h)
theorem compactC (n k : Nat) : compactV (logC n k) ((k : Int) - 1) = (logC n k, false) := by
  unfold compactV
  rw [if_neg]
  have ht : termV (logC n k) ((k : Int) - 1) = (0, false) := by
    unfold termV
    rw [if_neg (show ¬ ((k : Int) - 1 = (logC n k).base) from by show ¬ ((k : Int) - 1 = k); omega), atC _ _ _ (by omega)]
    rfl
  rw [ht]
  simp
theorem newerC (n k : Nat) (h : k ≤ n) : newerV (logC n k) n (1 + (n : Int) / 3) = true := by
  unfold newerV
  rw [(lastC n k h).1, (lastC n k h).2]
  by_cases hn : n = 0
  · subst hn; rfl
  · rw [if_neg hn]
    by_cases h1 : 1 + ((n : Int) - 1) / 3 < 1 + (n : Int) / 3
    · simp [h1]
    · have h2 : 1 + (n : Int) / 3 = 1 + ((n : Int) - 1) / 3 := by omega
      simp [h2]
end Go.Proofs.Yticlkfdcocdmaaa
