/- The plain law of Replace: which child stands where. -/
import Derived.Test.YtegiibpdkioocaaReplC
namespace Go.Proofs.Ytegiibpdkioocaa
set_option linter.unusedVariables false
def wantC (l : List Chd) (i : Nat) (x : List Chd) (k : Nat) : Option Chd := if k < i then l[k]? else if k < i + x.length then x[k - i]? else l[k - x.length + 1]?
theorem mid_get (l : List Chd) (i : Nat) (x : List Chd) (k : Nat) (hi : i < l.length) : (l.take i ++ x ++ l.drop (i + 1))[k]? = wantC l i x k := by
  unfold wantC
  have ht : (l.take i).length = i := by rw [List.length_take]; omega
  by_cases h1 : k < i
  · rw [if_pos h1, List.append_assoc, List.getElem?_append_left (by omega), List.getElem?_take, if_pos h1]
  · rw [if_neg h1, List.append_assoc, List.getElem?_append_right (by omega), ht]
    by_cases h2 : k < i + x.length
    · rw [if_pos h2, List.getElem?_append_left (by omega)]
    · rw [if_neg h2, List.getElem?_append_right (by omega), List.getElem?_drop]
      congr 1
      omega
theorem clear0_get0 (L : List Chd) : (clear0 L)[0]? = (L[0]?).map (fun e => ⟨⟨#[]⟩, e.pg⟩) := by cases L <;> rfl
theorem clear0_get (L : List Chd) (k : Nat) (hk : k ≠ 0) : (clear0 L)[k]? = L[k]? := by
  cases L with
  | nil => rfl
  | cons e r =>
    cases k with
    | zero => exact absurd rfl hk
    | succ k => rfl
theorem replC_get0 (l : List Chd) (i : Nat) (x : List Chd) (hi : i < l.length) : (replC l i x)[0]? = (wantC l i x 0).map (fun e => ⟨⟨#[]⟩, e.pg⟩) := by
  unfold replC; rw [clear0_get0, mid_get l i x 0 hi]
theorem replC_get (l : List Chd) (i : Nat) (x : List Chd) (k : Nat) (hi : i < l.length) (hk : k ≠ 0) : (replC l i x)[k]? = wantC l i x k := by
  unfold replC; rw [clear0_get _ _ hk, mid_get l i x k hi]
theorem replC_len (l : List Chd) (i : Nat) (x : List Chd) (hi : i < l.length) : (replC l i x).length = i + x.length + (l.length - (i + 1)) := by
  unfold replC
  rw [clear0_len, List.length_append, List.length_append, List.length_take, List.length_drop]
  omega
/-- Put back again all is as it was. -/
theorem replC_back (l : List Chd) (i : Nat) (y : Chd) (e : Chd) (hi : l[i]? = some e) (h0 : ∀ a, l[0]? = some a → a.key = ⟨#[]⟩) : replC (replC l i [y]) i [e] = l := by
  have hil : i < l.length := (List.getElem?_eq_some_iff.1 hi).1
  have hl2 : (replC l i [y]).length = l.length := by rw [replC_len l i [y] hil]; show i + 1 + _ = _; omega
  apply List.ext_getElem?
  intro k
  have hmid : ∀ k, k ≠ 0 → (replC l i [y])[k]? = wantC l i [y] k := fun k hk => replC_get l i [y] k hil hk
  have hw1 : ∀ k, k ≠ i → wantC l i [y] k = l[k]? := fun k hk => by
    unfold wantC
    by_cases h1 : k < i
    · rw [if_pos h1]
    · rw [if_neg h1, if_neg (by show ¬ k < i + 1; omega)]
      congr 1
      show k - 1 + 1 = k
      omega
  have hw2 : ∀ k, k ≠ i → wantC (replC l i [y]) i [e] k = (replC l i [y])[k]? := fun k hk => by
    unfold wantC
    by_cases h1 : k < i
    · rw [if_pos h1]
    · rw [if_neg h1, if_neg (by show ¬ k < i + 1; omega)]
      congr 1
      show k - 1 + 1 = k
      omega
  have hwi : wantC (replC l i [y]) i [e] i = some e := by
    unfold wantC
    rw [if_neg (by omega), if_pos (by show i < i + 1; omega), Nat.sub_self]
    rfl
  by_cases hk : k = 0
  · subst hk
    rw [replC_get0 _ _ _ (by rw [hl2]; exact hil)]
    by_cases hi0 : i = 0
    · subst hi0
      rw [hwi, hi]
      have := h0 e hi
      obtain ⟨ek, ep⟩ := e
      dsimp only at this
      rw [this]
      rfl
    · rw [hw2 0 (fun h => hi0 h.symm), replC_get0 l i [y] hil, hw1 0 (fun h => hi0 h.symm)]
      cases h : l[0]? with
      | none => rfl
      | some a =>
        have := h0 a h
        obtain ⟨ak, ap⟩ := a
        dsimp only at this
        rw [this]
        rfl
  · rw [replC_get _ _ _ _ (by rw [hl2]; exact hil) hk]
    by_cases hki : k = i
    · subst hki; rw [hwi, hi]
    · rw [hw2 k hki, hmid k hk, hw1 k hki]
end Go.Proofs.Ytegiibpdkioocaa
