/- The plain law of EntBack. -/
import Derived.Test.YtegiibpdkioocaaEntP
namespace Go.Proofs.Ytegiibpdkioocaa
open Go.RowKit
set_option linter.unusedVariables false
def goodB (n : Nat) (l : List Ent) (k : Nat) : Bool := decide (n ≤ 400) && (l.take k).all (fun e => decide (e.dt.size ≤ 2200))
theorem goodB_zero (n : Nat) (l : List Ent) : goodB n l 0 = decide (n ≤ 400) := by simp [goodB]
theorem goodB_succ (n : Nat) (l : List Ent) (k : Nat) (e : Ent) (h : l[k]? = some e) : goodB n l (k + 1) = (goodB n l k && decide (e.dt.size ≤ 2200)) := by
  unfold goodB
  have : l.take (k + 1) = l.take k ++ [e] := by rw [List.take_add_one, h]; rfl
  rw [this]
  simp [Bool.and_assoc]
theorem goodB_yes {n : Nat} {l : List Ent} (hl : l.length = n) (h : goodB n l n = true) : l.length ≤ 400 ∧ ∀ e ∈ l, e.dt.size ≤ 2200 := by
  unfold goodB at h
  rw [List.take_of_length_le (by omega)] at h
  simp at h
  exact ⟨by omega, h.2⟩
theorem goodB_no {n : Nat} {l : List Ent} (hl : l.length = n) (h : goodB n l n = false) : ¬ (l.length ≤ 400 ∧ ∀ e ∈ l, e.dt.size ≤ 2200) := by
  rintro ⟨h1, h2⟩
  have : goodB n l n = true := by
    unfold goodB
    rw [List.take_of_length_le (by omega)]
    simp
    exact ⟨by omega, h2⟩
  rw [this] at h
  cases h
def mayB (n : Nat) (vs : List Int) (k : Nat) : Bool := (decide (n ≤ 9) && decide (0 < n)) && memsOk 0 (vs.take k)
theorem mayB_zero (n : Nat) (vs : List Int) : mayB n vs 0 = (decide (n ≤ 9) && decide (0 < n)) := by simp [mayB, memsOk]
theorem memsOk_snoc (v : Int) : ∀ (l : List Int) (la : Int), memsOk la (l ++ [v]) = (memsOk la l && (decide ((l.getLast?).getD la < v) && decide (v ≤ 64))) := by
  intro l
  induction l with
  | nil =>
    intro la
    simp only [List.nil_append, memsOk, List.getLast?_nil, Option.getD_none, Bool.true_and]
    by_cases h1 : la < v
    · by_cases h2 : v ≤ 64
      · rw [if_neg (by omega)]; simp [h1, h2]
      · rw [if_pos (by omega)]; simp [h2]
    · rw [if_pos (by omega)]; simp [h1]
  | cons a r ih =>
    intro la
    rw [List.cons_append, memsOk, memsOk]
    split
    · rfl
    · rw [ih a]
      cases r with
      | nil => rfl
      | cons b r =>
        rw [List.getLast?_cons_cons]
        cases hh : (b :: r).getLast? with
        | none => simp at hh
        | some x => rfl
theorem memsOk_last : ∀ (l : List Int) (la : Int), memsOk la l = true → la ≤ (l.getLast?).getD la := by
  intro l
  induction l with
  | nil => intro la _; exact Int.le_refl _
  | cons a r ih =>
    intro la h
    rw [memsOk] at h
    split at h
    · cases h
    · have := ih a h
      cases r with
      | nil => show la ≤ a; omega
      | cons b r =>
        rw [List.getLast?_cons_cons]
        have e : ((b :: r).getLast?).getD la = ((b :: r).getLast?).getD a := by
          cases hh : (b :: r).getLast? with
          | none => simp at hh
          | some x => rfl
        rw [e]
        omega
theorem mayB_no {n : Nat} {vs : List Int} {k : Nat} (v : Int) (hv : vs[k]? = some v) (h : mayB n vs k = false) : mayB n vs (k + 1) = false := by
  unfold mayB at h ⊢
  have : vs.take (k + 1) = vs.take k ++ [v] := by rw [List.take_add_one, hv]; rfl
  rw [this, memsOk_snoc, ← Bool.and_assoc, h]
  rfl
theorem mayB_first {n : Nat} {vs : List Int} (v : Int) (hv : vs[0]? = some v) (h : mayB n vs 0 = true) : mayB n vs 1 = (decide (1 ≤ v) && decide (v ≤ 64)) := by
  rw [mayB_zero] at h
  unfold mayB
  have : vs.take 1 = [] ++ [v] := by rw [List.take_add_one, hv]; rfl
  rw [this, memsOk_snoc, h]
  show (true && (true && (decide ((0 : Int) < v) && decide (v ≤ 64)))) = _
  simp only [Bool.true_and]
  congr 1
theorem mayB_next {n : Nat} {vs : List Int} {j : Nat} (p v : Int) (hp : vs[j]? = some p) (hv : vs[j + 1]? = some v) (h : mayB n vs (j + 1) = true) : 1 ≤ p ∧ mayB n vs (j + 2) = (decide (p < v) && decide (v ≤ 64)) := by
  have e1 : vs.take (j + 1) = vs.take j ++ [p] := by rw [List.take_add_one, hp]; rfl
  have e2 : vs.take (j + 2) = vs.take (j + 1) ++ [v] := by rw [List.take_add_one, hv]; rfl
  have hl : (vs.take (j + 1)).getLast? = some p := by rw [e1]; simp
  unfold mayB at h ⊢
  rw [Bool.and_eq_true] at h
  constructor
  · have h2 := h.2
    rw [e1, memsOk_snoc, Bool.and_eq_true, Bool.and_eq_true, decide_eq_true_eq] at h2
    have := memsOk_last _ _ h2.1
    omega
  · rw [e2, memsOk_snoc, hl, h.2, h.1]
    rfl
theorem mayB_yes {n : Nat} {vs : List Int} (hl : vs.length = n) (hv : ∀ v ∈ vs, -9223372036854775808 ≤ v ∧ v ≤ 9223372036854775807) (h : mayB n vs n = true) : membersP (memB vs) = (vs, 0) := by
  unfold mayB at h
  rw [List.take_of_length_le (by omega), Bool.and_eq_true, Bool.and_eq_true, decide_eq_true_eq, decide_eq_true_eq] at h
  rw [membersP_put vs (by omega) hv, if_pos (by omega), if_neg (by rintro rfl; simp at hl; omega), h.2, if_pos rfl]
theorem mayB_bad {n : Nat} {vs : List Int} (hl : vs.length = n) (hn : n ≤ 1000) (hv : ∀ v ∈ vs, -9223372036854775808 ≤ v ∧ v ≤ 9223372036854775807) (h : mayB n vs n = false) : (membersP (memB vs)).2 ≠ 0 := by
  unfold mayB at h
  rw [List.take_of_length_le (by omega)] at h
  rw [membersP_put vs (by omega) hv]
  by_cases h1 : vs.length ≤ 9
  · rw [if_pos h1]
    by_cases h2 : vs = []
    · rw [if_pos h2]; decide
    · rw [if_neg h2]
      have h3 : 0 < n := by
        rcases Nat.eq_zero_or_pos n with h0 | h0
        · exact absurd (List.eq_nil_of_length_eq_zero (by omega)) h2
        · exact h0
      have h4 : memsOk 0 vs = false := by
        rw [decide_eq_true (by omega), decide_eq_true h3] at h
        simpa using h
      rw [h4]
      simp
  · rw [if_neg h1]; decide
end Go.Proofs.Ytegiibpdkioocaa
