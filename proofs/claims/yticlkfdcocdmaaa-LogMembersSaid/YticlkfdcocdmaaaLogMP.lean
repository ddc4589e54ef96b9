/- What a log's Merge answers: plain laws. -/
import Derived.Test.YticlkfdcocdmaaaLogE
namespace Go.Proofs.Yticlkfdcocdmaaa
open Go.RowKit
set_option linter.unusedVariables false
def scan (x : LogV) (keep : Int) : Nat → Nat → List Ent → Option Nat
  | _, f, [] => some f
  | k, f, e :: r => if (termV x e.ix).2 = true ∧ (termV x e.ix).1 = e.tm then scan x keep (k + 1) f r else if (termV x e.ix).2 = true ∧ e.ix ≤ keep then none else scan x keep (k + 1) (if f = 0 then k + 1 else f) r
/-- A log after Merge, and what it answers, by the first entry that is new. -/
def takeOf (x : LogV) (l : List Ent) (f : Nat) : Option Ent → LogV × Int × Bool
  | none => (x, 0, true)
  | some e => (⟨x.base, x.term, x.l.take (e.ix - x.base - 1).toNat ++ l.drop f⟩, e.ix, true)
def mergeOf (x : LogV) (l : List Ent) : Option Nat → LogV × Int × Bool
  | none => (x, 0, false)
  | some 0 => (x, 0, true)
  | some (f + 1) => takeOf x l f l[f]?
def mergeV (x : LogV) (prev term keep : Int) (l : List Ent) : LogV × Int × Bool :=
  if (termV x prev).2 = true ∧ (termV x prev).1 = term ∧ folB prev term l = true then mergeOf x l (scan x keep 0 0 l) else (x, 0, false)
theorem term_range {x : LogV} {p : Int} (h : (termV x p).2 = true) : x.base ≤ p ∧ p ≤ x.base + x.l.length := by
  unfold termV at h
  split at h
  · omega
  · unfold atV at h
    split at h
    · simp at h
    · omega
theorem scan_pos (x : LogV) (keep : Int) : ∀ (l : List Ent) (k f F : Nat), f ≠ 0 → scan x keep k f l = some F → F = f := by
  intro l
  induction l with
  | nil => intro k f F _ h; simp [scan] at h; omega
  | cons e r ih =>
    intro k f F hf h
    rw [scan] at h
    split at h
    · exact ih _ _ _ hf h
    · split at h
      · cases h
      · first | exact ih _ _ _ hf h | (rw [if_neg hf] at h; exact ih _ _ _ hf h)
theorem scan_first (x : LogV) (keep : Int) (h0 : 0 ≤ x.base) (h9 : x.base + x.l.length < 4611686018427387904) : ∀ (l : List Ent) (k F : Nat) (p t : Int), folB p t l = true → (termV x p).2 = true → scan x keep k 0 l = some F →
    F = 0 ∨ ∃ j e, F = k + j + 1 ∧ l[j]? = some e ∧ x.base < e.ix ∧ e.ix ≤ x.base + x.l.length + 1 := by
  intro l
  induction l with
  | nil => intro k F p t _ _ h; simp [scan] at h; exact .inl h.symm
  | cons e r ih =>
    intro k F p t hf hp h
    have hr := term_range hp
    have hix : e.ix = p + 1 ∧ folB e.ix e.tm r = true := by
      rw [folB] at hf
      split at hf
      · cases hf
      · rename_i hh
        have h1 : e.ix = wrap64 (p + 1) := Classical.byContradiction fun hc => hh (.inl hc)
        have hw : wrap64 (p + 1) = p + 1 := by unfold wrap64; omega
        exact ⟨by rw [h1, hw], hf⟩
    rw [scan] at h
    split at h
    · rename_i hm
      rcases ih (k + 1) F e.ix e.tm hix.2 hm.1 h with h0 | ⟨j, e', h1, h2, h3, h4⟩
      · exact .inl h0
      · exact .inr ⟨j + 1, e', by omega, by simpa using h2, h3, h4⟩
    · split at h
      · cases h
      · rw [if_pos rfl] at h
        have := scan_pos x keep r _ _ _ (by omega) h
        exact .inr ⟨0, e, by omega, rfl, by omega, by omega⟩
/-- A slice of entries from place f on. -/
theorem Ents.drop {w : World} {B : Nat} {g o n f : Nat} {l : List Ent} (h : Ents w B (some ⟨g, o, none⟩) n l) (hf : f < n) : Ents w B (some ⟨g, o + f * 4, none⟩) (n - f) (l.drop f) := by
  refine ⟨by rw [List.length_drop, h.1], fun _ => ?_⟩
  obtain ⟨b', o', ha, hb, hc⟩ := h.2 (by omega)
  injection ha with ha
  injection ha with h1 h2
  subst h1
  subst h2
  refine ⟨g, o + f * 4, rfl, hb, fun k e hk => ?_⟩
  rw [List.getElem?_drop] at hk
  have := hc _ _ hk
  rw [show o + f * 4 + k * 4 = o + (f + k) * 4 from by omega]
  exact this
/-- Entries do not lie in a log's own block. -/
theorem ents_ne {w : World} {b g o : Nat} {cs : Array Value} {T : TypeId} {e : Ent} (hb : w.heap[b]? = some (.cells cs T (0, 0))) (hs : cs.size = 3) (h : EntAt w g o e) : g ≠ b := by
  rintro rfl
  have := h.2.2.2
  rw [blk_cell hb, Array.getElem?_eq_none (by omega)] at this
  cases this
theorem entCells_take (l : List Ent) (k : Nat) : (entCells l).take (k * 4) = entCells (l.take k) := by
  induction l generalizing k with
  | nil => simp [entCells]
  | cons e l ih =>
    cases k with
    | zero => simp [entCells]
    | succ k =>
      show (e.cells ++ entCells l).take _ = e.cells ++ entCells (l.take k)
      have he : e.cells.length = 4 := rfl
      rw [List.take_append, he, show (k + 1) * 4 - 4 = k * 4 from by omega, ih, List.take_of_length_le (by omega)]
end Go.Proofs.Yticlkfdcocdmaaa
