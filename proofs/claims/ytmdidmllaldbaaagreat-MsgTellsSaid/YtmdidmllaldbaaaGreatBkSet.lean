/- A law's Book: lists that wait to be kept have tags of their own. -/
import Derived.Test.YtmdidmllaldbaaaGreatBook
namespace Go.Proofs.YtmdidmllaldbaaaGreat
open Go.RowKit
set_option linter.unusedVariables false
/-- The tags of what an adding turns. -/
def SS (t : Tag) : Prop := t = (99, 0, 0) ∨ (t.1 < 50 ∧ t.2.1 ≤ 1)
def Upd (i : Nat) (o o' : Nat → Tag) (N : Nat) : Prop := ∀ g, g < N → o' g = o g ∨ (o g = (77, i, 0) ∧ ∃ j q, o' g = (j, 2, q))
theorem Upd.not {i : Nat} {o o' : Nat → Tag} {N g : Nat} (h : Upd i o o' N) (hg : g < N) (hs : ¬ SS (o g)) : ¬ SS (o' g) := by
  rcases h g hg with e | ⟨_, j, q, e⟩
  · rw [e]; exact hs
  · rw [e]
    rintro (e | ⟨_, e⟩)
    · injection e with _ e; injection e with e; cases e
    · exact absurd e (by show ¬ (2 ≤ 1); omega)
theorem Upd.wait {i k : Nat} {o o' : Nat → Tag} {N : Nat} {v : Value} (h : Upd i o o' N) (hk : k ≠ i) (ht : Tagged o N (77, k, 0) v) : Tagged o' N (77, k, 0) v := fun g hg hlt => by
  have e := ht g hg hlt
  rcases h g hlt with e2 | ⟨e2, _⟩
  · rw [e2, e]
  · rw [e] at e2
    injection e2 with _ e2
    injection e2 with e2
    exact absurd e2 hk
/-- What waits under a number gets its place. -/
def settle (o : Nat → Tag) (i j n : Nat) : Nat → Tag := fun g => if o g = (77, i, 0) then (j, 2, n) else o g
theorem settle_other {o : Nat → Tag} {i j n g : Nat} {t : Tag} (h : o g = t) (ht : t.1 ≠ 77) : settle o i j n g = t := by
  unfold settle
  rw [if_neg (by rw [h]; intro e; rw [e] at ht; exact ht rfl), h]
theorem settle_tag {o : Nat → Tag} {i j n N : Nat} {t : Tag} {v : Value} (h : Tagged o N t v) (ht : t.1 ≠ 77) : Tagged (settle o i j n) N t v := fun g hg hlt => settle_other (h g hg hlt) ht
theorem settle_own {o : Nat → Tag} {i j n N : Nat} {v : Value} (h : Tagged o N (77, i, 0) v) : Tagged (settle o i j n) N (j, 2, n) v := fun g hg hlt => by
  unfold settle
  rw [if_pos (h g hg hlt)]
theorem Kept.settle {α : Type} {w : World} {B i j j' n : Nat} {o : Nat → Tag} {te T : TypeId} {size : Nat} {enc : List α → List Value} {ov wv : Value} {rows : List (KRow α)} (h : Kept w B o j te T size enc ov wv rows) (hj : j ≠ 77) : Kept w B (settle o i j' n) j te T size enc ov wv rows :=
  ⟨h.few, h.short, h.out, h.was, settle_tag h.tout hj, settle_tag h.twas hj, fun q r hr => ⟨(h.row q r hr).1, (h.row q r hr).2.1, settle_tag (h.row q r hr).2.2.1 hj, settle_tag (h.row q r hr).2.2.2 hj⟩⟩
theorem settle_turn {o : Nat → Tag} {i j n : Nat} {w w' : World} (hj : j < 50) (h : Turn (settle o i j n) (fun t => t = (99, 0, 0) ∨ t = (j, 0, 0) ∨ t = (j, 1, 0)) w w') : Turn o SS w w' :=
  ⟨h.os, h.tape, h.output, h.size, fun k hk hs => h.block k hk (fun e => hs (by
    by_cases h1 : o k = (77, i, 0)
    · have e0 : Go.Proofs.YtmdidmllaldbaaaGreat.settle o i j n k = (j, 2, n) := by unfold Go.Proofs.YtmdidmllaldbaaaGreat.settle; rw [if_pos h1]
      rw [e0] at e
      rcases e with e | e | e
      · injection e with _ e; injection e with e; cases e
      · injection e with _ e; injection e with e; cases e
      · injection e with _ e; injection e with e; cases e
    · have e0 : Go.Proofs.YtmdidmllaldbaaaGreat.settle o i j n k = o k := by unfold Go.Proofs.YtmdidmllaldbaaaGreat.settle; rw [if_neg h1]
      rw [e0] at e
      rcases e with e | e | e
      · exact .inl e
      · exact .inr ⟨by rw [e]; exact hj, by rw [e]; exact Nat.zero_le _⟩
      · exact .inr ⟨by rw [e]; exact hj, by rw [e]; exact Nat.le_refl _⟩))⟩
theorem settle_upd {o o' : Nat → Tag} {i j n N : Nat} (h : Agree (settle o i j n) o' N) : Upd i o o' N := fun g hg => by
  rw [h g hg]
  unfold Go.Proofs.YtmdidmllaldbaaaGreat.settle
  by_cases h1 : o g = (77, i, 0)
  · rw [if_pos h1]; exact .inr ⟨h1, j, n, rfl⟩
  · rw [if_neg h1]; exact .inl rfl
/-- Nothing from block N on has turned. -/
structure Pres (N : Nat) (W W' : World) : Prop where
  size : W.heap.size ≤ W'.heap.size
  block : ∀ g, N ≤ g → g < W.heap.size → W'.heap[g]? = W.heap[g]?
theorem Pres.refl (N : Nat) (W : World) : Pres N W W := ⟨Nat.le_refl _, fun _ _ _ => rfl⟩
theorem Pres.trans {N : Nat} {a b c : World} (h : Pres N a b) (k : Pres N b c) : Pres N a c := ⟨Nat.le_trans h.size k.size, fun g h1 h2 => (k.block g h1 (Nat.lt_of_lt_of_le h2 h.size)).trans (h.block g h1 h2)⟩
theorem Pres.ofBelow {N : Nat} {a b : World} (h : Below a.heap.size a b) : Pres N a b := ⟨h.size, fun g _ h2 => h.block g h2⟩
theorem Pres.ofTurn {N : Nat} {o : Nat → Tag} {a b : World} (h : Turn o SS a b) (hs : ∀ g, N ≤ g → g < a.heap.size → ¬ SS (o g)) : Pres N a b := ⟨h.size, fun g h1 h2 => h.block g h2 (hs g h1 h2)⟩
theorem own_pres {N base : Nat} {W W' : World} {e : TypeId} {size n : Nat} {v : Value} {xs : List Value} (h : W.ownsRow base e size v n xs) (hp : Pres N W W') (hN : N ≤ base) : W'.ownsRow base e size v n xs := by
  rcases h with ⟨hl, h | ⟨g, cap, cur, hv, hg, hh, hr⟩⟩
  · exact ⟨hl, .inl h⟩
  · exact ⟨hl, .inr ⟨g, cap, cur, hv, hg, (hp.block g (by omega) (blk_lt hh)).trans hh, hr⟩⟩
theorem retag_ss {o : Nat → Tag} {N g k : Nat} (h : N ≤ g) : retag o N (77, k, 0) g = (77, k, 0) := by unfold retag; rw [if_neg (by omega)]
theorem not_ss77 (k : Nat) : ¬ SS (77, k, 0) := by
  rintro (e | ⟨e, _⟩)
  · injection e with e; cases e
  · exact absurd e (by show ¬ (77 < 50); omega)
def book0 : Array Value := #[.slice none 0 0, .slice none 0 0, .slice none 0 0, .slice none 0 0, .slice none 0 0, .slice none 0 0, .slice none 0 0, .slice none 0 0, .slice none 0 0, .slice none 0 0, .slice none 0 0, .slice none 0 0, .slice none 0 0, .slice none 0 0, .slice none 0 0, .slice none 0 0, .slice none 0 0, .slice none 0 0, .slice none 0 0, .slice none 0 0, .slice none 0 0, .slice none 0 0]
end Go.Proofs.YtmdidmllaldbaaaGreat
