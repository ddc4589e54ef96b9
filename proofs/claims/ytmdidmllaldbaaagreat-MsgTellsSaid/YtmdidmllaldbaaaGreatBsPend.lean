/- Lists that wait to be kept, and what stands beside them, along the addings. -/
import Derived.Test.YtmdidmllaldbaaaGreatBkSet
namespace Go.Proofs.YtmdidmllaldbaaaGreat
open Go.RowKit
set_option linter.unusedVariables false
/-- A list that waits under number i. -/
structure Pend (W : World) (B : Nat) (o : Nat → Tag) (i : Nat) (e : TypeId) (size : Nat) (v : Value) (n : Nat) (xs : List Value) : Prop where
  own : W.ownsRow B e size v n xs
  tag : Tagged o W.heap.size (77, i, 0) v
theorem Pend.step {W W' : World} {B i k : Nat} {o o' : Nat → Tag} {e : TypeId} {size n : Nat} {v : Value} {xs : List Value} (h : Pend W B o k e size v n xs) (hu : Upd i o o' W.heap.size) (hT : Turn o SS W W') (hk : k ≠ i) : Pend W' B o' k e size v n xs :=
  ⟨own_turn h.own h.tag hT (not_ss77 k), (hu.wait hk h.tag).more h.own _⟩
theorem Pend.below {W W' : World} {B k : Nat} {o : Nat → Tag} {e : TypeId} {size n : Nat} {v : Value} {xs : List Value} (h : Pend W B o k e size v n xs) (hb : Below W.heap.size W W') : Pend W' B o k e size v n xs :=
  ⟨own_below h.own hb, h.tag.more h.own _⟩
/-- What stands between N and the end of W0 stays. -/
structure Kp (N : Nat) (W0 W : World) (o : Nat → Tag) : Prop where
  size : W0.heap.size ≤ W.heap.size
  same : ∀ g, N ≤ g → g < W0.heap.size → W.heap[g]? = W0.heap[g]?
  ns : ∀ g, N ≤ g → g < W0.heap.size → ¬ SS (o g)
theorem Kp.step {N i : Nat} {W0 W W' : World} {o o' : Nat → Tag} (h : Kp N W0 W o) (hu : Upd i o o' W.heap.size) (hT : Turn o SS W W') : Kp N W0 W' o' :=
  ⟨Nat.le_trans h.size hT.size, fun g h1 h2 => (hT.block g (Nat.lt_of_lt_of_le h2 h.size) (h.ns g h1 h2)).trans (h.same g h1 h2), fun g h1 h2 => hu.not (Nat.lt_of_lt_of_le h2 h.size) (h.ns g h1 h2)⟩
theorem Kp.pres {N : Nat} {W0 W : World} {o : Nat → Tag} (h : Kp N W0 W o) : Pres N W0 W := ⟨h.size, h.same⟩
/-- One row more gets a tag of its own. -/
def tagRow (o : Nat → Tag) (v : Value) (k : Nat) : Nat → Tag := fun g => if v.ownBlock = some g then (77, k, 0) else o g
theorem tagRow_own (o : Nat → Tag) (v : Value) (k M : Nat) : Tagged (tagRow o v k) M (77, k, 0) v := fun g hg _ => by unfold tagRow; rw [if_pos hg]
theorem tagRow_other {o : Nat → Tag} {v v' : Value} {k M : Nat} {t : Tag} (h : Tagged o M t v') (hne : ∀ g, v'.ownBlock = some g → v.ownBlock ≠ some g) : Tagged (tagRow o v k) M t v' := fun g hg hlt => by
  unfold tagRow
  rw [if_neg (hne g hg)]
  exact h g hg hlt
theorem tagRow_agree {o : Nat → Tag} {v : Value} {k N : Nat} (hne : ∀ g, v.ownBlock = some g → N ≤ g) : Agree o (tagRow o v k) N := fun g hg => by
  unfold tagRow
  rw [if_neg (fun e => by have := hne g e; omega)]
theorem tagRow_ns {o : Nat → Tag} {v : Value} {k g : Nat} (h : ¬ SS (o g)) : ¬ SS (tagRow o v k g) := by
  unfold tagRow
  split
  · exact not_ss77 k
  · exact h
end Go.Proofs.YtmdidmllaldbaaaGreat
