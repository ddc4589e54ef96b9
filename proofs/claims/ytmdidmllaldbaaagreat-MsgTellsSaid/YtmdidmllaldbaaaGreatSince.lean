/- A region that draws its order, reads, and calls what only makes memory of its own: walked once, in the class of the worlds in which nothing that lay below a block has turned. -/
import Derived.Test.YtmdidmllaldbaaaGreatBase
import Derived.Deep.QuietTactic
import Derived.BigQuiet
namespace Go.Proofs.YtmdidmllaldbaaaGreat
open Go.RowKit
/-- A world behind W0 in which nothing below B has turned. -/
structure SinceW (B : Nat) (W0 : World) where
  w : World
  h : Below B W0 w
instance {B : Nat} {W0 : World} : Nonempty (SinceW B W0) := ⟨⟨W0, Below.refl _ _⟩⟩
theorem wp_region_since {P : Program} {B : Nat} {W0 : World} {id : Nat} {Q : Exit → Act → World → Prop} {a : Act} {w : World} {l : List Oper} (hm : P.follows .mixedOrders = true) (hB : Region.lexB .any l.toArray = true) (h0 : Below B W0 w)
    (h : wpQuiet P l.toArray (fun w' => ∃ p : SinceW B W0, w' = p.w) (fun a' => ∀ w', (∃ p : SinceW B W0, w' = p.w) → Q .normal a' w') l a) : (Code.region id l.toArray true).wp P Q a w :=
  wp_region_quiet (C := fun w' => ∃ p : SinceW B W0, w' = p.w) hm hB ⟨⟨_, h0.drew⟩, rfl⟩ (by simpa using h)
theorem since_call {P : Program} {B : Nat} {W0 : World} {f : FuncId} {args : Array Value} {p : SinceW B W0} {v : Value} (hB : B ≤ W0.heap.size)
    (h : Calls P f args p.w fun e w' => e = .returned v ∧ Below p.w.heap.size p.w w') : Calls P f args p.w fun e w'' => e = .returned v ∧ ∃ q : SinceW B W0, w'' = q.w :=
  h.mono fun _ _ ⟨he, hb⟩ => ⟨he, ⟨⟨_, p.h.trans (hb.mono (Nat.le_trans hB p.h.size))⟩, rfl⟩⟩
theorem since_same {P : Program} {B : Nat} {W0 : World} {f : FuncId} {args : Array Value} {p : SinceW B W0} {v : Value}
    (h : Calls P f args p.w fun e w' => e = .returned v ∧ p.w = w') : Calls P f args p.w fun e w'' => e = .returned v ∧ ∃ q : SinceW B W0, w'' = q.w :=
  h.mono fun _ _ ⟨he, hw⟩ => ⟨he, ⟨p, hw.symm⟩⟩
end Go.Proofs.YtmdidmllaldbaaaGreat
