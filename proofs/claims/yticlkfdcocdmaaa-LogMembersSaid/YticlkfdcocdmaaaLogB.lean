/- A log in memory, and the walks of its plain readers: Len, Base, At, Last, Term, Newer. -/
import Derived.Test.YticlkfdcocdmaaaOwn
import Derived.Deep.QuietTactic
import Derived.BigQuiet
import Derived.Deep.RegionHeld3
namespace Go.Proofs.Yticlkfdcocdmaaa
open Go.RowKit
set_option linter.unusedVariables false
structure LogV where
  base : Int
  term : Int
  l : List Ent
/-- A log lies at block b, and all that it has lies at B or above. -/
def LogAt (w : World) (B b : Nat) (x : LogV) : Prop :=
  B ≤ b ∧ ∃ ao cap, w.heap[b]? = some (.cells #[.int .i64 x.base, .int .i64 x.term, .slice ao x.l.length cap] 61 (0, 0)) ∧ w.ownsRow B 32 4 (.slice ao x.l.length cap) x.l.length (entCells x.l)
/-- The facts that a walk reads off a log. -/
theorem LogAt.facts {w : World} {B b : Nat} {x : LogV} (h : LogAt w B b x) : ∃ ao cap, w.cell? ⟨b, 0, none⟩ = some (.int .i64 x.base) ∧ w.cell? ⟨b, 1, none⟩ = some (.int .i64 x.term) ∧ w.cell? ⟨b, 2, none⟩ = some (.slice ao x.l.length cap) ∧
    w.ownsRow B 32 4 (.slice ao x.l.length cap) x.l.length (entCells x.l) ∧ b < w.heap.size ∧ x.l.length ≤ 9223372036854775807 := by
  obtain ⟨hb, ao, cap, hh, ho⟩ := h
  refine ⟨ao, cap, by rw [blk_cell hh]; rfl, by rw [blk_cell hh]; rfl, by rw [blk_cell hh]; rfl, ho, blk_lt hh, ?_⟩
  rcases ho.2 with ⟨_, h0⟩ | ⟨g, cap', cur, hv, _, _, hc, hm, _⟩
  · omega
  · unfold maxLen at hm; omega
theorem LogAt.below {w w' : World} {B b B' : Nat} {x : LogV} (h : LogAt w B b x) (hb : Below B' w w') (hB : w.heap.size ≤ B') : LogAt w' B b x := by
  obtain ⟨h1, ao, cap, hh, ho⟩ := h
  have hlt := blk_lt hh
  exact ⟨h1, ao, cap, (hb.block b (by omega)).trans hh, ho.kept (row := none) ⟨hb.os, hb.tape, hb.output, hb.size, fun k hk _ => hb.block k (by omega)⟩ (by cases (Value.slice ao x.l.length cap).ownBlock <;> simp)⟩
theorem len_any {w : World} {B b : Nat} {x : LogV} (h : LogAt w B b x) :
    Calls Try.prog 20 #[.pointer (some ⟨b, 0, none⟩)] w fun e w' => e = .returned (.int .i64 x.l.length) ∧ w = w' := by
  obtain ⟨ao, cap, c0, c1, c2, ho, hlt, hn⟩ := h.facts
  clear ho h
  go_enter Try.func20, Try.ntmps20
  go_wp2
  go_ret
  exact ⟨rfl, rfl⟩
/-- Two numbers that a call answers, in a world that has only drawn. -/
def Two (a b : Int) (w : World) (e : Ending) (w' : World) : Prop := e = .returned (.tuple #[.int .i64 a, .int .i64 b]) ∧ ∃ n, w' = w.drewN n
theorem base_any {w : World} {B b : Nat} {x : LogV} (h : LogAt w B b x) :
    Calls Try.prog 22 #[.pointer (some ⟨b, 0, none⟩)] w (Two x.base x.term w) := by
  obtain ⟨ao, cap, c0, c1, c2, ho, hlt, hn⟩ := h.facts
  clear ho h
  go_enter Try.func22, Try.ntmps22
  go_wp2
  go_outline
  go_quiet (fail)
  go_wp2
  go_ret2
  exact ⟨rfl, _, rfl⟩
end Go.Proofs.Yticlkfdcocdmaaa
