/- A log along a walk: it lies where it lay, and nothing that was there has turned. -/
import Derived.Test.YticlkfdcocdmaaaAliveL
import Derived.Test.YticlkfdcocdmaaaLogG
import Derived.Test.YticlkfdcocdmaaaSmallE
namespace Go.Proofs.Yticlkfdcocdmaaa
open Go.RowKit
set_option linter.unusedVariables false
/-- The log x lies at block b of w1; what lay below B in w0 lies as it did. -/
def Stan (w0 w1 : World) (B b : Nat) (x : LogV) : Prop := LogAt w1 B b x ∧ Below B w0 w1 ∧ B ≤ w1.heap.size
theorem Stan.step {w0 w1 w2 : World} {B b : Nat} {x : LogV} (h : Stan w0 w1 B b x) (hb : Below w1.heap.size w1 w2) : Stan w0 w2 B b x :=
  ⟨h.1.below hb (Nat.le_refl _), h.2.1.trans (hb.mono h.2.2), Nat.le_trans h.2.2 hb.size⟩
theorem Stan.alloc {w0 w1 : World} {B b : Nat} {x : LogV} (h : Stan w0 w1 B b x) (o : Obj) : Stan w0 (w1.alloc o) B b x := h.step ((Below.refl _ _).alloc (Nat.le_refl _) _)
theorem Stan.drewN {w0 w1 : World} {B b : Nat} {x : LogV} (h : Stan w0 w1 B b x) (n : Nat) : Stan w0 (w1.drewN n) B b x := h.step (below_drewN (Below.refl _ _) _)
theorem EntsIn.folded {w W : World} {ao : Option Addr} {n c : Nat} {l : List Ent} (h : EntsIn w ao n c l) (hb : Below w.heap.size w W) (hf : folB 0 0 l = true) : Calls Try.prog 11 #[.int .i64 0, .int .i64 0, .slice ao n c] W (NewRes 0 0 l W) :=
  new_good 0 0 ao n c l W ((h.ents.below hb).mono hb.size) (by have := h.sz; have := h.le; omega) (fun e => (h.nil_ e).1) (fun e he => by have := (h.ok e he).2.2.2; omega) (by omega) (by omega) hf
theorem EntsIn.unfolded {w W : World} {ao : Option Addr} {n c : Nat} {l : List Ent} (h : EntsIn w ao n c l) (hb : Below w.heap.size w W) (hf : folB 0 0 l = false) : Calls Try.prog 11 #[.int .i64 0, .int .i64 0, .slice ao n c] W fun e w' => e = .returned (.tuple #[.pointer none, .int .i64 1]) ∧ Below W.heap.size W w' :=
  new_bad 0 0 ao n c l W ((h.ents.below hb).mono hb.size) (by have := h.sz; have := h.le; omega) (by omega) (by omega) hf
theorem EntsIn.small {w W : World} {ao : Option Addr} {n c : Nat} {l : List Ent} (h : EntsIn w ao n c l) (hb : Below w.heap.size w W) : Calls Try.prog 9 #[.slice ao n c] W fun e w' => ∃ r : Bool, e = .returned (.bool r) ∧ Below w.heap.size w w' := by
  refine (small_any (w := W) (l := l) ⟨(h.ents.below hb).mono hb.size, h.le, h.nil_, h.sz, h.ok⟩).mono ?_
  rintro e w' ⟨r, he, _, hb'⟩
  exact ⟨r, he, hb.trans (hb'.mono hb.size)⟩
section
variable {w0 W : World} {B b : Nat} {x : LogV} (h : Stan w0 W B b x)
include h
theorem Stan.alive : Calls Try.prog 10 #[] W fun e w' => e = .returned (.bool true) ∧ Stan w0 w' B b x := by
  refine (alive_any W).mono ?_
  rintro e w' ⟨he, hb⟩
  exact ⟨he, h.step hb⟩
theorem Stan.last : Calls Try.prog 14 #[.pointer (some ⟨b, 0, none⟩)] W fun e w' => e = .returned (.tuple #[.int .i64 (lastV x).1, .int .i64 (lastV x).2]) ∧ Stan w0 w' B b x := by
  refine (last_any h.1).mono ?_
  rintro e w' ⟨he, hb⟩
  exact ⟨he, h.step hb⟩
theorem Stan.len : Calls Try.prog 20 #[.pointer (some ⟨b, 0, none⟩)] W fun e w' => e = .returned (.int .i64 x.l.length) ∧ W = w' := len_any h.1
theorem Stan.term (i : Int) (hb0 : 0 ≤ x.base) (hb9 : x.base ≤ 9223372036854775807) (hi : i ≤ 9223372036854775807) : Calls Try.prog 15 #[.pointer (some ⟨b, 0, none⟩), .int .i64 i] W fun e w' => e = .returned (.tuple #[.int .i64 (termV x i).1, .bool (termV x i).2]) ∧ Stan w0 w' B b x := by
  refine (term_any h.1 i hb0 hb9 hi).mono ?_
  rintro e w' ⟨he, hb⟩
  exact ⟨he, h.step hb⟩
theorem Stan.at_some {y : Ent} (i : Int) (hb0 : 0 ≤ x.base) (hb9 : x.base ≤ 9223372036854775807) (hi : i ≤ 9223372036854775807) (hy : atV x i = some y) : Calls Try.prog 13 #[.pointer (some ⟨b, 0, none⟩), .int .i64 i] W fun e w' => e = .returned (.tuple #[.agg #[.int .i64 y.ix, .int .i64 y.tm, .int .i64 y.kd, .string y.dt], .bool true]) ∧ Stan w0 w' B b x := by
  have hA := at_any h.1 i hb0 hb9 hi
  rw [hy] at hA
  refine hA.mono ?_
  rintro e w' ⟨he, hb⟩
  exact ⟨he, h.step hb⟩
end
end Go.Proofs.Yticlkfdcocdmaaa
