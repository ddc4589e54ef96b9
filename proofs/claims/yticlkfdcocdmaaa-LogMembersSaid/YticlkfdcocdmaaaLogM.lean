/- The walk of a log's Merge. -/
import Derived.Test.YticlkfdcocdmaaaLogMP
import Derived.Deep.RegionLawGrows
import Derived.Deep.RegionHeld3
namespace Go.Proofs.Yticlkfdcocdmaaa
open Go.RowKit
set_option linter.unusedVariables false
def MergeRes (B b : Nat) (r : LogV × Int × Bool) (w : World) (e : Ending) (w' : World) : Prop :=
  e = .returned (.tuple #[.int .i64 r.2.1, .bool r.2.2]) ∧ LogAt w' B b r.1 ∧ Below B w w'
/-- What a walk of Merge leans on. -/
structure MergeHyp (w : World) (B b : Nat) (x : LogV) (ao : Option Addr) (n : Nat) (l : List Ent) : Prop where
  log : LogAt w B b x
  hB : B ≤ w.heap.size
  ents : Ents w w.heap.size ao n l
  nil_ : ao = none → n = 0
  b0 : 0 ≤ x.base
  b9 : x.base + x.l.length < 4611686018427387904
  ix9 : ∀ e ∈ l, e.ix ≤ 9223372036854775807
  sz : (x.l.length + n) * 40 ≤ 140737488355328
  dt : ∀ e ∈ l, e.dt.size ≤ 281474976710656
theorem MergeHyp.term {w : World} {B b : Nat} {x : LogV} {ao : Option Addr} {n : Nat} {l : List Ent} (h : MergeHyp w B b x ao n l) (w1 : World) (hb : Below w.heap.size w w1) (i : Int) (hi : i ≤ 9223372036854775807) :
    Calls Try.prog 15 #[.pointer (some ⟨b, 0, none⟩), .int .i64 i] w1 fun e w' => e = .returned (.tuple #[.int .i64 (termV x i).1, .bool (termV x i).2]) ∧ Below w1.heap.size w1 w' :=
  term_any (h.log.below hb (Nat.le_refl _)) i h.b0 (by have := h.b9; omega) hi
theorem MergeHyp.follow {w : World} {B b : Nat} {x : LogV} {ao : Option Addr} {n : Nat} {l : List Ent} (h : MergeHyp w B b x ao n l) (w1 : World) (hb : Below w.heap.size w w1) (i t : Int) (c : Nat) :
    Calls Try.prog 29 #[.int .i64 i, .int .i64 t, .slice ao n c] w1 fun e w' => e = .returned (.bool (folB i t l)) ∧ Below w1.heap.size w1 w' :=
  follow_any i t ao n c l w1 ((h.ents.below hb).mono hb.size) (by have := h.sz; omega)
/-- Nothing is taken: the log stays. -/
theorem MergeHyp.stay {w w' : World} {B b : Nat} {x : LogV} {ao : Option Addr} {n : Nat} {l : List Ent} (h : MergeHyp w B b x ao n l) (hb : Below w.heap.size w w') : LogAt w' B b x ∧ Below B w w' :=
  ⟨h.log.below hb (Nat.le_refl _), hb.mono h.hB⟩
set_option maxHeartbeats 1000000 in
theorem merge_bad {w : World} {B b : Nat} {x : LogV} {ao : Option Addr} {n : Nat} {l : List Ent} (h : MergeHyp w B b x ao n l) (c : Nat) (prev term keep : Int) (hp : prev ≤ 9223372036854775807)
    (hbad : ¬ ((termV x prev).2 = true ∧ (termV x prev).1 = term ∧ folB prev term l = true)) :
    Calls Try.prog 12 #[.pointer (some ⟨b, 0, none⟩), .int .i64 prev, .int .i64 term, .int .i64 keep, .slice ao n c] w (MergeRes B b (mergeV x prev term keep l) w) := by
  have e : mergeV x prev term keep l = (x, 0, false) := by unfold mergeV; rw [if_neg hbad]
  rw [e]
  have HT := Lib.hid (h.term w (Below.refl _ _) prev hp)
  have HF := Lib.hid (fun w1 hb => h.follow w1 hb prev term c)
  obtain ⟨s, hs⟩ : ∃ s, s = (termV x prev).2 := ⟨_, rfl⟩
  obtain ⟨t, ht⟩ : ∃ t, t = (termV x prev).1 := ⟨_, rfl⟩
  obtain ⟨f, hf⟩ : ∃ f, f = folB prev term l := ⟨_, rfl⟩
  rw [← hs, ← ht, ← hf] at hbad
  rw [← hs, ← ht] at HT
  rw [← hf] at HF
  have HH := Lib.hid h
  clear h hs ht hf e
  cases s with
  | false =>
    clear hbad
    go_enter Try.func12, Try.ntmps12
    go_wp2_with (first | (go_at_call 15; refine (HT.out).mono ?_; rintro e w1 ⟨rfl, hb1⟩))
    go_ret2
    exact ⟨rfl, HH.out.stay hb1⟩
  | true =>
    by_cases h1 : t = term
    · cases f with
      | true => exact absurd ⟨rfl, h1, rfl⟩ hbad
      | false =>
        subst h1
        clear hbad
        go_enter Try.func12, Try.ntmps12
        go_wp2_with (first | (go_at_call 15; refine (HT.out).mono ?_; rintro e w1 ⟨rfl, hb1⟩) | (go_at_call 29; refine (HF.out _ hb1).mono ?_; rintro e w2 ⟨rfl, hb2⟩))
        go_ret2
        exact ⟨rfl, HH.out.stay (hb1.trans (hb2.mono hb1.size))⟩
    · have hd : (t != term) = true := by simpa using h1
      clear hbad
      go_enter Try.func12, Try.ntmps12
      go_wp2_with (first | (go_at_call 15; refine (HT.out).mono ?_; rintro e w1 ⟨rfl, hb1⟩))
      go_ret2
      exact ⟨rfl, HH.out.stay hb1⟩
end Go.Proofs.Yticlkfdcocdmaaa
