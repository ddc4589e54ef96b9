/- The walks of a log's Term and Newer, and of New. -/
import Derived.Test.YticlkfdcocdmaaaLogC
import Derived.Test.YticlkfdcocdmaaaFollow
namespace Go.Proofs.Yticlkfdcocdmaaa
open Go.RowKit
set_option linter.unusedVariables false
/-- The term at an index. -/
def termV (x : LogV) (i : Int) : Int × Bool := if i = x.base then (x.term, true) else (((atV x i).getD noEnt).tm, (atV x i).isSome)
set_option maxHeartbeats 400000 in
theorem term_any {w : World} {B b : Nat} {x : LogV} (h : LogAt w B b x) (i : Int) (hb0 : 0 ≤ x.base) (hb9 : x.base ≤ 9223372036854775807) (hi : i ≤ 9223372036854775807) :
    Calls Try.prog 15 #[.pointer (some ⟨b, 0, none⟩), .int .i64 i] w fun e w' => e = .returned (.tuple #[.int .i64 (termV x i).1, .bool (termV x i).2]) ∧ Below w.heap.size w w' := by
  obtain ⟨ao, cap, c0, c1, c2, ho, hlt, hn⟩ := h.facts
  by_cases hib : i = x.base
  · have e : termV x i = (x.term, true) := by unfold termV; rw [if_pos hib]
    rw [e]
    obtain ⟨base, hbe⟩ : ∃ base, base = x.base := ⟨_, rfl⟩
    rw [← hbe] at c0 hib
    subst hib
    clear e ho h hb0 hb9 hi hn
    go_enter Try.func15, Try.ntmps15
    go_wp2_with fail
    go_ret2
    exact ⟨rfl, Below.refl _ _⟩
  · have e : termV x i = (((atV x i).getD noEnt).tm, (atV x i).isSome) := by unfold termV; rw [if_neg hib]
    rw [e]
    have HA := at_any h i hb0 hb9 hi
    obtain ⟨r, hr⟩ : ∃ r, r = (atV x i).getD noEnt := ⟨_, rfl⟩
    obtain ⟨s, hs⟩ : ∃ s, s = (atV x i).isSome := ⟨_, rfl⟩
    have HA' : Hid (Calls Try.prog 13 #[.pointer (some ⟨b, 0, none⟩), .int .i64 i] w fun e w' => e = .returned (.tuple #[.agg #[.int .i64 r.ix, .int .i64 r.tm, .int .i64 r.kd, .string r.dt], .bool s]) ∧ Below w.heap.size w w') := Lib.hid (by
      rw [hr, hs]; exact HA)
    rw [← hr, ← hs]
    obtain ⟨base, hbe⟩ : ∃ base, base = x.base := ⟨_, rfl⟩
    rw [← hbe] at c0 hib
    have hd : (i == base) = false := by simpa using hib
    clear e ho h hb0 hb9 hi hn HA hr hs hib
    go_enter Try.func15, Try.ntmps15
    go_wp2_with (go_at_call 13; refine (HA'.out).mono ?_; rintro e w1 ⟨rfl, hb1⟩)
    go_ret2
    exact ⟨rfl, (hb1.alloc hb1.size _)⟩
/-- Is a log that ends at (i, t) at least as new? -/
def newerV (x : LogV) (i t : Int) : Bool := decide ((lastV x).2 < t) || (t == (lastV x).2 && decide ((lastV x).1 ≤ i))
set_option maxHeartbeats 400000 in
theorem newer_any {w : World} {B b : Nat} {x : LogV} (h : LogAt w B b x) (i t : Int) :
    Calls Try.prog 16 #[.pointer (some ⟨b, 0, none⟩), .int .i64 i, .int .i64 t] w fun e w' => e = .returned (.bool (newerV x i t)) ∧ Below w.heap.size w w' := by
  have HL := Lib.hid (last_any h)
  unfold newerV
  obtain ⟨u, hu⟩ : ∃ u, u = (lastV x).1 := ⟨_, rfl⟩
  obtain ⟨v, hv⟩ : ∃ v, v = (lastV x).2 := ⟨_, rfl⟩
  rw [← hu, ← hv] at HL ⊢
  clear h hu hv
  by_cases h1 : v < t
  · have hd1 : decide (v < t) = true := by simpa using h1
    go_enter Try.func16, Try.ntmps16
    go_wp2_with (go_at_call 14; refine (HL.out).mono ?_; rintro e w1 ⟨rfl, hb1⟩)
    go_ret
    exact ⟨by simp [hd1], hb1⟩
  · have hd1 : decide (v < t) = false := by simpa using h1
    by_cases h2 : t = v
    · subst h2
      go_enter Try.func16, Try.ntmps16
      go_wp2_with (go_at_call 14; refine (HL.out).mono ?_; rintro e w1 ⟨rfl, hb1⟩)
      go_ret
      exact ⟨by simp, hb1⟩
    · have hd2 : (t == v) = false := by simpa using h2
      go_enter Try.func16, Try.ntmps16
      go_wp2_with (go_at_call 14; refine (HL.out).mono ?_; rintro e w1 ⟨rfl, hb1⟩)
      go_ret
      exact ⟨by simp [hd1, hd2], hb1⟩
theorem new_blk (w : World) (o : Obj) : (w.alloc o).heap[w.heap.size]? = some o := by
  show (w.heap.push o)[w.heap.size]? = _
  simp
theorem own_mono {w : World} {base base' : Nat} {e : TypeId} {size : Nat} {v : Value} {n : Nat} {xs : List Value} (h : w.ownsRow base e size v n xs) (hb : base' ≤ base) : w.ownsRow base' e size v n xs :=
  ⟨h.1, h.2.imp id (by rintro ⟨g, cap, cur, h1, h2, h3⟩; exact ⟨g, cap, cur, h1, Nat.le_trans hb h2, h3⟩)⟩
/-- A new log. -/
def NewRes (base term : Int) (l : List Ent) (w : World) (e : Ending) (w' : World) : Prop :=
  ∃ b, e = .returned (.tuple #[.pointer (some ⟨b, 0, none⟩), .int .i64 0]) ∧ LogAt w' w.heap.size b ⟨base, term, l⟩ ∧ Below w.heap.size w w'
set_option maxHeartbeats 400000 in
theorem new_good (base term : Int) (ao : Option Addr) (n c : Nat) (l : List Ent) (w : World) (hl : Ents w w.heap.size ao n l) (hn : n * 40 ≤ 140737488355328) (hnil : ao = none → n = 0) (hs : ∀ e ∈ l, e.dt.size ≤ 281474976710656)
    (hb : 0 ≤ base) (ht : 0 ≤ term) (hf : folB base term l = true) :
    Calls Try.prog 11 #[.int .i64 base, .int .i64 term, .slice ao n c] w (NewRes base term l w) := by
  have HF := Lib.hid (follow_any base term ao n c l w hl (by omega))
  rw [hf] at HF
  have HO : ∀ w1, Below w.heap.size w w1 → Hid (Calls Try.prog 30 #[.slice ao n c] w1 (OwnsEnts w1.heap.size n l w1)) := fun w1 h1 => Lib.hid (own_any ao n c l w1 ((hl.below h1).mono h1.size) hn hnil hs)
  have HO' := Lib.hid HO
  have hln := hl.1
  have HLn := Lib.hid hln
  clear hl hs hf HO hln hnil
  have hd1 : decide (base < 0) = false := by simpa using hb
  have hd2 : decide (term < 0) = false := by simpa using ht
  go_enter Try.func11, Try.ntmps11
  go_wp2_with (first | (go_at_call 29; refine (HF.out).mono ?_; rintro e w1 ⟨rfl, hb1⟩; have HB1 := Lib.hid hb1; clear hb1) | (go_at_call 30; refine ((HO'.out _ HB1.out).out).mono ?_; rintro e w2 ⟨ao2, cap2, rfl, ho2, hb2⟩; have HO2 := Lib.hid ho2; have HB2 := Lib.hid hb2; clear ho2 hb2))
  go_ret2
  have hsz : w.heap.size ≤ w2.heap.size := Nat.le_trans HB1.out.size HB2.out.size
  refine ⟨w2.heap.size, rfl, ⟨hsz, ao2, cap2, ?_, ?_⟩, ?_⟩
  · rw [HLn.out]; exact new_blk _ _
  · rw [HLn.out]; exact (own_mono HO2.out HB1.out.size).alloc _
  · exact (HB1.out.trans (HB2.out.mono HB1.out.size)).alloc hsz _
end Go.Proofs.Yticlkfdcocdmaaa
