/- The walks of a log's Last, At, Term and Newer. -/
import Derived.Test.YticlkfdcocdmaaaLogB
namespace Go.Proofs.Yticlkfdcocdmaaa
open Go.RowKit
set_option linter.unusedVariables false
def lastV (x : LogV) : Int × Int := match x.l.getLast? with | none => (x.base, x.term) | some e => (e.ix, e.tm)
theorem last_empty {w : World} {B b : Nat} {x : LogV} (h : LogAt w B b x) (h0 : x.l.length = 0) :
    Calls Try.prog 14 #[.pointer (some ⟨b, 0, none⟩)] w fun e w' => e = .returned (.tuple #[.int .i64 x.base, .int .i64 x.term]) ∧ Below w.heap.size w w' := by
  have HL := Lib.hid (len_any h)
  rw [h0] at HL
  have HB := Lib.hid (base_any h)
  clear h h0
  go_enter Try.func14, Try.ntmps14
  go_wp2_with (first | (go_at_call 20; refine (HL.out).mono ?_; rintro e w' ⟨rfl, rfl⟩) | (go_at_call 22; refine (HB.out).mono ?_; rintro e w' ⟨rfl, n, rfl⟩))
  go_ret2
  exact ⟨rfl, below_drewN (Below.refl _ _) _⟩
theorem last_some {w : World} {B b : Nat} {x : LogV} (h : LogAt w B b x) (m : Nat) (hm : x.l.length = m + 1) (e : Ent) (he : x.l[m]? = some e) :
    Calls Try.prog 14 #[.pointer (some ⟨b, 0, none⟩)] w fun r w' => r = .returned (.tuple #[.int .i64 e.ix, .int .i64 e.tm]) ∧ Below w.heap.size w w' := by
  have HL := Lib.hid (len_any h)
  rw [hm] at HL
  obtain ⟨ao, cap, c0, c1, c2, ho, hlt, hn⟩ := h.facts
  have hE := ents_own ho
  rw [hm] at c2 ho hE
  obtain ⟨g, o, e', rfl, hg, he', k0, k1, k2, k3⟩ := hE.get (k := m) (by omega)
  rw [he] at he'
  injection he' with he'
  subst he'
  have hne : (((m + 1 : Nat) : Int) == 0) = false := by rw [beq_eq_false_iff_ne]; omega
  have hm9 : m + 1 ≤ 9223372036854775807 := by omega
  have hw1 : IntKind.i64.wrap (((m + 1 : Nat) : Int) - 1) = (m : Int) := by rw [IntWalk.i64_in _ (by omega)]; omega
  have hw2 : IntKind.i64.wrap ((m : Int) + 1 - 1) = (m : Int) := by rw [IntWalk.i64_in _ (by omega)]; omega
  have hi1 : (0 : Int) ≤ (m : Int) := by omega
  have hi2 : (m : Int) < ((m + 1 : Nat) : Int) := by omega
  clear h hm he ho hE hn
  go_enter Try.func14, Try.ntmps14
  go_wp2_with (go_at_call 20; refine (HL.out).mono ?_; rintro e w' ⟨rfl, rfl⟩)
  go_region
  go_wp2_with fail
  go_quiet (fail)
  go_wp2_with fail
  go_ret2
  exact ⟨rfl, below_drewN ((Below.refl _ _).alloc (Nat.le_refl _) _).drew _⟩
theorem last_any {w : World} {B b : Nat} {x : LogV} (h : LogAt w B b x) :
    Calls Try.prog 14 #[.pointer (some ⟨b, 0, none⟩)] w fun r w' => r = .returned (.tuple #[.int .i64 (lastV x).1, .int .i64 (lastV x).2]) ∧ Below w.heap.size w w' := by
  rcases Nat.eq_zero_or_pos x.l.length with h0 | h0
  · have hl : x.l = [] := List.eq_nil_of_length_eq_zero h0
    have e : lastV x = (x.base, x.term) := by unfold lastV; rw [hl]; rfl
    rw [e]
    exact last_empty h h0
  · obtain ⟨m, hm⟩ : ∃ m, x.l.length = m + 1 := ⟨x.l.length - 1, by omega⟩
    obtain ⟨y, he⟩ : ∃ y, x.l[m]? = some y := ⟨x.l[m]'(by omega), List.getElem?_eq_getElem _⟩
    have e : lastV x = (y.ix, y.tm) := by
      unfold lastV
      rw [List.getLast?_eq_getElem?, hm, Nat.add_sub_cancel, he]
    rw [e]
    exact last_some h m hm _ he
/-- The entry at an index. -/
def atV (x : LogV) (i : Int) : Option Ent := if i ≤ x.base ∨ x.l.length < i - x.base then none else x.l[(i - x.base - 1).toNat]?
def noEnt : Ent := ⟨0, 0, 0, ⟨#[]⟩⟩
/-- What At answers. -/
def AtRes (r : Option Ent) (w : World) (e : Ending) (w' : World) : Prop := e = .returned (.tuple #[(r.getD noEnt).agg, .bool r.isSome]) ∧ Below w.heap.size w w'
set_option maxHeartbeats 400000 in
theorem at_no {w : World} {B b : Nat} {x : LogV} (h : LogAt w B b x) (i : Int) (hb0 : 0 ≤ x.base) (hi : i ≤ 9223372036854775807) (hb9 : x.base ≤ 9223372036854775807) (hno : i ≤ x.base ∨ x.l.length < i - x.base) :
    Calls Try.prog 13 #[.pointer (some ⟨b, 0, none⟩), .int .i64 i] w (AtRes none w) := by
  obtain ⟨ao, cap, c0, c1, c2, ho, hlt, hn⟩ := h.facts
  obtain ⟨n, hne⟩ : ∃ n, n = x.l.length := ⟨_, rfl⟩
  rw [← hne] at c2 hn hno
  obtain ⟨base, hbe⟩ : ∃ base, base = x.base := ⟨_, rfl⟩
  rw [← hbe] at c0 hb0 hb9 hno
  clear ho h hne hbe
  have f0 : ∀ o1, (w.alloc o1).cell? ⟨b, 0, none⟩ = some (.int .i64 base) := fun o1 => (World.cell?_alloc_lt w o1 _ hlt).trans c0
  have f2 : ∀ o1, (w.alloc o1).cell? ⟨b, 2, none⟩ = some (.slice ao n cap) := fun o1 => (World.cell?_alloc_lt w o1 _ hlt).trans c2
  by_cases h1 : i ≤ base
  · have hd1 : decide (i ≤ base) = true := by simpa using h1
    go_enter Try.func13, Try.ntmps13
    go_wp2_with fail
    go_quiet (fail)
    go_wp2_with fail
    refine bodyPost_ret (v := .tuple #[noEnt.agg, .bool false]) (by simp [results, Try.results13, go_sem]; rfl) rfl ⟨rfl, ?_⟩
    exact ((((below_drewN ((Below.refl _ _).alloc (Nat.le_refl _) _) _).setCell (Nat.le_refl _) _).setCell (Nat.le_refl _) _).setCell (Nat.le_refl _) _).setCell (Nat.le_refl _) _
  · have hd1 : decide (i ≤ base) = false := by simpa using h1
    have h2 : (n : Int) < i - base := by omega
    have hw : IntKind.i64.wrap (i - base) = i - base := IntWalk.i64_in _ (by omega)
    have hd2 : decide ((n : Int) < i - base) = true := by simpa using h2
    go_enter Try.func13, Try.ntmps13
    go_wp2_with fail
    go_quiet (fail)
    go_wp2_with fail
    refine bodyPost_ret (v := .tuple #[noEnt.agg, .bool false]) (by simp [results, Try.results13, go_sem]; rfl) rfl ⟨rfl, ?_⟩
    exact ((((below_drewN ((Below.refl _ _).alloc (Nat.le_refl _) _) _).setCell (Nat.le_refl _) _).setCell (Nat.le_refl _) _).setCell (Nat.le_refl _) _).setCell (Nat.le_refl _) _
set_option maxHeartbeats 400000 in
theorem at_yes {w : World} {B b : Nat} {x : LogV} (h : LogAt w B b x) (k : Nat) (e : Ent) (hk : x.l[k]? = some e) (i : Int) (hik : i = x.base + k + 1) (hb0 : 0 ≤ x.base) (hi : i ≤ 9223372036854775807) :
    Calls Try.prog 13 #[.pointer (some ⟨b, 0, none⟩), .int .i64 i] w (AtRes (some e) w) := by
  obtain ⟨ao, cap, c0, c1, c2, ho, hlt, hn⟩ := h.facts
  have hkl : k < x.l.length := (List.getElem?_eq_some_iff.1 hk).1
  obtain ⟨g, o, e', rfl, hg, he', k0, k1, k2, k3⟩ := (ents_own ho).get hkl
  rw [hk] at he'
  injection he' with he'
  subst he'
  obtain ⟨n, hne⟩ : ∃ n, n = x.l.length := ⟨_, rfl⟩
  rw [← hne] at c2 hn hkl
  obtain ⟨base, hbe⟩ : ∃ base, base = x.base := ⟨_, rfl⟩
  rw [← hbe] at c0 hb0 hik
  clear ho h hne hbe hk
  have f0 : ∀ o1, (w.alloc o1).cell? ⟨b, 0, none⟩ = some (.int .i64 base) := fun o1 => (World.cell?_alloc_lt w o1 _ hlt).trans c0
  have f2 : ∀ o1, (w.alloc o1).cell? ⟨b, 2, none⟩ = some (.slice (some ⟨g, o, none⟩) n cap) := fun o1 => (World.cell?_alloc_lt w o1 _ hlt).trans c2
  have j0 : ∀ o1, (w.alloc o1).cell? ⟨g, o + k * 4, none⟩ = some (.int .i64 e.ix) := fun o1 => (World.cell?_alloc_lt w o1 _ hg).trans k0
  have j1 : ∀ o1, (w.alloc o1).cell? ⟨g, o + k * 4 + 1, none⟩ = some (.int .i64 e.tm) := fun o1 => (World.cell?_alloc_lt w o1 _ hg).trans k1
  have j2 : ∀ o1, (w.alloc o1).cell? ⟨g, o + k * 4 + 2, none⟩ = some (.int .i64 e.kd) := fun o1 => (World.cell?_alloc_lt w o1 _ hg).trans k2
  have j3 : ∀ o1, (w.alloc o1).cell? ⟨g, o + k * 4 + 3, none⟩ = some (.string e.dt) := fun o1 => (World.cell?_alloc_lt w o1 _ hg).trans k3
  have hd1 : decide (i ≤ base) = false := by simp; omega
  have hw : IntKind.i64.wrap (i - base) = (k : Int) + 1 := by rw [IntWalk.i64_in _ (by omega)]; omega
  have hw2 : IntKind.i64.wrap ((k : Int) + 1 - 1) = (k : Int) := by rw [IntWalk.i64_in _ (by omega)]; omega
  have hd2 : decide ((n : Int) < (k : Int) + 1) = false := by simp; omega
  have hx1 : (0 : Int) ≤ k := by omega
  have hx2 : (k : Int) < n := by omega
  have hww : i - base = (k : Int) + 1 := by omega
  clear k0 k1 k2 k3 hik
  go_enter Try.func13, Try.ntmps13
  go_wp2_with fail
  go_quiet (fail)
  go_wp2_with fail
  go_region
  go_wp2_with fail
  refine bodyPost_ret (v := .tuple #[e.agg, .bool true]) (by simp [results, Try.results13, go_sem]; rfl) rfl ⟨rfl, ?_⟩
  exact ((((below_drewN ((Below.refl _ _).alloc (Nat.le_refl _) _) _).setCell (Nat.le_refl _) _).setCell (Nat.le_refl _) _).setCell (Nat.le_refl _) _).setCell (Nat.le_refl _) _
theorem at_any {w : World} {B b : Nat} {x : LogV} (h : LogAt w B b x) (i : Int) (hb0 : 0 ≤ x.base) (hb9 : x.base ≤ 9223372036854775807) (hi : i ≤ 9223372036854775807) :
    Calls Try.prog 13 #[.pointer (some ⟨b, 0, none⟩), .int .i64 i] w (AtRes (atV x i) w) := by
  by_cases hno : i ≤ x.base ∨ x.l.length < i - x.base
  · have e : atV x i = none := by unfold atV; rw [if_pos hno]
    rw [e]; exact at_no h i hb0 hi hb9 hno
  · have hk : (i - x.base - 1).toNat < x.l.length := by omega
    have e : atV x i = some (x.l[(i - x.base - 1).toNat]) := by unfold atV; rw [if_neg hno, List.getElem?_eq_getElem hk]
    rw [e]; exact at_yes h _ _ (List.getElem?_eq_getElem hk) i (by omega) hb0 hi
end Go.Proofs.Yticlkfdcocdmaaa
