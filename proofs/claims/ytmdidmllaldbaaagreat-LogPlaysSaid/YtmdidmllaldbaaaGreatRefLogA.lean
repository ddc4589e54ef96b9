/- The document's log in memory, and the walks of its readers: Last, At, Term, Newer; follows. -/
import Derived.Test.YtmdidmllaldbaaaGreatLogB
import Derived.Test.YtmdidmllaldbaaaGreatRefS
import Derived.Deep.RegionLaw
import Derived.Deep.DeepCutAuto
namespace Go.Proofs.YtmdidmllaldbaaaGreat
/-! ### The document's log in memory, and the walks of its readers: Last, At, Term, Newer; follows. -/
section
open Go.RowKit
set_option linter.unusedVariables false
/-- The document's log lies at block b, and all that it has lies at B or above. -/
def RLogAt (w : World) (B b : Nat) (x : LogV) : Prop :=
  B ≤ b ∧ ∃ ao cap, w.heap[b]? = some (.cells #[.int .i64 x.base, .int .i64 x.term, .slice ao x.l.length cap] 96 (0, 0)) ∧ w.ownsRow B 51 4 (.slice ao x.l.length cap) x.l.length (entCells x.l)
theorem RLogAt.facts {w : World} {B b : Nat} {x : LogV} (h : RLogAt w B b x) : ∃ ao cap, w.cell? ⟨b, 0, none⟩ = some (.int .i64 x.base) ∧ w.cell? ⟨b, 1, none⟩ = some (.int .i64 x.term) ∧ w.cell? ⟨b, 2, none⟩ = some (.slice ao x.l.length cap) ∧
    w.ownsRow B 51 4 (.slice ao x.l.length cap) x.l.length (entCells x.l) ∧ b < w.heap.size ∧ x.l.length ≤ 9223372036854775807 := by
  obtain ⟨hb, ao, cap, hh, ho⟩ := h
  refine ⟨ao, cap, by rw [blk_cell hh]; rfl, by rw [blk_cell hh]; rfl, by rw [blk_cell hh]; rfl, ho, blk_lt hh, ?_⟩
  rcases ho.2 with ⟨_, h0⟩ | ⟨g, cap', cur, hv, _, _, hc, hm, _⟩
  · omega
  · unfold maxLen at hm; omega
theorem RLogAt.parts {w : World} {B b : Nat} {x : LogV} (h : RLogAt w B b x) : ∃ ao cap, B ≤ b ∧ w.heap[b]? = some (.cells #[.int .i64 x.base, .int .i64 x.term, .slice ao x.l.length cap] 96 (0, 0)) ∧ w.ownsRow B 51 4 (.slice ao x.l.length cap) x.l.length (entCells x.l) :=
  ⟨h.2.choose, h.2.choose_spec.choose, h.1, h.2.choose_spec.choose_spec.1, h.2.choose_spec.choose_spec.2⟩
theorem RLogAt.lt {w : World} {B b : Nat} {x : LogV} (h : RLogAt w B b x) : b < w.heap.size := by
  obtain ⟨_, _, _, h, _⟩ := h.parts
  exact blk_lt h
theorem RLogAt.below {w w' : World} {B b B' : Nat} {x : LogV} (h : RLogAt w B b x) (hb : Below B' w w') (hB : w.heap.size ≤ B') : RLogAt w' B b x := by
  obtain ⟨h1, ao, cap, hh, ho⟩ := h
  have hlt := blk_lt hh
  exact ⟨h1, ao, cap, (hb.block b (by omega)).trans hh, ho.kept (row := none) ⟨hb.os, hb.tape, hb.output, hb.size, fun k hk _ => hb.block k (by omega)⟩ (by cases (Value.slice ao x.l.length cap).ownBlock <;> simp)⟩
set_option maxHeartbeats 1000000 in
theorem rlast_any {w : World} {B b : Nat} {x : LogV} (h : RLogAt w B b x) :
    Calls Tryz.prog 66 #[.pointer (some ⟨b, 0, none⟩)] w fun r w' => r = .returned (.tuple #[.int .i64 (lastV x).1, .int .i64 (lastV x).2]) ∧ Below w.heap.size w w' := by
  rcases Nat.eq_zero_or_pos x.l.length with h0 | h0
  · have hl : x.l = [] := List.eq_nil_of_length_eq_zero h0
    have e : lastV x = (x.base, x.term) := by unfold lastV; rw [hl]; rfl
    rw [e]
    obtain ⟨ao, cap, c0, c1, c2, ho, hlt, hn⟩ := h.facts
    rw [h0] at c2
    clear ho h h0 hl e hn
    go_enter Tryz.func66, Tryz.ntmps66
    go_wp2_with fail
    go_quiet (fail)
    go_wp2_with fail
    go_ret2
    exact ⟨rfl, below_drewN (Below.refl _ _) _⟩
  · obtain ⟨m, hm⟩ : ∃ m, x.l.length = m + 1 := ⟨x.l.length - 1, by omega⟩
    obtain ⟨e, he⟩ : ∃ y, x.l[m]? = some y := ⟨x.l[m]'(by omega), List.getElem?_eq_getElem _⟩
    have e0 : lastV x = (e.ix, e.tm) := by
      unfold lastV
      rw [List.getLast?_eq_getElem?, hm, Nat.add_sub_cancel, he]
    rw [e0]
    obtain ⟨ao, cap, c0, c1, c2, ho, hlt, hn⟩ := h.facts
    have hE := ents_own ho
    rw [hm] at c2 ho hE
    obtain ⟨g, o, e', rfl, hg, he', k0, k1, k2, k3⟩ := hE.get (k := m) (by omega)
    rw [he] at he'
    injection he' with he'
    subst he'
    have hne : (((m + 1 : Nat) : Int) == 0) = false := by rw [beq_eq_false_iff_ne]; omega
    have hm9 : m + 1 ≤ 9223372036854775807 := by omega
    have hw1 : IntKind.i64.wrap (((m + 1 : Nat) : Int) - 1) = (m : Int) := by rw [IntWalk.i64_in _ (by omega)]; omega
    have hw2 : IntKind.i64.wrap ((m : Int) + 1 - 1) = (m : Int) := by rw [IntWalk.i64_in _ (by omega)]; omega
    have hi1 : (0 : Int) ≤ (m : Int) := by omega
    have hi2 : (m : Int) < ((m + 1 : Nat) : Int) := by omega
    clear h hm he ho hE hn e0 h0
    go_enter Tryz.func66, Tryz.ntmps66
    go_wp2_with fail
    go_region
    go_wp2_with fail
    go_quiet (fail)
    go_wp2_with fail
    go_ret2
    exact ⟨rfl, below_drewN ((Below.refl _ _).alloc (Nat.le_refl _) _).drew _⟩
set_option maxHeartbeats 1000000 in
theorem rat_no {w : World} {B b : Nat} {x : LogV} (h : RLogAt w B b x) (i : Int) (hb0 : 0 ≤ x.base) (hb9 : x.base + x.l.length ≤ 9223372036854775807) (hno : i ≤ x.base ∨ x.l.length < i - x.base) :
    Calls Tryz.prog 70 #[.pointer (some ⟨b, 0, none⟩), .int .i64 i] w (AtRes none w) := by
  obtain ⟨ao, cap, c0, c1, c2, ho, hlt, hn⟩ := h.facts
  obtain ⟨n, hne⟩ : ∃ n, n = x.l.length := ⟨_, rfl⟩
  rw [← hne] at c2 hn hno hb9
  obtain ⟨base, hbe⟩ : ∃ base, base = x.base := ⟨_, rfl⟩
  rw [← hbe] at c0 hb0 hb9 hno
  clear ho h hne hbe
  have f0 : ∀ o1, (w.alloc o1).cell? ⟨b, 0, none⟩ = some (.int .i64 base) := fun o1 => (World.cell?_alloc_lt w o1 _ hlt).trans c0
  have f2 : ∀ o1, (w.alloc o1).cell? ⟨b, 2, none⟩ = some (.slice ao n cap) := fun o1 => (World.cell?_alloc_lt w o1 _ hlt).trans c2
  by_cases h1 : i ≤ base
  · have hd1 : decide (i ≤ base) = true := by simpa using h1
    go_enter Tryz.func70, Tryz.ntmps70
    go_wp2_with fail
    go_quiet (fail)
    go_wp2_with fail
    refine bodyPost_ret (v := .tuple #[noEnt.agg, .bool false]) (by simp [results, Tryz.results70, go_sem]; rfl) rfl ⟨rfl, ?_⟩
    exact ((((below_drewN ((Below.refl _ _).alloc (Nat.le_refl _) _) _).setCell (Nat.le_refl _) _).setCell (Nat.le_refl _) _).setCell (Nat.le_refl _) _).setCell (Nat.le_refl _) _
  · have hd1 : decide (i ≤ base) = false := by simpa using h1
    have h2 : (n : Int) < i - base := by omega
    have hw : IntKind.i64.wrap (base + (n : Int)) = base + (n : Int) := IntWalk.i64_in _ (by omega)
    have hd2 : decide (base + (n : Int) < i) = true := by simp; omega
    go_enter Tryz.func70, Tryz.ntmps70
    go_wp2_with fail
    go_quiet (fail)
    go_wp2_with fail
    refine bodyPost_ret (v := .tuple #[noEnt.agg, .bool false]) (by simp [results, Tryz.results70, go_sem]; rfl) rfl ⟨rfl, ?_⟩
    exact ((((below_drewN ((Below.refl _ _).alloc (Nat.le_refl _) _) _).setCell (Nat.le_refl _) _).setCell (Nat.le_refl _) _).setCell (Nat.le_refl _) _).setCell (Nat.le_refl _) _
set_option maxHeartbeats 1000000 in
theorem rat_yes {w : World} {B b : Nat} {x : LogV} (h : RLogAt w B b x) (k : Nat) (e : Ent) (hk : x.l[k]? = some e) (i : Int) (hik : i = x.base + k + 1) (hb0 : 0 ≤ x.base) (hb9 : x.base + x.l.length ≤ 9223372036854775807) :
    Calls Tryz.prog 70 #[.pointer (some ⟨b, 0, none⟩), .int .i64 i] w (AtRes (some e) w) := by
  obtain ⟨ao, cap, c0, c1, c2, ho, hlt, hn⟩ := h.facts
  have hkl : k < x.l.length := (List.getElem?_eq_some_iff.1 hk).1
  obtain ⟨g, o, e', rfl, hg, he', k0, k1, k2, k3⟩ := (ents_own ho).get hkl
  rw [hk] at he'
  injection he' with he'
  subst he'
  obtain ⟨n, hne⟩ : ∃ n, n = x.l.length := ⟨_, rfl⟩
  rw [← hne] at c2 hn hkl hb9
  obtain ⟨base, hbe⟩ : ∃ base, base = x.base := ⟨_, rfl⟩
  rw [← hbe] at c0 hb0 hik hb9
  clear ho h hne hbe hk
  have f0 : ∀ o1, (w.alloc o1).cell? ⟨b, 0, none⟩ = some (.int .i64 base) := fun o1 => (World.cell?_alloc_lt w o1 _ hlt).trans c0
  have f2 : ∀ o1, (w.alloc o1).cell? ⟨b, 2, none⟩ = some (.slice (some ⟨g, o, none⟩) n cap) := fun o1 => (World.cell?_alloc_lt w o1 _ hlt).trans c2
  have j0 : ∀ o1, (w.alloc o1).cell? ⟨g, o + k * 4, none⟩ = some (.int .i64 e.ix) := fun o1 => (World.cell?_alloc_lt w o1 _ hg).trans k0
  have j1 : ∀ o1, (w.alloc o1).cell? ⟨g, o + k * 4 + 1, none⟩ = some (.int .i64 e.tm) := fun o1 => (World.cell?_alloc_lt w o1 _ hg).trans k1
  have j2 : ∀ o1, (w.alloc o1).cell? ⟨g, o + k * 4 + 2, none⟩ = some (.int .i64 e.kd) := fun o1 => (World.cell?_alloc_lt w o1 _ hg).trans k2
  have j3 : ∀ o1, (w.alloc o1).cell? ⟨g, o + k * 4 + 3, none⟩ = some (.string e.dt) := fun o1 => (World.cell?_alloc_lt w o1 _ hg).trans k3
  have hd1 : decide (i ≤ base) = false := by simp; omega
  have hw0 : IntKind.i64.wrap (base + (n : Int)) = base + (n : Int) := IntWalk.i64_in _ (by omega)
  have hd2 : decide (base + (n : Int) < i) = false := by simp; omega
  have hw : IntKind.i64.wrap (i - base) = (k : Int) + 1 := by rw [IntWalk.i64_in _ (by omega)]; omega
  have hw2 : IntKind.i64.wrap ((k : Int) + 1 - 1) = (k : Int) := by rw [IntWalk.i64_in _ (by omega)]; omega
  have hx1 : (0 : Int) ≤ k := by omega
  have hx2 : (k : Int) < n := by omega
  have hww : i - base = (k : Int) + 1 := by omega
  clear k0 k1 k2 k3 hik
  go_enter Tryz.func70, Tryz.ntmps70
  go_wp2_with fail
  go_quiet (fail)
  go_wp2_with fail
  go_region
  go_wp2_with fail
  refine bodyPost_ret (v := .tuple #[e.agg, .bool true]) (by simp [results, Tryz.results70, go_sem]; rfl) rfl ⟨rfl, ?_⟩
  exact ((((below_drewN ((Below.refl _ _).alloc (Nat.le_refl _) _) _).setCell (Nat.le_refl _) _).setCell (Nat.le_refl _) _).setCell (Nat.le_refl _) _).setCell (Nat.le_refl _) _
theorem rat_any {w : World} {B b : Nat} {x : LogV} (h : RLogAt w B b x) (i : Int) (hb0 : 0 ≤ x.base) (hb9 : x.base + x.l.length ≤ 9223372036854775807) :
    Calls Tryz.prog 70 #[.pointer (some ⟨b, 0, none⟩), .int .i64 i] w (AtRes (atV x i) w) := by
  by_cases hno : i ≤ x.base ∨ x.l.length < i - x.base
  · have e : atV x i = none := by unfold atV; rw [if_pos hno]
    rw [e]; exact rat_no h i hb0 hb9 hno
  · have hk : (i - x.base - 1).toNat < x.l.length := by omega
    have e : atV x i = some (x.l[(i - x.base - 1).toNat]) := by unfold atV; rw [if_neg hno, List.getElem?_eq_getElem hk]
    rw [e]; exact rat_yes h _ _ (List.getElem?_eq_getElem hk) i (by omega) hb0 hb9
end
/-! ### The walks of the document's log: Term, Newer; follows, New. -/
section
open Go.RowKit
set_option linter.unusedVariables false
set_option maxHeartbeats 400000 in
theorem rterm_any {w : World} {B b : Nat} {x : LogV} (h : RLogAt w B b x) (i : Int) (hb0 : 0 ≤ x.base) (hb9 : x.base + x.l.length ≤ 9223372036854775807) :
    Calls Tryz.prog 68 #[.pointer (some ⟨b, 0, none⟩), .int .i64 i] w fun e w' => e = .returned (.tuple #[.int .i64 (termV x i).1, .bool (termV x i).2]) ∧ Below w.heap.size w w' := by
  obtain ⟨ao, cap, c0, c1, c2, ho, hlt, hn⟩ := h.facts
  by_cases hib : i = x.base
  · have e : termV x i = (x.term, true) := by unfold termV; rw [if_pos hib]
    rw [e]
    obtain ⟨base, hbe⟩ : ∃ base, base = x.base := ⟨_, rfl⟩
    rw [← hbe] at c0 hib
    subst hib
    clear e ho h hb0 hb9 hn
    go_enter Tryz.func68, Tryz.ntmps68
    go_wp2_with fail
    go_ret2
    exact ⟨rfl, Below.refl _ _⟩
  · have e : termV x i = (((atV x i).getD noEnt).tm, (atV x i).isSome) := by unfold termV; rw [if_neg hib]
    rw [e]
    have HA := rat_any h i hb0 hb9
    obtain ⟨r, hr⟩ : ∃ r, r = (atV x i).getD noEnt := ⟨_, rfl⟩
    obtain ⟨s, hs⟩ : ∃ s, s = (atV x i).isSome := ⟨_, rfl⟩
    have HA' : Hid (Calls Tryz.prog 70 #[.pointer (some ⟨b, 0, none⟩), .int .i64 i] w fun e w' => e = .returned (.tuple #[.agg #[.int .i64 r.ix, .int .i64 r.tm, .int .i64 r.kd, .string r.dt], .bool s]) ∧ Below w.heap.size w w') := Lib.hid (by
      rw [hr, hs]; exact HA)
    rw [← hr, ← hs]
    obtain ⟨base, hbe⟩ : ∃ base, base = x.base := ⟨_, rfl⟩
    rw [← hbe] at c0 hib
    have hd : (i == base) = false := by simpa using hib
    clear e ho h hb0 hb9 hn HA hr hs hib
    go_enter Tryz.func68, Tryz.ntmps68
    go_wp2_with (go_at_call 70; refine (HA'.out).mono ?_; rintro e w1 ⟨rfl, hb1⟩)
    go_ret2
    exact ⟨rfl, (hb1.alloc hb1.size _)⟩
set_option maxHeartbeats 400000 in
theorem rnewer_any {w : World} {B b : Nat} {x : LogV} (h : RLogAt w B b x) (i t : Int) :
    Calls Tryz.prog 77 #[.pointer (some ⟨b, 0, none⟩), .int .i64 i, .int .i64 t] w fun e w' => e = .returned (.bool (newerV x i t)) ∧ Below w.heap.size w w' := by
  have HL := Lib.hid (rlast_any h)
  unfold newerV
  obtain ⟨u, hu⟩ : ∃ u, u = (lastV x).1 := ⟨_, rfl⟩
  obtain ⟨v, hv⟩ : ∃ v, v = (lastV x).2 := ⟨_, rfl⟩
  rw [← hu, ← hv] at HL ⊢
  clear h hu hv
  by_cases h1 : v < t
  · have hd1 : decide (v < t) = true := by simpa using h1
    go_enter Tryz.func77, Tryz.ntmps77
    go_wp2_with (go_at_call 66; refine (HL.out).mono ?_; rintro e w1 ⟨rfl, hb1⟩)
    go_ret
    exact ⟨by simp [hd1], hb1⟩
  · have hd1 : decide (v < t) = false := by simpa using h1
    by_cases h2 : t = v
    · subst h2
      go_enter Tryz.func77, Tryz.ntmps77
      go_wp2_with (go_at_call 66; refine (HL.out).mono ?_; rintro e w1 ⟨rfl, hb1⟩)
      go_ret
      exact ⟨by simp, hb1⟩
    · have hd2 : (t == v) = false := by simpa using h2
      go_enter Tryz.func77, Tryz.ntmps77
      go_wp2_with (go_at_call 66; refine (HL.out).mono ?_; rintro e w1 ⟨rfl, hb1⟩)
      go_ret
      exact ⟨by simp [hd1, hd2], hb1⟩
set_option maxHeartbeats 1000000 in
theorem rfollows_any (i t : Int) (ao : Option Addr) (n c : Nat) (l : List Ent) (w : World) (hl : Ents w w.heap.size ao n l) (hn : n ≤ 4611686018427387904) (hi0 : 0 ≤ i) (hi9 : i + n < 9223372036854775807) :
    Calls Tryz.prog 185 #[.int .i64 i, .int .i64 t, .slice ao n c] w fun e w' => e = .returned (.bool (folB i t l)) ∧ Below w.heap.size w w' := by
  have HL := Lib.hid hl
  clear hl
  go_enter Tryz.func185, Tryz.ntmps185
  go_wp2_with fail
  go_loopw [0, 1, 7] (fun x y z wr => ∃ (k : Nat) (i' t' : Int), k ≤ n ∧ 0 ≤ i' ∧ i' ≤ i + k ∧ x = .int .i64 i' ∧ y = .int .i64 t' ∧ z = .int .i64 k ∧ Hid (folB i' t' (l.drop k) = folB i t l) ∧ Hid (Below w.heap.size w wr)) (fun _ _ z _ => n - (intOf z).toNat)
  case atStart => exact ⟨0, i, t, Nat.zero_le _, hi0, by omega, rfl, rfl, rfl, Lib.hid rfl, Lib.hid (Below.refl _ _)⟩
  case round =>
    obtain ⟨k, i', t', hk, hi1, hi2, rfl, rfl, rfl, hf, HB⟩ := hrel
    by_cases hlt : k < n
    · obtain ⟨b, o, e, rfl, hbB, hek, h1, h2, h3, h4⟩ := (HL.out.below HB.out).get hlt
      have HE := Lib.hid hek
      clear hek h3 h4
      have HD : Hid (l.drop k = e :: l.drop (k + 1)) := Lib.hid (by
        have hk' : k < l.length := (List.getElem?_eq_some_iff.1 HE.out).1
        rw [List.drop_eq_getElem_cons hk']
        congr 1
        exact (List.getElem?_eq_some_iff.1 HE.out).2)
      have hwr : wrap64 (i' + 1) = i' + 1 := by unfold wrap64; omega
      have hwr2 : IntKind.i64.wrap (i' + 1) = i' + 1 := IntWalk.i64_in _ (by omega)
      have hm : (i' == 9223372036854775807) = false := by rw [beq_eq_false_iff_ne]; omega
      have hx1 : (0 : Int) ≤ k := by omega
      have hx2 : (k : Int) < n := by omega
      by_cases c1 : e.ix = i' + 1
      · have c1b : (e.ix != i' + 1) = false := by simp [c1]
        by_cases c2 : e.tm < t'
        · have c2b : decide (e.tm < t') = true := by simpa using c2
          have HF : Hid (folB i t l = false) := Lib.hid (by rw [← hf.out, HD.out, folB, if_pos (.inr c2)])
          clear c1 hwr
          go_wp2_with fail
          go_ret
          exact ⟨by rw [HF.out]; rfl, HB.out⟩
        · have c2b : decide (e.tm < t') = false := by simpa using c2
          have HF : Hid (folB e.ix e.tm (l.drop (k + 1)) = folB i t l) := Lib.hid (by rw [← hf.out, HD.out, folB, if_neg (by rintro (h | h); exact h (by rw [hwr]; exact c1); exact c2 h)])
          have hj1 : 0 ≤ e.ix := by omega
          have hj2 : e.ix ≤ i + (k + 1 : Nat) := by omega
          clear c1 hwr
          go_wp2_with fail
          go_quiet (fail)
          go_wp2_with fail
          go_roundw
          case rel => exact ⟨k + 1, e.ix, e.tm, by omega, hj1, hj2, rfl, rfl, by go_num, HF, Lib.hid (below_drewN HB.out _)⟩
          case measure => simp [intOf]; omega
      · have c1b : (e.ix != i' + 1) = true := by simp [c1]
        have HF : Hid (folB i t l = false) := Lib.hid (by rw [← hf.out, HD.out, folB, if_pos (.inl (by rw [hwr]; exact c1))])
        clear hwr
        go_wp2_with fail
        go_ret
        exact ⟨by rw [HF.out]; rfl, HB.out⟩
    · obtain rfl : k = n := by omega
      have HF : Hid (folB i t l = true) := Lib.hid (by rw [← hf.out, List.drop_of_length_le (by rw [HL.out.1]; omega), folB])
      go_wp2_with fail
      go_ret
      exact ⟨by rw [HF.out]; rfl, HB.out⟩
/-- A new log of the document. -/
def RNewRes (base term : Int) (l : List Ent) (w : World) (e : Ending) (w' : World) : Prop :=
  ∃ b, e = .returned (.tuple #[.pointer (some ⟨b, 0, none⟩), .int .i64 0]) ∧ RLogAt w' w.heap.size b ⟨base, term, l⟩ ∧ Below w.heap.size w w'
/-- A slice of entries from outside, as a source of cells. -/
theorem ents_src {w : World} {ao : Option Addr} {n : Nat} {l : List Ent} {ad : Addr} (h : Ents w w.heap.size ao n l) (ha : ao = some ad) : ∀ W, Below w.heap.size w W → ∀ j u, (entCells l)[j]? = some u → W.cell? (ad.add j) = some u := fun W hb j u hu => by
  subst ha
  exact (h.below hb).cells j u hu
set_option maxHeartbeats 1000000 in
theorem rnew_good (base term : Int) (ao : Option Addr) (n c : Nat) (l : List Ent) (w : World) (hl : Ents w w.heap.size ao n l) (hn : n ≤ 1000000) (hnil : ao = none → n = 0 ∧ c = 0)
    (hb : 0 ≤ base) (ht : 0 ≤ term) (hb9 : base + n < 9223372036854775807) (hf : folB base term l = true) :
    Calls Tryz.prog 56 #[.int .i64 base, .int .i64 term, .slice ao n c] w (RNewRes base term l w) := by
  obtain ⟨i0, hi, hz0, hz1, hz2⟩ := info_parts entinfo
  have HF := Lib.hid (rfollows_any base term ao n c l w hl (by omega) hb hb9)
  rw [hf] at HF
  have HLn := Lib.hid hl.1
  have HLc : Hid ((entCells l).length = n * 4) := Lib.hid (by rw [entCells_len, hl.1])
  have hd1 : decide (base < 0) = false := by simpa using hb
  have hd2 : decide (term < 0) = false := by simpa using ht
  cases ao with
  | none =>
    obtain ⟨hn0, hc0⟩ := hnil rfl
    subst hn0 hc0
    have hl0 : l = [] := List.eq_nil_of_length_eq_zero hl.1
    subst hl0
    clear hl hnil hf
    go_enter Tryz.func56, Tryz.ntmps56
    go_wp2_with fail
    refine HF.out.mono ?_
    rintro e w1 ⟨rfl, hb1⟩
    have HB1 := Lib.hid hb1
    clear hb1
    go_wp2_with (at_builtin; refine wpList_append_own_none rfl (.const (.slice none 0 0)) (.tmp 23) 22 rfl w.heap.size 51 i0 4 Tryz.underlying22 hi _ 0 [] rfl (World.ownsRow_nil _ _ _ _) rfl ?_)
    go_ret2
    exact ⟨w1.heap.size, rfl, ⟨HB1.out.size, none, 0, new_blk _ _, World.ownsRow_nil _ _ _ _⟩, HB1.out.alloc HB1.out.size _⟩
  | some ad =>
    have HS := Lib.hid (ents_src hl rfl)
    clear hl hnil hf
    go_enter Tryz.func56, Tryz.ntmps56
    go_wp2_with fail
    refine HF.out.mono ?_
    rintro e w1 ⟨rfl, hb1⟩
    have HB1 := Lib.hid hb1
    have HS1 := Lib.hid (HS.out w1 hb1)
    clear hb1
    go_wp2_with (at_builtin; refine wpList_append_own_at _ rfl (.const (.slice none 0 0)) (.tmp 23) 22 rfl w.heap.size 51 i0 _ 4 40 Tryz.underlying22 hi hz0 hz1 hz2 rfl (by omega) _ 0 [] rfl (World.ownsRow_nil _ _ _ _) ad n c (entCells l) rfl HLc.out HS1.out (entCells_one l) (by unfold maxLen; omega) (by omega) HB1.out.size ?_; intro v1 w8 hown8 hg8 _ _; rw [Nat.zero_add, List.nil_append] at hown8; obtain ⟨a8, c8, hv8, _⟩ := own_shape hown8; subst hv8; have HO8 := Lib.hid hown8; have HB8 := Lib.hid (HB1.out.grown hg8 HB1.out.size (fun k hk => by cases hk)); clear hown8 hg8)
    go_ret2
    exact ⟨w8.heap.size, rfl, ⟨HB8.out.size, a8, c8, by rw [HLn.out]; exact new_blk _ _, by rw [HLn.out]; exact HO8.out.alloc _⟩, HB8.out.alloc HB8.out.size _⟩
set_option maxHeartbeats 400000 in
theorem rnew_bad (base term : Int) (ao : Option Addr) (n c : Nat) (l : List Ent) (w : World) (hl : Ents w w.heap.size ao n l) (hn : n ≤ 1000000)
    (hb9 : base + n < 9223372036854775807) (hf : base < 0 ∨ term < 0 ∨ folB base term l = false) :
    Calls Tryz.prog 56 #[.int .i64 base, .int .i64 term, .slice ao n c] w fun e w' => e = .returned (.tuple #[.pointer none, .int .i64 1]) ∧ Below w.heap.size w w' := by
  by_cases h1 : base < 0
  · have hd1 : decide (base < 0) = true := by simpa using h1
    clear hl hf
    go_enter Tryz.func56, Tryz.ntmps56
    go_wp2_with fail
    go_ret2
    exact ⟨rfl, Below.refl _ _⟩
  · have hd1 : decide (base < 0) = false := by simpa using h1
    by_cases h2 : term < 0
    · have hd2 : decide (term < 0) = true := by simpa using h2
      clear hl hf
      go_enter Tryz.func56, Tryz.ntmps56
      go_wp2_with fail
      go_ret2
      exact ⟨rfl, Below.refl _ _⟩
    · have hd2 : decide (term < 0) = false := by simpa using h2
      have h3 : folB base term l = false := by
        rcases hf with h | h | h
        · exact absurd h h1
        · exact absurd h h2
        · exact h
      have HF := Lib.hid (rfollows_any base term ao n c l w hl (by omega) (by omega) hb9)
      rw [h3] at HF
      clear hl hf h3
      go_enter Tryz.func56, Tryz.ntmps56
      go_wp2_with fail
      refine HF.out.mono ?_
      rintro e w1 ⟨rfl, hb1⟩
      go_wp2_with fail
      go_ret2
      exact ⟨rfl, hb1⟩
set_option maxHeartbeats 400000 in
theorem new_neg (base term : Int) (ao : Option Addr) (n c : Nat) (w : World) (hf : base < 0 ∨ term < 0) :
    Calls Tryz.prog 55 #[.int .i64 base, .int .i64 term, .slice ao n c] w fun e w' => e = .returned (.tuple #[.pointer none, .int .i64 1]) ∧ Below w.heap.size w w' := by
  by_cases h1 : base < 0
  · have hd1 : decide (base < 0) = true := by simpa using h1
    go_enter Tryz.func55, Tryz.ntmps55
    go_wp2_with fail
    go_ret2
    exact ⟨rfl, Below.refl _ _⟩
  · have hd1 : decide (base < 0) = false := by simpa using h1
    have hd2 : decide (term < 0) = true := by
      rcases hf with h | h
      · exact absurd h h1
      · simpa using h
    go_enter Tryz.func55, Tryz.ntmps55
    go_wp2_with fail
    go_ret2
    exact ⟨rfl, Below.refl _ _⟩
end
/-! ### The walks of the document's log: Slice, Add, Compact. -/
section
open Go.RowKit
set_option linter.unusedVariables false
set_option linter.unusedSimpArgs false
/-- The entries' places follow the base. -/
def Consec (x : LogV) : Prop := ∀ (k : Nat) (e : Ent), x.l[k]? = some e → e.ix = x.base + k + 1
theorem cut_grow {l : List Ent} {k d : Nat} {e : Ent} (h : l[k]? = some e) (hd : d ≤ k) : (l.take (k + 1)).drop d = (l.take k).drop d ++ [e] := by
  have h1 : l.take (k + 1) = l.take k ++ [e] := by rw [List.take_add_one, h]; rfl
  have hk := (List.getElem?_eq_some_iff.1 h).1
  rw [h1, List.drop_append_of_le_length (by rw [List.length_take]; omega)]
theorem cut_none {l : List Ent} {k d : Nat} (hd : k ≤ d) : (l.take k).drop d = [] := List.drop_eq_nil_of_le (by rw [List.length_take]; omega)
set_option maxRecDepth 20000 in
set_option maxHeartbeats 2000000 in
theorem rslice_any {w : World} {B b : Nat} {x : LogV} (h : RLogAt w B b x) (hc : Consec x) (f m : Int) (hb0 : 0 ≤ x.base) (hb9 : x.base + x.l.length ≤ 4611686018427387904) (hn : x.l.length ≤ 1000000) :
    Calls Tryz.prog 72 #[.pointer (some ⟨b, 0, none⟩), .int .i64 f, .int .i64 m] w (SliceRes (sliceV x f m) w) := by
  obtain ⟨i0, hi, hz0, hz1, hz2⟩ := info_parts entinfo
  obtain ⟨ao, cap, c0, c1, c2, ho, hlt, _⟩ := h.facts
  have HEn := Lib.hid (ents_own ho)
  obtain ⟨l, hl⟩ : ∃ l, l = x.l := ⟨_, rfl⟩
  obtain ⟨base, hbe⟩ : ∃ y, y = x.base := ⟨_, rfl⟩
  have HV : Hid (sliceV x f m = if f ≤ base ∨ (l.length : Int) < f - base ∨ m < 1 then [] else (l.drop (f - base - 1).toNat).take m.toNat) := Lib.hid (by rw [hl, hbe]; rfl)
  have HCo : Hid (∀ (k : Nat) (e : Ent), l[k]? = some e → e.ix = base + k + 1) := Lib.hid (by rw [hl, hbe]; exact hc)
  rw [← hl] at c2 HEn hb9 hn
  rw [← hbe] at c0 hb0 hb9
  obtain ⟨n, hne⟩ : ∃ n, n = l.length := ⟨_, rfl⟩
  rw [← hne] at c2 HEn hb9 hn
  have HLn := Lib.hid hne
  have HC2 : Hid (∀ W, Below w.heap.size w W → W.cell? ⟨b, 2, none⟩ = some (.slice ao n cap)) := Lib.hid (fun W hb => (hb.cell (p := ⟨b, 2, none⟩) hlt).trans c2)
  clear ho h hc hl hbe hne c1
  by_cases hf : f ≤ base
  · have hd : decide (f ≤ base) = true := by simpa using hf
    have HR : Hid (sliceV x f m = []) := Lib.hid (by rw [HV.out, if_pos (.inl hf)])
    go_enter Tryz.func72, Tryz.ntmps72
    go_wp2_with fail
    go_ret
    exact ⟨none, 0, 0, rfl, by rw [HR.out]; exact World.ownsRow_nil _ _ _ _, by rw [HR.out]; rfl, Below.refl _ _⟩
  · have hd : decide (f ≤ base) = false := by simpa using hf
    obtain ⟨d, hdd⟩ : ∃ d : Nat, (d : Int) = f - base - 1 := ⟨(f - base - 1).toNat, by omega⟩
    have HD : Hid ((f - base - 1).toNat = d) := Lib.hid (by omega)
    go_enter Tryz.func72, Tryz.ntmps72
    go_wp2_with fail
    go_loopw [7, 8] (fun s i wr => ∃ (k q : Nat) (ao' : Option Addr) (c' : Nat), k ≤ n ∧ i = .int .i64 k ∧ s = .slice ao' q c' ∧ q = k - d ∧ (q = 0 ∨ (q : Int) ≤ m) ∧ Hid (wr.ownsRow w.heap.size 51 4 (.slice ao' q c') q (entCells ((l.take k).drop d))) ∧ Hid (Below w.heap.size w wr)) (fun _ i _ => n - (intOf i).toNat)
    case atStart => exact ⟨0, 0, none, 0, by omega, rfl, rfl, by omega, .inl rfl, Lib.hid (by rw [cut_none (by omega)]; exact World.ownsRow_nil _ _ _ _), Lib.hid (Below.refl _ _)⟩
    case round =>
      obtain ⟨k, q, ao', c', hk, rfl, rfl, hq, hqm, HO, HB⟩ := hrel
      have cc2 := HC2.out wr HB.out
      have HQ := Lib.hid hq
      have HQm := Lib.hid hqm
      clear hq hqm
      by_cases hkn : k < n
      · have hd1 : decide (k < n) = true := by simpa using hkn
        have hd1' : decide ((k : Int) < (n : Int)) = true := by simp; omega
        by_cases hm : (q : Int) < m
        · have hd2 : decide ((q : Int) < m) = true := by simpa using hm
          obtain ⟨g, o, e, rfl, hgB, hek, h1, h2, h3, h4⟩ := (HEn.out.below HB.out).get hkn
          have HEk := Lib.hid hek
          have hix : e.ix = base + k + 1 := HCo.out k e hek
          have hx1 : (0 : Int) ≤ k := by omega
          have hx2 : (k : Int) < n := by omega
          by_cases hkd : d ≤ k
          · have hd3 : decide (f ≤ e.ix) = true := by simp; omega
            have HN : Hid ((l.take (k + 1)).drop d = (l.take k).drop d ++ [e]) := Lib.hid (cut_grow hek hkd)
            have hq6 : q ≤ 1000000 := by have := HQ.out; omega
            have hsz := HB.out.size
            clear hek hix
            go_wp2_with (at_builtin; refine wpList_append_new rfl (.tmp 40) (.tmp 48) 22 rfl w.heap.size 51 i0 _ 4 40 Tryz.underlying22 hi hz0 hz1 hz2 rfl (by omega) _ q (entCells ((l.take k).drop d)) rfl HO.out hsz [.int .i64 e.ix, .int .i64 e.tm, .int .i64 e.kd, .string e.dt] 1 rfl rfl rfl (by simp [Value.oneCell']) (by omega) (by omega) ?_; intro v1 w8 hown8 hg8 hb8 hs8 hat8; have HO9 := Lib.hid hown8; have HB9 := Lib.hid (hb8 w HB.out); obtain ⟨g8, cap8, hv8, _⟩ := hat8; subst hv8; clear hown8 hg8 hb8)
            go_roundw
            case rel => exact ⟨k + 1, q + 1, some ⟨g8, 0, none⟩, cap8, by omega, by go_num, rfl, by have := HQ.out; omega, .inr (by omega), Lib.hid (by rw [HN.out, entCells_append]; exact HO9.out), HB9⟩
            case measure => simp [intOf]; omega
          · have hd3 : decide (f ≤ e.ix) = false := by simp; omega
            clear hek hix h2 h3 h4
            go_wp2_with fail
            go_roundw
            case rel => exact ⟨k + 1, q, ao', c', by omega, by go_num, rfl, by have := HQ.out; omega, .inl (by have := HQ.out; omega), Lib.hid (by rw [cut_none (by omega)]; have := HO.out; rw [cut_none (by omega)] at this; exact this), HB⟩
            case measure => simp [intOf]; omega
        · have hd2 : decide ((q : Int) < m) = false := by simpa using hm
          have HR : Hid (entCells ((l.take k).drop d) = entCells (sliceV x f m) ∧ (sliceV x f m).length = q) := Lib.hid (by
            have h1 := HQ.out
            have h2 := HQm.out
            have hl := HLn.out
            rw [HV.out, HD.out]
            by_cases hq0 : q = 0
            · rw [cut_none (by omega), if_pos (.inr (.inr (by omega))), hq0]
              exact ⟨rfl, rfl⟩
            · have hqm : (q : Int) = m := by rcases h2 with h2 | h2; exact absurd h2 hq0; omega
              rw [if_neg (by omega), show m.toNat = q from by omega]
              have e1 : (l.take k).drop d = (l.drop d).take q := by rw [h1, List.drop_take]
              rw [e1]
              exact ⟨rfl, by rw [List.length_take, List.length_drop]; omega⟩)
          clear hkn
          go_wp2_with fail
          go_ret
          exact ⟨ao', q, c', rfl, by have h1 := HO.out; rw [HR.out.1] at h1; exact h1, HR.out.2, HB.out⟩
      · obtain rfl : k = n := by omega
        have hd1 : decide (k < k) = false := by simp
        have hd1' : decide ((k : Int) < (k : Int)) = false := by simp
        have HR : Hid (entCells ((l.take k).drop d) = entCells (sliceV x f m) ∧ (sliceV x f m).length = q) := Lib.hid (by
          have h1 := HQ.out
          have h2 := HQm.out
          have hl := HLn.out
          rw [HV.out, HD.out, List.take_of_length_le (by omega)]
          by_cases hq0 : q = 0
          · have e1 : l.drop d = [] := List.drop_eq_nil_of_le (by omega)
            rw [e1, hq0]
            split
            · exact ⟨rfl, rfl⟩
            · simp
          · have hqm : (q : Int) ≤ m := by rcases h2 with h2 | h2; exact absurd h2 hq0; exact h2
            rw [if_neg (by omega), List.take_of_length_le (by rw [List.length_drop]; omega)]
            exact ⟨rfl, by rw [List.length_drop]; omega⟩)
        go_wp2_with fail
        go_ret
        exact ⟨ao', q, c', rfl, by have h1 := HO.out; rw [HR.out.1] at h1; exact h1, HR.out.2, HB.out⟩
/-- The document's log with a new list. -/
theorem RLogAt.put {w w2 : World} {B B' b n : Nat} {base term : Int} {v0 v : Value} {l : List Ent} (hBb : B ≤ b) (hb : w.heap[b]? = some (.cells #[.int .i64 base, .int .i64 term, v0] 96 (0, 0)))
    (h : Below w.heap.size w w2) (ho : w2.ownsRow B' 51 4 v n (entCells l)) (hB' : w.heap.size ≤ B') (hB : B ≤ w.heap.size) (hl : l.length = n) :
    RLogAt (w2.setCell ⟨b, 2, none⟩ v) B b ⟨base, term, l⟩ ∧ Below B w (w2.setCell ⟨b, 2, none⟩ v) ∧ Moved b w (w2.setCell ⟨b, 2, none⟩ v) := by
  have hlt := blk_lt hb
  obtain ⟨ao, cap, rfl, _, _, _⟩ := own_shape ho
  have hb2 := (h.block b hlt).trans hb
  have hbs := blk_set hb2 2 (.slice ao n cap)
  have hob : (Value.slice ao n cap).ownBlock ≠ some b := own_ne hb2 (by decide) ho
  subst hl
  refine ⟨⟨hBb, ao, cap, ?_, ?_⟩, ?_, (FarL.ofBelow h).set 2 _, fun g' hg' => .inr ?_⟩
  · rw [hbs]; rfl
  · exact (own_mono ho (Nat.le_trans hB hB')).kept (grown_set w2 b 2 _) (.inr hob)
  · exact (h.mono hB).setCell hBb _
  · rw [rowAt_of (u := .int .i64 base) (v := .int .i64 term) (x := .slice ao l.length cap) (T := 96) (hbs.trans rfl)] at hg'
    have := (ho.lt g' hg').1
    omega
def RAddRes (B b : Nat) (x : LogV) (t k : Int) (d : ByteArray) (w : World) (e : Ending) (w' : World) : Prop :=
  e = .returned (.int .i64 ((lastV x).1 + 1)) ∧ RLogAt w' B b ⟨x.base, x.term, x.l ++ [⟨(lastV x).1 + 1, t, k, d⟩]⟩ ∧ Below B w w' ∧ Moved b w w'
set_option maxRecDepth 20000 in
set_option maxHeartbeats 2000000 in
theorem radd_any {w : World} {B b : Nat} {x : LogV} (h : RLogAt w B b x) (t k : Int) (d : ByteArray) (hB : B ≤ w.heap.size) (hn : x.l.length ≤ 1000000) (hla : -9223372036854775808 ≤ (lastV x).1) (hlb : (lastV x).1 < 9223372036854775807) :
    Calls Tryz.prog 58 #[.pointer (some ⟨b, 0, none⟩), .int .i64 t, .int .i64 k, .string d] w (RAddRes B b x t k d w) := by
  have HL := Lib.hid (rlast_any h)
  have HW : Hid (IntKind.i64.wrap ((lastV x).1 + 1) = (lastV x).1 + 1) := Lib.hid (IntWalk.i64_in _ (by omega))
  have HH : Hid (RLogAt w B b x) := Lib.hid h
  obtain ⟨i0, hi, hz0, hz1, hz2⟩ := info_parts entinfo
  unfold RAddRes
  obtain ⟨u, hu⟩ : ∃ u, u = (lastV x).1 := ⟨_, rfl⟩
  obtain ⟨v, hv⟩ : ∃ v, v = (lastV x).2 := ⟨_, rfl⟩
  rw [← hu] at HW
  rw [← hu, ← hv] at HL
  rw [← hu]
  clear hu hv hla hlb
  have hwu := HW.out
  obtain ⟨ao, cap, hBb, hbk, hown⟩ := h.parts
  have HBk := Lib.hid hbk
  have HOw := Lib.hid hown
  have hblt := blk_lt hbk
  have HC2 : Hid (∀ W, Below w.heap.size w W → W.cell? ⟨b, 2, none⟩ = some (.slice ao x.l.length cap) ∧ W.frozen? ⟨b, 2, none⟩ = false) := Lib.hid (fun W hb => by
    have h2 := (hb.block b hblt).trans HBk.out
    exact ⟨by rw [blk_cell h2]; rfl, blk_frozen h2 _⟩)
  have HFin : Hid (∀ (w9 : World) (v9 : Value) (B9 : Nat), w.heap.size ≤ B9 → Below w.heap.size w w9 → w9.ownsRow B9 51 4 v9 (x.l.length + 1) (entCells x.l ++ [.int .i64 (u + 1), .int .i64 t, .int .i64 k, .string d]) →
      RLogAt (w9.setCell ⟨b, 2, none⟩ v9) B b ⟨x.base, x.term, x.l ++ [⟨u + 1, t, k, d⟩]⟩ ∧ Below B w (w9.setCell ⟨b, 2, none⟩ v9) ∧ Moved b w (w9.setCell ⟨b, 2, none⟩ v9)) := Lib.hid (fun w9 v9 B9 h1 h2 h3 =>
    RLogAt.put hBb HBk.out h2 (by rw [entCells_append]; exact h3) h1 hB (by simp))
  obtain ⟨ao1, cap1, hv1, hcap, hnone, hsome⟩ := own_shape hown
  injection hv1 with e1 _ e2
  subst e1 e2
  have HSrc : Hid (∀ ad, ao = some ad → ∀ W, Below w.heap.size w W → ∀ j u, (entCells x.l)[j]? = some u → W.cell? (ad.add j) = some u) := Lib.hid (fun ad ha => ents_src (ents_own HOw.out) ha)
  have HLc : Hid ((entCells x.l).length = x.l.length * 4) := Lib.hid (entCells_len _)
  obtain ⟨n, hne⟩ : ∃ n, n = x.l.length := ⟨_, rfl⟩
  have HNe := Lib.hid hne
  rw [← hne] at HC2 HLc HFin hn hnone hcap
  clear h hbk hown hne hsome
  cases ao with
  | none =>
    obtain ⟨hn0, hc0⟩ := hnone rfl
    subst hn0 hc0
    have HX0 : Hid (entCells x.l = []) := Lib.hid (by have : x.l = [] := List.eq_nil_of_length_eq_zero HNe.out.symm; rw [this]; rfl)
    clear hnone
    go_enter Tryz.func58, Tryz.ntmps58
    go_wp2_with fail
    refine HL.out.mono ?_
    rintro e w1 ⟨rfl, hb1⟩
    have HB1 := Lib.hid hb1
    obtain ⟨d2, f2⟩ := HC2.out _ hb1
    clear hb1
    go_wp2_with (first
      | (at_builtin; refine wpList_append_own_none rfl (.const (.slice none 0 0)) (.tmp 20) 22 rfl w.heap.size 51 i0 4 Tryz.underlying22 hi _ 0 [] rfl (World.ownsRow_nil _ _ _ _) rfl ?_)
      | (at_builtin; refine wpList_append_new rfl (.tmp 21) (.tmp 28) 22 rfl w.heap.size 51 i0 _ 4 40 Tryz.underlying22 hi hz0 hz1 hz2 rfl (by omega) _ 0 [] rfl (World.ownsRow_nil _ _ _ _) HB1.out.size [.int .i64 (u + 1), .int .i64 t, .int .i64 k, .string d] 1 rfl rfl rfl (by simp [Value.oneCell']) (by omega) (by omega) ?_; intro v1 w8 hown8 hg8 hb8 hs8 hat8; have HO9 := Lib.hid hown8; have HB9 := Lib.hid (hb8 w HB1.out); obtain ⟨g8, cap8, hv8, _⟩ := hat8; subst hv8; obtain ⟨d3, f3⟩ := HC2.out _ HB9.out; clear hown8 hg8 hb8))
    go_ret
    exact ⟨rfl, HFin.out _ _ _ (Nat.le_refl _) HB9.out (by rw [HX0.out]; exact HO9.out)⟩
  | some ad =>
    have HS := Lib.hid (HSrc.out ad rfl)
    clear hnone
    go_enter Tryz.func58, Tryz.ntmps58
    go_wp2_with fail
    refine HL.out.mono ?_
    rintro e w1 ⟨rfl, hb1⟩
    have HB1 := Lib.hid hb1
    have HS1 := Lib.hid (HS.out w1 hb1)
    obtain ⟨d2, f2⟩ := HC2.out _ hb1
    clear hb1
    go_wp2_with (first
      | (at_builtin; refine wpList_append_own_at _ rfl (.const (.slice none 0 0)) (.tmp 20) 22 rfl w.heap.size 51 i0 _ 4 40 Tryz.underlying22 hi hz0 hz1 hz2 rfl (by omega) _ 0 [] rfl (World.ownsRow_nil _ _ _ _) ad n cap (entCells x.l) rfl HLc.out HS1.out (entCells_one x.l) (by unfold maxLen; omega) (by omega) HB1.out.size ?_; intro v1 w7 hown7 hg7 _ _; rw [Nat.zero_add, List.nil_append] at hown7; obtain ⟨a7, c7, hv7, _⟩ := own_shape hown7; subst hv7; have HO7 := Lib.hid hown7; have HB7 := Lib.hid (HB1.out.grown hg7 HB1.out.size (fun k hk => by cases hk)); obtain ⟨d7, f7⟩ := HC2.out _ HB7.out; clear hown7 hg7)
      | (at_builtin; refine wpList_append_new rfl (.tmp 21) (.tmp 28) 22 rfl w.heap.size 51 i0 _ 4 40 Tryz.underlying22 hi hz0 hz1 hz2 rfl (by omega) _ n (entCells x.l) rfl HO7.out HB7.out.size [.int .i64 (u + 1), .int .i64 t, .int .i64 k, .string d] 1 rfl rfl rfl (by simp [Value.oneCell']) (by omega) (by omega) ?_; intro v1 w8 hown8 hg8 hb8 hs8 hat8; have HO9 := Lib.hid hown8; have HB9 := Lib.hid (hb8 w HB7.out); obtain ⟨g8, cap8, hv8, _⟩ := hat8; subst hv8; obtain ⟨d3, f3⟩ := HC2.out _ HB9.out; clear hown8 hg8 hb8))
    go_ret
    exact ⟨rfl, HFin.out _ _ _ (Nat.le_refl _) HB9.out HO9.out⟩
end
/-! ### The walk of the document's Compact. -/
section
open Go.RowKit
set_option linter.unusedVariables false
set_option linter.unusedSimpArgs false
theorem lastV_of {x : LogV} (hc : Consec x) : (lastV x).1 = x.base + x.l.length := by
  unfold lastV
  rcases Nat.eq_zero_or_pos x.l.length with h0 | h0
  · have hl : x.l = [] := List.eq_nil_of_length_eq_zero h0
    rw [hl]
    simp
  · obtain ⟨m, hm⟩ : ∃ m, x.l.length = m + 1 := ⟨x.l.length - 1, by omega⟩
    have he := List.getElem?_eq_getElem (l := x.l) (i := m) (by omega)
    rw [List.getLast?_eq_getElem?, hm, Nat.add_sub_cancel, he]
    have := hc m _ he
    dsimp only
    omega
theorem compactV_of {x : LogV} (hc : Consec x) (tq : Int) : compactV x tq = if (termV x tq).2 = true then (⟨tq, (termV x tq).1, x.l.drop (tq - x.base).toNat⟩, true) else (x, false) := by
  unfold compactV
  by_cases h : (termV x tq).2 = true
  · rw [if_pos ⟨h, by have := term_range h; rw [lastV_of hc]; omega⟩, if_pos h]
  · rw [if_neg (fun h2 => h h2.1), if_neg h]
theorem RLogAt.put3 {w w2 : World} {B B' b n : Nat} {i0 t0 base term : Int} {v0 v : Value} {l : List Ent} (hBb : B ≤ b) (hb : w.heap[b]? = some (.cells #[.int .i64 i0, .int .i64 t0, v0] 96 (0, 0)))
    (h : Below w.heap.size w w2) (ho : w2.ownsRow B' 51 4 v n (entCells l)) (hB' : w.heap.size ≤ B') (hB : B ≤ w.heap.size) (hl : l.length = n) :
    RLogAt (((w2.setCell ⟨b, 2, none⟩ v).setCell ⟨b, 0, none⟩ (.int .i64 base)).setCell ⟨b, 1, none⟩ (.int .i64 term)) B b ⟨base, term, l⟩ ∧ Below B w (((w2.setCell ⟨b, 2, none⟩ v).setCell ⟨b, 0, none⟩ (.int .i64 base)).setCell ⟨b, 1, none⟩ (.int .i64 term)) ∧ Moved b w (((w2.setCell ⟨b, 2, none⟩ v).setCell ⟨b, 0, none⟩ (.int .i64 base)).setCell ⟨b, 1, none⟩ (.int .i64 term)) := by
  have hlt := blk_lt hb
  obtain ⟨ao, cap, rfl, _, _, _⟩ := own_shape ho
  have hb2 := (h.block b hlt).trans hb
  have h2 := blk_set hb2 2 (.slice ao n cap)
  have h3 := blk_set h2 0 (.int .i64 base)
  have h4 := blk_set h3 1 (.int .i64 term)
  have hob : (Value.slice ao n cap).ownBlock ≠ some b := own_ne hb2 (by decide) ho
  subst hl
  refine ⟨⟨hBb, ao, cap, ?_, ?_⟩, ?_, (((FarL.ofBelow h).set 2 _).set 0 _).set 1 _, fun g' hg' => .inr ?_⟩
  · rw [h4]; rfl
  · exact (((own_mono ho (Nat.le_trans hB hB')).kept (grown_set w2 b 2 _) (.inr hob)).kept (grown_set _ b 0 _) (.inr hob)).kept (grown_set _ b 1 _) (.inr hob)
  · exact (((h.mono hB).setCell hBb _).setCell hBb _).setCell hBb _
  · rw [rowAt_of (u := .int .i64 base) (v := .int .i64 term) (x := .slice ao l.length cap) (T := 96) (h4.trans rfl)] at hg'
    have := (ho.lt g' hg').1
    omega
def RCompactRes (B b : Nat) (r : LogV × Bool) (w : World) (e : Ending) (w' : World) : Prop :=
  e = .returned (.bool r.2) ∧ RLogAt w' B b r.1 ∧ Below B w w' ∧ Moved b w w'
set_option maxRecDepth 20000 in
set_option maxHeartbeats 4000000 in
theorem rcompact_any {w : World} {B b : Nat} {x : LogV} (h : RLogAt w B b x) (hc : Consec x) (hB : B ≤ w.heap.size) (tq : Int) (hb0 : 0 ≤ x.base) (hb9 : x.base + x.l.length ≤ 4611686018427387904) (hn : x.l.length ≤ 1000000) :
    Calls Tryz.prog 62 #[.pointer (some ⟨b, 0, none⟩), .int .i64 tq] w (RCompactRes B b (compactV x tq) w) := by
  have HT := Lib.hid (rterm_any h tq hb0 (by omega))
  have HH := Lib.hid h
  rw [compactV_of hc tq]
  by_cases hyes : (termV x tq).2 = true
  · rw [if_pos hyes]
    have hr := term_range hyes
    obtain ⟨i0, hi, hz0, hz1, hz2⟩ := info_parts entinfo
    obtain ⟨K, hK⟩ : ∃ K : Nat, (K : Int) = tq - x.base := ⟨(tq - x.base).toNat, by omega⟩
    rw [show (tq - x.base).toNat = K from by omega]
    rw [hyes] at HT
    obtain ⟨t, ht⟩ : ∃ t, t = (termV x tq).1 := ⟨_, rfl⟩
    rw [← ht] at HT ⊢
    have hw3 : IntKind.i64.wrap (tq - x.base) = (K : Int) := by rw [IntWalk.i64_in _ (by omega)]; omega
    have hwK : IntKind.i64.wrap (K : Int) = (K : Int) := IntWalk.i64_in _ (by omega)
    have hK0 : (0 : Int) ≤ (K : Int) := by omega
    have hKn : K ≤ x.l.length := by omega
    obtain ⟨ao, cap, hBb, hbk, hown⟩ := h.parts
    have HBk := Lib.hid hbk
    have HOw := Lib.hid hown
    have hblt := blk_lt hbk
    have HC : Hid (∀ W, Below w.heap.size w W → (W.cell? ⟨b, 0, none⟩ = some (.int .i64 x.base) ∧ W.cell? ⟨b, 1, none⟩ = some (.int .i64 x.term) ∧ W.cell? ⟨b, 2, none⟩ = some (.slice ao x.l.length cap)) ∧ W.frozen? ⟨b, 0, none⟩ = false ∧ W.frozen? ⟨b, 1, none⟩ = false ∧ W.frozen? ⟨b, 2, none⟩ = false) := Lib.hid (fun W hb => by
      have h2 := (hb.block b hblt).trans HBk.out
      exact ⟨⟨by rw [blk_cell h2]; rfl, by rw [blk_cell h2]; rfl, by rw [blk_cell h2]; rfl⟩, blk_frozen h2 _, blk_frozen h2 _, blk_frozen h2 _⟩)
    have HFin : Hid (∀ (w9 : World) (v9 : Value) (B9 : Nat), w.heap.size ≤ B9 → Below w.heap.size w w9 → w9.ownsRow B9 51 4 v9 (x.l.length - K) (entCells (x.l.drop K)) →
        RLogAt (((w9.setCell ⟨b, 2, none⟩ v9).setCell ⟨b, 0, none⟩ (.int .i64 tq)).setCell ⟨b, 1, none⟩ (.int .i64 t)) B b ⟨tq, t, x.l.drop K⟩ ∧ Below B w (((w9.setCell ⟨b, 2, none⟩ v9).setCell ⟨b, 0, none⟩ (.int .i64 tq)).setCell ⟨b, 1, none⟩ (.int .i64 t)) ∧ Moved b w (((w9.setCell ⟨b, 2, none⟩ v9).setCell ⟨b, 0, none⟩ (.int .i64 tq)).setCell ⟨b, 1, none⟩ (.int .i64 t))) := Lib.hid (fun w9 v9 B9 h1 h2 h3 =>
      RLogAt.put3 hBb HBk.out h2 h3 h1 hB (by rw [List.length_drop]))
    obtain ⟨ao1, cap1, hv1, hcap, hnone, hsome⟩ := own_shape hown
    injection hv1 with e1 _ e2
    subst e1 e2
    have HEn := Lib.hid (ents_own HOw.out)
    have HLc : Hid ((entCells (x.l.drop K)).length = (x.l.length - K) * 4) := Lib.hid (by rw [entCells_len, List.length_drop])
    obtain ⟨n, hne⟩ : ∃ n, n = x.l.length := ⟨_, rfl⟩
    have HNe := Lib.hid hne
    rw [← hne] at HC HLc HFin hn hnone hcap HEn hKn
    have hKl : (K : Int) ≤ (n : Int) := by omega
    have hKc : (K : Int) ≤ (cap : Int) := by omega
    have hnc : (n : Int) ≤ (cap : Int) := by omega
    obtain ⟨bs, hbs⟩ : ∃ y, y = x.base := ⟨_, rfl⟩
    rw [← hbs] at HC hw3
    clear h hbk hown hne hyes hr hK ht hb9 hbs hc hb0
    cases ao with
    | none =>
      obtain ⟨hn0, hc0⟩ := hnone rfl
      obtain rfl : K = 0 := by omega
      subst hn0 hc0
      have HX0 : Hid (entCells (x.l.drop 0) = []) := Lib.hid (by have : x.l = [] := List.eq_nil_of_length_eq_zero HNe.out.symm; rw [this]; rfl)
      clear hnone hsome
      go_enter Tryz.func62, Tryz.ntmps62
      go_wp2_with fail
      refine HT.out.mono ?_
      rintro e w1 ⟨rfl, hb1⟩
      have HB1 := Lib.hid hb1
      obtain ⟨⟨d0, d1, d2⟩, f0, f1, f2⟩ := HC.out _ hb1
      clear hb1
      go_upto_region 4 with fail
      go_region_law (first
        | (refine step_append_none (by rfl) (.const (.slice none 0 0)) (.tmp 26) 22 (by rfl) w.heap.size 51 i0 4 Tryz.underlying22 hi (.slice none 0 0) 0 [] (by simp [Act.eval]) (World.ownsRow_nil _ _ _ _) (by simp [Act.eval, Act.put]) ?_))
      all_goals (
        go_wp2_with fail
        go_ret
        exact ⟨rfl, HFin.out _ _ w.heap.size (Nat.le_refl _) (HB1.out.drew) (by rw [HX0.out]; exact World.ownsRow_nil _ _ _ _)⟩)
    | some ad =>
      obtain ⟨g, rfl, hg1, hg2⟩ := hsome ad rfl
      have HS : Hid (∀ o2, (n - K = 0 ∨ o2 = K * 4) → ∀ W, Below w.heap.size w W → ∀ j u, (entCells (x.l.drop K))[j]? = some u → W.cell? ((⟨g, o2, none⟩ : Addr).add j) = some u) := Lib.hid (fun o2 ho => by
        intro W hb j u hu
        by_cases hk : K < n
        · have ho2 : o2 = K * 4 := by rcases ho with h | h; omega; exact h
          have := ((HEn.out.drop hk).below hb).cells j u hu
          rw [Nat.zero_add] at this
          rw [ho2]
          exact this
        · rw [List.drop_eq_nil_of_le (by have := HNe.out; omega)] at hu
          cases hu)
      clear hnone hsome
      by_cases hcc : K = cap
      · have HS1 := Lib.hid (HS.out 0 (.inl (by omega)))
        have q1 := eq_true hcc
        have q2 : (cap = K) = True := eq_true hcc.symm
        clear hcc
        go_enter Tryz.func62, Tryz.ntmps62
        go_wp2_with fail
        refine HT.out.mono ?_
        rintro e w1 ⟨rfl, hb1⟩
        have HB1 := Lib.hid hb1
        obtain ⟨⟨d0, d1, d2⟩, f0, f1, f2⟩ := HC.out _ hb1
        clear hb1
        go_upto_region 4 with fail
        go_region_law (first
          | (refine step_append_own _ (by rfl) (.const (.slice none 0 0)) (.tmp 26) 22 (by rfl) w.heap.size 51 i0 _ 4 40 Tryz.underlying22 hi hz0 hz1 hz2 (by rfl) (by omega) (.slice none 0 0) 0 [] (by simp [Act.eval]) (World.ownsRow_nil _ _ _ _) ⟨g, 0, none⟩ (n - K) (cap - K) (entCells (x.l.drop K)) (by simp [Act.eval, Act.put]) HLc.out (HS1.out _ HB1.out.drew) (entCells_one _) (by unfold maxLen; omega) (by omega) HB1.out.drew.size ?_; intro v1 u1 hown1 hg1 hat1; rw [Nat.zero_add, List.nil_append] at hown1; have HO1 := Lib.hid hown1; have HB2 := Lib.hid (HB1.out.drew.grown hg1 HB1.out.drew.size (fun k hk => by cases hk)); obtain ⟨a1, c1, hv1, _⟩ := own_shape hown1; subst hv1; obtain ⟨⟨d0', d1', d2'⟩, f0', f1', f2'⟩ := HC.out _ HB2.out; clear hown1 hg1 hat1))
        all_goals (
          go_wp2_with fail
          go_ret
          exact ⟨rfl, HFin.out _ _ w.heap.size (Nat.le_refl _) HB2.out HO1.out⟩)
      · have HS1 := Lib.hid (HS.out (K * 4) (.inr rfl))
        have q1 := eq_false hcc
        have q2 : (cap = K) = False := eq_false (fun h => hcc h.symm)
        clear hcc
        go_enter Tryz.func62, Tryz.ntmps62
        go_wp2_with fail
        refine HT.out.mono ?_
        rintro e w1 ⟨rfl, hb1⟩
        have HB1 := Lib.hid hb1
        obtain ⟨⟨d0, d1, d2⟩, f0, f1, f2⟩ := HC.out _ hb1
        clear hb1
        go_upto_region 4 with fail
        go_region_law (first
          | (refine step_append_own _ (by rfl) (.const (.slice none 0 0)) (.tmp 26) 22 (by rfl) w.heap.size 51 i0 _ 4 40 Tryz.underlying22 hi hz0 hz1 hz2 (by rfl) (by omega) (.slice none 0 0) 0 [] (by simp [Act.eval]) (World.ownsRow_nil _ _ _ _) ⟨g, K * 4, none⟩ (n - K) (cap - K) (entCells (x.l.drop K)) (by simp [Act.eval, Act.put]) HLc.out (HS1.out _ HB1.out.drew) (entCells_one _) (by unfold maxLen; omega) (by omega) HB1.out.drew.size ?_; intro v1 u1 hown1 hg1 hat1; rw [Nat.zero_add, List.nil_append] at hown1; have HO1 := Lib.hid hown1; have HB2 := Lib.hid (HB1.out.drew.grown hg1 HB1.out.drew.size (fun k hk => by cases hk)); obtain ⟨a1, c1, hv1, _⟩ := own_shape hown1; subst hv1; obtain ⟨⟨d0', d1', d2'⟩, f0', f1', f2'⟩ := HC.out _ HB2.out; clear hown1 hg1 hat1))
        all_goals (
          go_wp2_with fail
          go_ret
          exact ⟨rfl, HFin.out _ _ w.heap.size (Nat.le_refl _) HB2.out HO1.out⟩)
  · rw [if_neg hyes]
    have hno : (termV x tq).2 = false := by simpa using hyes
    rw [hno] at HT
    obtain ⟨t, ht⟩ : ∃ t, t = (termV x tq).1 := ⟨_, rfl⟩
    rw [← ht] at HT
    clear h hyes hno ht
    go_enter Tryz.func62, Tryz.ntmps62
    go_wp2_with fail
    refine HT.out.mono ?_
    rintro e w1 ⟨rfl, hb1⟩
    go_wp2_with fail
    go_ret
    exact ⟨rfl, HH.out.below hb1 (Nat.le_refl _), hb1.mono hB, Moved.ofBelow HH.out.lt hb1⟩
end
/-! ### The walk of the document's Merge. -/
section
open Go.RowKit
set_option linter.unusedVariables false
set_option linter.unusedSimpArgs false
def RMergeRes (B b : Nat) (r : LogV × Int × Bool) (w : World) (e : Ending) (w' : World) : Prop :=
  e = .returned (.tuple #[.int .i64 r.2.1, .bool r.2.2]) ∧ RLogAt w' B b r.1 ∧ Below B w w' ∧ Moved b w w'
theorem fol_ix : ∀ (l : List Ent) (p t : Int), 0 ≤ p → p + l.length < 9223372036854775807 → folB p t l = true → ∀ (k : Nat) (e : Ent), l[k]? = some e → e.ix = p + k + 1
  | [], p, t, _, _, _, k, e, h => by simp at h
  | a :: r, p, t, h0, h9, hf, k, e, h => by
    rw [folB] at hf
    split at hf
    · cases hf
    · rename_i hh
      rw [List.length_cons] at h9
      have h1 : a.ix = wrap64 (p + 1) := Classical.byContradiction fun hc => hh (.inl hc)
      have hw : wrap64 (p + 1) = p + 1 := by unfold wrap64; omega
      rw [hw] at h1
      cases k with
      | zero =>
        obtain rfl : a = e := by simpa using h
        simpa using h1
      | succ k =>
        have := fol_ix r a.ix a.tm (by omega) (by omega) hf k e (by simpa using h)
        omega
set_option maxRecDepth 100000 in
set_option maxHeartbeats 16000000 in
theorem rmerge_any {w : World} {B b : Nat} {x : LogV} (h : RLogAt w B b x) (hB : B ≤ w.heap.size) {ao : Option Addr} {n c : Nat} {l : List Ent} (hE : Ents w w.heap.size ao n l) (hnc : n ≤ c) (hc9 : c ≤ 9223372036854775807)
    (hb0 : 0 ≤ x.base) (hb9 : x.base + x.l.length < 4611686018427387904) (hn : x.l.length ≤ 1000000) (hnl : n ≤ 1000000) (prev term keep : Int) :
    Calls Tryz.prog 60 #[.pointer (some ⟨b, 0, none⟩), .int .i64 prev, .int .i64 term, .int .i64 keep, .slice ao n c] w (RMergeRes B b (mergeV x prev term keep l) w) := by
  have HH := Lib.hid h
  have HT0 := Lib.hid (rterm_any h prev hb0 (by omega))
  have HTm : Hid (∀ W, Below w.heap.size w W → ∀ i, Calls Tryz.prog 68 #[.pointer (some ⟨b, 0, none⟩), .int .i64 i] W fun e w' => e = .returned (.tuple #[.int .i64 (termV x i).1, .bool (termV x i).2]) ∧ Below W.heap.size W w') := Lib.hid (fun W hb i => rterm_any (h.below hb (Nat.le_refl _)) i hb0 (by omega))
  have HSt : Hid (∀ W, Below w.heap.size w W → RLogAt W B b x ∧ Below B w W ∧ Moved b w W) := Lib.hid (fun W hb => ⟨h.below hb (Nat.le_refl _), hb.mono hB, Moved.ofBelow h.lt hb⟩)
  have HE := Lib.hid hE
  have HMV : Hid (mergeV x prev term keep l = if (termV x prev).2 = true ∧ (termV x prev).1 = term ∧ folB prev term l = true then mergeOf x l (scan x keep 0 0 l) else (x, 0, false)) := Lib.hid rfl
  obtain ⟨s, hs⟩ : ∃ s, s = (termV x prev).2 := ⟨_, rfl⟩
  obtain ⟨t, ht⟩ : ∃ t, t = (termV x prev).1 := ⟨_, rfl⟩
  obtain ⟨fo, hfo⟩ : ∃ f, f = folB prev term l := ⟨_, rfl⟩
  rw [← hs, ← ht, ← hfo] at HMV
  have hbad : s = false ∨ t ≠ term ∨ fo = false → mergeV x prev term keep l = (x, 0, false) := fun hh => by
    rw [HMV.out, if_neg]
    rintro ⟨h1, h2, h3⟩
    rcases hh with hh | hh | hh
    · rw [hh] at h1; cases h1
    · exact hh h2
    · rw [hh] at h3; cases h3
  have HBad := Lib.hid hbad
  have hrg : s = true → x.base ≤ prev ∧ prev ≤ x.base + x.l.length := fun hh => term_range (by rw [← hs]; exact hh)
  rw [← hs, ← ht] at HT0
  have HFo : s = true → Hid (∀ W, Below w.heap.size w W → Calls Tryz.prog 185 #[.int .i64 prev, .int .i64 term, .slice ao n c] W fun e w' => e = .returned (.bool fo) ∧ Below W.heap.size W w') := fun hh => Lib.hid (fun W hb => by
    have := hrg hh
    rw [hfo]
    exact rfollows_any prev term ao n c l W ((hE.below hb).mono hb.size) (by omega) (by omega) (by omega))
  have HFx : s = true → fo = true → Hid (∀ (k : Nat) (e : Ent), l[k]? = some e → e.ix = prev + k + 1) := fun hh h2 => Lib.hid (by
    have := hrg hh
    exact fol_ix l prev term (by omega) (by rw [hE.1]; omega) (hfo ▸ h2))
  have HSc : s = true → fo = true → Hid (t = term → mergeV x prev term keep l = mergeOf x l (scan x keep 0 0 l)) := fun h1 h2 => Lib.hid (fun h3 => by rw [HMV.out, if_pos ⟨h1, h3, h2⟩])
  clear h hE hs ht hfo hbad HMV
  cases s with
  | false =>
    have HR := Lib.hid (HBad.out (.inl rfl))
    clear HFo HFx HSc hrg HBad
    go_enter Tryz.func60, Tryz.ntmps60
    go_wp2_with fail
    refine HT0.out.mono ?_
    rintro e w1 ⟨rfl, hb1⟩
    have HS1 := Lib.hid (HSt.out _ hb1)
    clear hb1
    go_wp2_with fail
    go_ret2
    exact ⟨by rw [HR.out]; rfl, by rw [HR.out]; exact HS1.out.1, HS1.out.2⟩
  | true =>
  replace HFo := HFo rfl
  replace HFx := HFx rfl
  replace HSc := HSc rfl
  replace hrg := hrg rfl
  by_cases htt : t = term
  case neg =>
    have HR := Lib.hid (HBad.out (.inr (.inl htt)))
    have hd : (t != term) = true := by simpa using htt
    clear HFo HFx HSc hrg HBad htt
    go_enter Tryz.func60, Tryz.ntmps60
    go_wp2_with fail
    refine HT0.out.mono ?_
    rintro e w1 ⟨rfl, hb1⟩
    have HS1 := Lib.hid (HSt.out _ hb1)
    clear hb1
    go_wp2_with fail
    go_ret2
    exact ⟨by rw [HR.out]; rfl, by rw [HR.out]; exact HS1.out.1, HS1.out.2⟩
  have hd : (t != term) = false := by simpa using htt
  cases fo with
  | false =>
    have HR := Lib.hid (HBad.out (.inr (.inr rfl)))
    clear HFx HSc hrg HBad htt
    go_enter Tryz.func60, Tryz.ntmps60
    go_wp2_with fail
    refine HT0.out.mono ?_
    rintro e w1 ⟨rfl, hb1⟩
    have HF1 := Lib.hid (HFo.out _ hb1)
    have HB1 := Lib.hid hb1
    clear hb1
    go_wp2_with fail
    refine HF1.out.mono ?_
    rintro e w2 ⟨rfl, hb2⟩
    have HS1 := Lib.hid (HSt.out _ (HB1.out.trans (hb2.mono HB1.out.size)))
    clear hb2
    go_wp2_with fail
    go_ret2
    exact ⟨by rw [HR.out]; rfl, by rw [HR.out]; exact HS1.out.1, HS1.out.2⟩
  | true =>
  replace HFx := HFx rfl
  replace HSc := Lib.hid ((HSc rfl).out htt)
  obtain ⟨R, hR⟩ : ∃ R, R = scan x keep 0 0 l := ⟨_, rfl⟩
  have HR0 := Lib.hid hR.symm
  rw [← hR] at HSc
  obtain ⟨i0, hi, hz0, hz1, hz2⟩ := info_parts entinfo
  obtain ⟨aoL, capL, hBb, hbk, hown⟩ := HH.out.parts
  have HBk := Lib.hid hbk
  have HOw := Lib.hid hown
  have hblt := blk_lt hbk
  have HC : Hid (∀ W, Below w.heap.size w W → W.cell? ⟨b, 0, none⟩ = some (.int .i64 x.base) ∧ W.cell? ⟨b, 2, none⟩ = some (.slice aoL x.l.length capL) ∧ W.frozen? ⟨b, 2, none⟩ = false) := Lib.hid (fun W hb => by
    have h2 := (hb.block b hblt).trans HBk.out
    exact ⟨by rw [blk_cell h2]; rfl, by rw [blk_cell h2]; rfl, blk_frozen h2 _⟩)
  have HFin : Hid (∀ (K k : Nat) (w9 : World) (v9 : Value), K ≤ x.l.length → k ≤ n → Below w.heap.size w w9 → w9.ownsRow w.heap.size 51 4 v9 (K + (n - k)) (entCells (x.l.take K) ++ entCells (l.drop k)) →
      RLogAt (w9.setCell ⟨b, 2, none⟩ v9) B b ⟨x.base, x.term, x.l.take K ++ l.drop k⟩ ∧ Below B w (w9.setCell ⟨b, 2, none⟩ v9) ∧ Moved b w (w9.setCell ⟨b, 2, none⟩ v9)) := Lib.hid (fun K k w9 v9 hK hk h1 h2 =>
    RLogAt.put hBb HBk.out h1 (by rw [entCells_append]; exact h2) (Nat.le_refl _) hB (by rw [List.length_append, List.length_take, List.length_drop, HE.out.1, Nat.min_eq_left hK]))
  obtain ⟨ao1, cap1, hv1, hcap, hnone, hsome⟩ := own_shape hown
  injection hv1 with e1 _ e2
  subst e1 e2
  have HEnL := Lib.hid (ents_own HOw.out)
  have HShape : Hid ((aoL = none → x.l.length = 0 ∧ capL = 0) ∧ ∀ a, aoL = some a → ∃ g, a = ⟨g, 0, none⟩) := Lib.hid ⟨hnone, fun a ha => by obtain ⟨g, hg, _⟩ := hsome a ha; exact ⟨g, hg⟩⟩
  have HSrc : Hid (∀ (k : Nat) (g o : Nat), ao = some ⟨g, o, none⟩ → k < n → ∀ W, Below w.heap.size w W → ∀ j u, (entCells (l.drop k))[j]? = some u → W.cell? ((⟨g, o + k * 4, none⟩ : Addr).add j) = some u) := Lib.hid (fun k g o ha hk W hb j u hu => by
    subst ha
    exact ((HE.out.drop hk).below hb).cells j u hu)
  have HCut : Hid (∀ (K : Nat) (g : Nat), aoL = some ⟨g, 0, none⟩ → K ≤ x.l.length → ∀ W, Below w.heap.size w W → ∀ j u, (entCells (x.l.take K))[j]? = some u → W.cell? ((⟨g, 0, none⟩ : Addr).add j) = some u) := Lib.hid (fun K g ha hK W hb j u hu => by
    subst ha
    exact ((ents_cut HEnL.out hK).below hb).cells j u hu)
  obtain ⟨bs, hbs⟩ : ∃ y, y = x.base := ⟨_, rfl⟩
  obtain ⟨m, hm⟩ : ∃ y, y = x.l.length := ⟨_, rfl⟩
  rw [← hbs] at HC hb0 hb9 hrg
  rw [← hm] at HC HFin hn hcap hb9 hrg HShape HCut
  have HBs := Lib.hid (And.intro hbs hm)
  have hEl := HE.out.1
  have HEl := Lib.hid hEl
  clear hbk hown hnone hsome hR hbs hm hEl HBad htt
  go_enter Tryz.func60, Tryz.ntmps60
  go_wp2_with fail
  refine HT0.out.mono ?_
  rintro e w1 ⟨rfl, hb1⟩
  have HF1 := Lib.hid (HFo.out _ hb1)
  have HB1 := Lib.hid hb1
  clear hb1
  go_wp2_with fail
  refine HF1.out.mono ?_
  rintro e w2 ⟨rfl, hb2⟩
  have HB2 := Lib.hid (HB1.out.trans (hb2.mono HB1.out.size))
  clear hb2 HF1 HB1 HT0 HFo
  go_wp2_with fail
  go_loopw [14] (fun z wr => ∃ (k : Nat), k ≤ n ∧ z = .int .i64 k ∧ prev + k ≤ bs + m ∧ Hid (scan x keep k 0 (l.drop k) = R) ∧ Hid (Below w.heap.size w wr)) (fun z _ => n - (intOf z).toNat)
  case atStart => exact ⟨0, Nat.zero_le _, rfl, by omega, Lib.hid (by rw [List.drop_zero]; exact HR0.out), HB2⟩
  case round =>
    obtain ⟨k, hk, rfl, hpk, HSk, HB⟩ := hrel
    have HPk := Lib.hid hpk
    clear hpk
    by_cases hlt : k < n
    · obtain ⟨g, o, e, rfl, hgB, hek, h1, h2, h3, h4⟩ := (HE.out.below HB.out).get hlt
      have hix : e.ix = prev + k + 1 := HFx.out k e hek
      have HDr : Hid (l.drop k = e :: l.drop (k + 1)) := Lib.hid (by
        have hk' : k < l.length := (List.getElem?_eq_some_iff.1 hek).1
        rw [List.drop_eq_getElem_cons hk']
        congr 1
        exact (List.getElem?_eq_some_iff.1 hek).2)
      have HEk := Lib.hid hek
      have HTk := Lib.hid (HTm.out _ HB.out e.ix)
      have HL1 : Hid (∀ W, Below w.heap.size w W → W.cell? ⟨g, o + k * 4, none⟩ = some (.int .i64 e.ix) ∧ W.cell? ⟨g, o + k * 4 + 1, none⟩ = some (.int .i64 e.tm)) := Lib.hid (fun W hb => by
        obtain ⟨g', o', e', ha, _, he', q1, q2, _⟩ := (HE.out.below hb).get hlt
        injection ha with ha
        injection ha with a1 a2
        subst a1 a2
        rw [HEk.out] at he'
        injection he' with he'
        subst he'
        exact ⟨q1, q2⟩)
      have hsk := HSk.out
      rw [HDr.out, scan] at hsk
      have hrk := fun hh => term_range (x := x) (p := e.ix) hh
      rw [← HBs.out.1, ← HBs.out.2] at hrk
      obtain ⟨s, hs⟩ : ∃ s, s = (termV x e.ix).2 := ⟨_, rfl⟩
      obtain ⟨t', ht⟩ : ∃ t, t = (termV x e.ix).1 := ⟨_, rfl⟩
      rw [← hs, ← ht] at hsk HTk
      rw [← hs] at hrk
      have hsk0 : ¬ (s = true ∧ t' = e.tm) → ¬ (s = true ∧ e.ix ≤ keep) → scan x keep k (k + 1) (l.drop k) = R := fun n1 n2 => by
        rw [if_neg n1, if_neg n2, if_pos rfl] at hsk
        rw [HDr.out, scan, ← hs, ← ht, if_neg n1, if_neg n2, if_neg (by omega)]
        exact hsk
      have HSk0 := Lib.hid hsk0
      have HSk := Lib.hid hsk
      have HIx := Lib.hid hix
      have hx1 : (0 : Int) ≤ k := by omega
      have hx2 : (k : Int) < n := by omega
      have hi1 : 0 ≤ e.ix := by omega
      have hi2 : e.ix ≤ bs + m + 1 := by have := HPk.out; omega
      have hi3 : bs + 1 ≤ e.ix := by omega
      clear hs ht hek hix h3 h4 hsk hsk0
      go_wp2_with fail
      refine HTk.out.mono ?_
      rintro e1 w3 ⟨rfl, hb3⟩
      have HB3 := Lib.hid (HB.out.trans (hb3.mono HB.out.size))
      obtain ⟨d0, d1⟩ := HL1.out _ HB3.out
      clear hb3 h1 h2 HTk
      by_cases hm1 : s = true ∧ t' = e.tm
      · have HN : Hid (scan x keep (k + 1) 0 (l.drop (k + 1)) = R) := Lib.hid (by have := HSk.out; rw [if_pos hm1] at this; exact this)
        have hnx := hrk hm1.1
        obtain ⟨rfl, rfl⟩ := hm1
        clear hrk HSk HSk0
        go_wp2_with fail
        go_roundw
        case rel => exact ⟨k + 1, by omega, by go_num, by have := HIx.out; omega, HN, HB3⟩
        case measure => simp [intOf]; omega
      · by_cases hm2 : s = true ∧ e.ix ≤ keep
        · have HRn : Hid (mergeV x prev term keep l = (x, 0, false)) := Lib.hid (by
            have := HSk.out
            rw [if_neg hm1, if_pos hm2] at this
            rw [HSc.out, ← this]; rfl)
          have HS1 := Lib.hid (HSt.out _ HB3.out)
          obtain ⟨rfl, hle⟩ := hm2
          have hq1 : (t' == e.tm) = false := by rw [beq_eq_false_iff_ne]; exact fun h => hm1 ⟨rfl, h⟩
          have hq2 : decide (e.ix ≤ keep) = true := by simpa using hle
          clear hm1 hle hrk HSk HSk0
          go_wp2_with fail
          go_ret2
          exact ⟨by rw [HRn.out]; rfl, by rw [HRn.out]; exact HS1.out.1, HS1.out.2⟩
        · have HN := Lib.hid (HSk0.out hm1 hm2)
          obtain ⟨K, hK⟩ : ∃ K : Nat, (K : Int) = e.ix - bs - 1 := ⟨(e.ix - bs - 1).toNat, by omega⟩
          have hKm : K ≤ m := by omega
          have HK := Lib.hid hK
          have hw1 : IntKind.i64.wrap (e.ix - bs) = (K : Int) + 1 := by rw [IntWalk.i64_in _ (by omega)]; omega
          have hw2 : IntKind.i64.wrap ((K : Int) + 1 - 1) = (K : Int) := by rw [IntWalk.i64_in _ (by omega)]; omega
          have hw3 : IntKind.i64.wrap (K : Int) = (K : Int) := IntWalk.i64_in _ (by omega)
          obtain ⟨b0, b2, f2⟩ := HC.out _ HB3.out
          have hgd : (s = false) ∨ (s = true ∧ (t' == e.tm) = false ∧ decide (e.ix ≤ keep) = false) := by
            cases s with
            | false => exact .inl rfl
            | true => exact .inr ⟨rfl, by rw [beq_eq_false_iff_ne]; exact fun h => hm1 ⟨rfl, h⟩, by rw [decide_eq_false_iff_not]; exact fun h => hm2 ⟨rfl, h⟩⟩
          clear hm1 hm2 hrk HSk HSk0 hK
          rcases hgd with hs | ⟨hs, hq1, hq2⟩
          all_goals (
            subst hs
            go_wp2_with fail
            go_quiet (fail)
            go_wp2_with fail
            have HBd := Lib.hid (below_drewN HB3.out 0)
            go_loopw [18] (fun z wr => ∃ (j : Nat), k ≤ j ∧ j ≤ n ∧ z = .int .i64 j ∧ Hid (scan x keep j (k + 1) (l.drop j) = R) ∧ Hid (Below w.heap.size w wr)) (fun z _ => n - (intOf z).toNat)
            case atStart => exact ⟨k, Nat.le_refl _, hk, rfl, HN, Lib.hid (by first | exact HB3.out | exact below_drewN HB3.out _)⟩
            case round =>
              obtain ⟨j, hkj, hj, rfl, HSj, HBj⟩ := hrel
              clear HB3 HBd b0 b2 f2 d0 d1 HB
              by_cases hjn : j < n
              · obtain ⟨g', o', e', ha, hgB', hej, h1, h2, h3, h4⟩ := (HE.out.below HBj.out).get hjn
                obtain ⟨rfl, rfl⟩ : g' = g ∧ o' = o := by injection ha with ha; injection ha with a1 a2; exact ⟨a1.symm, a2.symm⟩
                have HEj := Lib.hid hej
                have HDj : Hid (l.drop j = e' :: l.drop (j + 1)) := Lib.hid (by
                  have hk' : j < l.length := (List.getElem?_eq_some_iff.1 hej).1
                  rw [List.drop_eq_getElem_cons hk']
                  congr 1
                  exact (List.getElem?_eq_some_iff.1 hej).2)
                have HTj := Lib.hid (HTm.out _ HBj.out e'.ix)
                have HL2 : Hid (∀ W, Below w.heap.size w W → W.cell? ⟨g', o' + j * 4, none⟩ = some (.int .i64 e'.ix) ∧ W.cell? ⟨g', o' + j * 4 + 1, none⟩ = some (.int .i64 e'.tm)) := Lib.hid (fun W hb => by
                  obtain ⟨g2, o2, e2, ha, _, he', q1, q2, _⟩ := (HE.out.below hb).get hjn
                  injection ha with ha
                  injection ha with a1 a2
                  subst a1 a2
                  rw [HEj.out] at he'
                  injection he' with he'
                  subst he'
                  exact ⟨q1, q2⟩)
                have hsj := HSj.out
                rw [HDj.out, scan] at hsj
                obtain ⟨sj, hsj1⟩ : ∃ s, s = (termV x e'.ix).2 := ⟨_, rfl⟩
                obtain ⟨tj, htj1⟩ : ∃ t, t = (termV x e'.ix).1 := ⟨_, rfl⟩
                rw [← hsj1, ← htj1] at hsj HTj
                rw [if_neg (show ¬ k + 1 = 0 by omega)] at hsj
                have HSj := Lib.hid hsj
                have hy1 : (0 : Int) ≤ j := by omega
                have hy2 : (j : Int) < n := by omega
                clear hsj hsj1 htj1 hej h3 h4 ha
                go_wp2_with fail
                refine HTj.out.mono ?_
                rintro e1 w5 ⟨rfl, hb5⟩
                have HB5 := Lib.hid (HBj.out.trans (hb5.mono HBj.out.size))
                obtain ⟨p0, p1⟩ := HL2.out _ HB5.out
                clear hb5 h1 h2 HTj
                by_cases hm1 : sj = true ∧ tj = e'.tm
                · have HN2 : Hid (scan x keep (j + 1) (k + 1) (l.drop (j + 1)) = R) := Lib.hid (by have := HSj.out; rw [if_pos hm1] at this; exact this)
                  obtain ⟨rfl, rfl⟩ := hm1
                  clear HSj
                  go_wp2_with fail
                  go_roundw
                  case rel => exact ⟨j + 1, by omega, by omega, by go_num, HN2, HB5⟩
                  case measure => simp [intOf]; omega
                · by_cases hm2 : sj = true ∧ e'.ix ≤ keep
                  · have HRn : Hid (mergeV x prev term keep l = (x, 0, false)) := Lib.hid (by
                      have := HSj.out
                      rw [if_neg hm1, if_pos hm2] at this
                      rw [HSc.out, ← this]; rfl)
                    have HS1 := Lib.hid (HSt.out _ HB5.out)
                    obtain ⟨rfl, hle⟩ := hm2
                    have hq5 : (tj != e'.tm) = true := by rw [bne_iff_ne]; exact fun h => hm1 ⟨rfl, h⟩
                    have hq6 : decide (e'.ix ≤ keep) = true := by simpa using hle
                    clear hm1 hle HSj
                    go_wp2_with fail
                    go_ret2
                    exact ⟨by rw [HRn.out]; rfl, by rw [HRn.out]; exact HS1.out.1, HS1.out.2⟩
                  · have HN2 : Hid (scan x keep (j + 1) (k + 1) (l.drop (j + 1)) = R) := Lib.hid (by have := HSj.out; rw [if_neg hm1, if_neg hm2] at this; exact this)
                    have hgd2 : (sj = false) ∨ (sj = true ∧ (tj != e'.tm) = true ∧ decide (e'.ix ≤ keep) = false) := by
                      cases sj with
                      | false => exact .inl rfl
                      | true => exact .inr ⟨rfl, by rw [bne_iff_ne]; exact fun h => hm1 ⟨rfl, h⟩, by rw [decide_eq_false_iff_not]; exact fun h => hm2 ⟨rfl, h⟩⟩
                    clear hm1 hm2 HSj
                    rcases hgd2 with hs2 | ⟨hs2, hq5, hq6⟩
                    all_goals (
                      subst hs2
                      go_wp2_with fail
                      go_roundw
                      case rel => exact ⟨j + 1, by omega, by omega, by go_num, HN2, HB5⟩
                      case measure => simp [intOf]; omega)
              · obtain rfl : j = n := by omega
                have HRn : Hid (mergeV x prev term keep l = (⟨x.base, x.term, x.l.take K ++ l.drop k⟩, e.ix, true)) := Lib.hid (by
                  have := HSj.out
                  rw [List.drop_of_length_le (by rw [HEl.out]; omega), scan] at this
                  rw [HSc.out, ← this]
                  show takeOf x l k l[k]? = _
                  rw [HEk.out]
                  show (_, _, _) = _
                  rw [← HBs.out.1, show (e.ix - bs - 1).toNat = K from by have := HK.out; omega])
                obtain ⟨b0, b2, f2⟩ := HC.out _ HBj.out
                obtain ⟨d0, d1⟩ := HL1.out _ HBj.out
                have HS2 := Lib.hid (HSrc.out k g o rfl hlt)
                have HLd : Hid ((entCells (l.drop k)).length = (j - k) * 4) := Lib.hid (by rw [entCells_len, List.length_drop, HEl.out])
                have HLt : Hid ((entCells (x.l.take K)).length = K * 4) := Lib.hid (by rw [entCells_len, List.length_take, ← HBs.out.2, Nat.min_eq_left hKm])
                have hz8 : (0 : Int) ≤ K := by omega
                have hz9 : (K : Int) ≤ capL := by omega
                have hy3 : (k : Int) ≤ j := by omega
                have hy4 : (k : Int) ≤ c := by omega
                have hy5 : (j : Int) ≤ c := by omega
                have hy6 : (k = c) = False := eq_false (by omega)
                have hy7 : (c = k) = False := eq_false (by omega)
                have HFn := Lib.hid (HFin.out K k · · hKm hk)
                have hAf : ∀ u9 v9, Below w.heap.size w u9 → (u9.setCell ⟨b, 2, none⟩ v9).cell? ⟨g, o + k * 4, none⟩ = some (.int .i64 e.ix) := fun u9 v9 hb9 => by
                  have hne : g ≠ b := ents_ne ((hb9.block b hblt).trans HBk.out) rfl (show EntAt u9 g (o + k * 4) e from by
                    obtain ⟨g2, o2, e2, ha, _, he', q1, q2, q3, q4⟩ := (HE.out.below hb9).get hlt
                    injection ha with ha
                    injection ha with a1 a2
                    subst a1 a2
                    rw [HEk.out] at he'
                    injection he' with he'
                    subst he'
                    exact ⟨q1, q2, q3, q4⟩)
                  have hq := (HL1.out _ hb9).1
                  exact (World.cell?_of_block (w := u9) (a := ⟨g, o + k * 4, none⟩) ((grown_set u9 b 2 v9).block g (by have := cell_lt hq; simpa using this) (by simp; exact hne))).trans hq
                have HAf := Lib.hid hAf
                clear hAf HSj HL1 HSrc HFin
                cases aoL with
                | none =>
                  obtain ⟨hm0, hc0⟩ := HShape.out.1 rfl
                  obtain rfl : K = 0 := by omega
                  subst hc0
                  go_upto_region 18 with fail
                  go_region_law (first
                    | (refine step_append_none (by rfl) (.const (.slice none 0 0)) (.tmp 130) 22 (by rfl) w.heap.size 51 i0 4 Tryz.underlying22 hi (.slice none 0 0) 0 [] (by simp [Act.eval]) (World.ownsRow_nil _ _ _ _) (by simp [Act.eval, Act.put]) ?_)
                    | (refine step_append_own _ (by rfl) (.tmp 131) (.tmp 134) 22 (by rfl) w.heap.size 51 i0 _ 4 40 Tryz.underlying22 hi hz0 hz1 hz2 (by rfl) (by omega) (.slice none 0 0) 0 [] (by simp [Act.eval, Act.put]) (World.ownsRow_nil _ _ _ _) ⟨g, o + k * 4, none⟩ (j - k) (c - k) (entCells (l.drop k)) (by simp [Act.eval, Act.put]) HLd.out (HS2.out _ HBj.out.drew) (entCells_one _) (by unfold maxLen; omega) (by omega) HBj.out.drew.size ?_; intro v3 u3 hown3 hg3 hat3; have HO3 := Lib.hid hown3; have HB7 := Lib.hid (HBj.out.drew.grown hg3 HBj.out.drew.size (fun k hk => by cases hk)); obtain ⟨a3, c3, hv3, _⟩ := own_shape hown3; subst hv3; obtain ⟨b0', b2', f2'⟩ := HC.out _ HB7.out; have d9 := HAf.out u3 (.slice a3 (0 + (j - k)) c3) HB7.out; have d9' := HAf.out u3 (.slice a3 (j - k) c3) HB7.out; clear hown3 hg3 hat3))
                  all_goals (
                    go_wp2_with fail
                    go_ret2
                    have hr := HFn.out u3 (.slice a3 (0 + (j - k)) c3) HB7.out (by simpa [entCells] using HO3.out)
                    rw [Nat.zero_add] at hr
                    exact ⟨by rw [HRn.out]; rfl, by rw [HRn.out]; exact hr.1, hr.2⟩)
                | some ad =>
                  obtain ⟨gL, rfl⟩ := HShape.out.2 ad rfl
                  have HS3 := Lib.hid (HCut.out K gL rfl hKm)
                  go_upto_region 18 with fail
                  go_region_law (first
                    | (refine step_append_own _ (by rfl) (.const (.slice none 0 0)) (.tmp 130) 22 (by rfl) w.heap.size 51 i0 _ 4 40 Tryz.underlying22 hi hz0 hz1 hz2 (by rfl) (by omega) (.slice none 0 0) 0 [] (by simp [Act.eval]) (World.ownsRow_nil _ _ _ _) ⟨gL, 0, none⟩ K capL (entCells (x.l.take K)) (by simp [Act.eval, Act.put]) HLt.out (HS3.out _ HBj.out.drew) (entCells_one _) (by unfold maxLen; omega) (by omega) HBj.out.drew.size ?_; intro v1 u1 hown1 hg1 hat1; rw [Nat.zero_add, List.nil_append] at hown1; have HO1 := Lib.hid hown1; have HB6 := Lib.hid (HBj.out.drew.grown hg1 HBj.out.drew.size (fun k hk => by cases hk)); obtain ⟨a1, c1, hv1, _⟩ := own_shape hown1; subst hv1; clear hown1 hg1 hat1)
                    | (refine step_append_own _ (by rfl) (.tmp 131) (.tmp 134) 22 (by rfl) w.heap.size 51 i0 _ 4 40 Tryz.underlying22 hi hz0 hz1 hz2 (by rfl) (by omega) (.slice a1 K c1) K (entCells (x.l.take K)) (by simp [Act.eval, Act.put]) HO1.out ⟨g, o + k * 4, none⟩ (j - k) (c - k) (entCells (l.drop k)) (by simp [Act.eval, Act.put]) HLd.out (HS2.out _ HB6.out) (entCells_one _) (by unfold maxLen; omega) (by omega) HB6.out.size ?_; intro v3 u3 hown3 hg3 hat3; have HO3 := Lib.hid hown3; have HB7 := Lib.hid (HB6.out.grown hg3 HB6.out.size (fun k hk => (HO1.out.lt k hk).1)); obtain ⟨a3, c3, hv3, _⟩ := own_shape hown3; subst hv3; obtain ⟨b0', b2', f2'⟩ := HC.out _ HB7.out; have d9 := HAf.out u3 (.slice a3 (K + (j - k)) c3) HB7.out; clear hown3 hg3 hat3))
                  all_goals (
                    go_wp2_with fail
                    go_ret2
                    have hr := HFn.out u3 (.slice a3 (K + (j - k)) c3) HB7.out HO3.out
                    exact ⟨by rw [HRn.out]; rfl, by rw [HRn.out]; exact hr.1, hr.2⟩))
    · obtain rfl : k = n := by omega
      have HRn : Hid (mergeV x prev term keep l = (x, 0, true)) := Lib.hid (by
        have := HSk.out
        rw [List.drop_of_length_le (by rw [HEl.out]; omega), scan] at this
        rw [HSc.out, ← this]; rfl)
      have HS1 := Lib.hid (HSt.out _ HB.out)
      go_wp2_with fail
      go_ret2
      exact ⟨by rw [HRn.out]; rfl, by rw [HRn.out]; exact HS1.out.1, HS1.out.2⟩
end
end Go.Proofs.YtmdidmllaldbaaaGreat
