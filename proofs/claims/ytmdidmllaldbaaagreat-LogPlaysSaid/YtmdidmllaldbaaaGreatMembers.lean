/- The walk of (*rlog.Log).Members: it goes over the entries from the back. -/
import Derived.Test.YtmdidmllaldbaaaGreatBackI
import Derived.Test.YtmdidmllaldbaaaGreatEntM
namespace Go.Proofs.YtmdidmllaldbaaaGreat
open Go.RowKit Go.Shelf
set_option linter.unusedVariables false
attribute [local go_sem] Oper.semAt_some
def hitE (to : Int) (e : Ent) : Prop := e.kd = 2 ∧ e.ix ≤ to ∧ (membersP e.dt.data.toList).2 = 0
/-- What Members answers. -/
def MemsRes (l : List Ent) (to : Int) (B : Nat) (w : World) (e : Ending) (w' : World) : Prop :=
  Below B w w' ∧ ((e = .returned (.tuple #[.slice none 0 0, .int .i64 0]) ∧ ∀ y ∈ l, ¬ hitE to y) ∨
    ∃ (k : Nat) (y : Ent) (ao : Option Addr) (N c : Nat), l[k]? = some y ∧ hitE to y ∧ (∀ (j : Nat) (z : Ent), k < j → l[j]? = some z → ¬ hitE to z) ∧ e = .returned (.tuple #[.slice ao N c, .int .i64 y.ix]) ∧
      w'.ownsRow B 3 1 (.slice ao N c) N ((membersP y.dt.data.toList).1.map (Value.int .i64)) ∧ (membersP y.dt.data.toList).1.length = N)
theorem keepsO_of_below {W W' : World} (h : Below W.heap.size W W') : KeepsOthers W W' :=
  ⟨h.size, fun k o hk ho => by
    have hlt : k < W.heap.size := (Array.getElem?_eq_some_iff.1 hk).1
    exact (h.block k hlt).trans hk⟩
theorem cell_al {W : World} {a : Addr} {v : Value} (o : Obj) (h : W.cell? a = some v) : (W.alloc o).cell? a = some v := cell_kept h (World.grownBy_alloc W o none) (fun r e => by cases e)
theorem row_kept {W W' : World} {row : Option Nat} {base : Nat} {e : TypeId} {size : Nat} {v : Value} {k : Nat} {xs : List Value} (h : W.ownsRow base e size v k xs) (hg : W.grownBy W' row) (hr : ∀ r, row = some r → ∃ o : Obj, W.heap[r]? = some o ∧ o.isCells = false) : W'.ownsRow base e size v k xs := by
  refine h.kept hg ?_
  rcases h.2 with ⟨rfl, _⟩ | ⟨g, cap, cur, rfl, _, hgb, _⟩
  · exact .inl rfl
  · refine .inr fun e' => ?_
    obtain ⟨o, ho, hc⟩ := hr g e'.symm
    rw [hgb] at ho
    cases ho
    cases hc
theorem box_kept {W W' : World} {row : Option Nat} {B : Nat} {vs : Array Value} {t : TypeId} (h : W.heap[B]? = some (.cells vs t (0, 0))) (hg : W.grownBy W' row) (hr : ∀ r, row = some r → ∃ o : Obj, W.heap[r]? = some o ∧ o.isCells = false) : W'.heap[B]? = some (.cells vs t (0, 0)) :=
  (hg.block B (Array.getElem?_eq_some_iff.1 h).1 (fun e => by
    obtain ⟨o, ho, hc⟩ := hr B e.symm
    rw [h] at ho
    cases ho
    cases hc)).trans h
theorem noHit {l : List Ent} {to : Int} {pre : List (IxE l)} {x : IxE l} (h : ∀ y ∈ pre, ¬ hitE to y.1.2) (hx : ¬ hitE to x.1.2) : ∀ y ∈ pre ++ [x], ¬ hitE to y.1.2 := by
  intro y hy
  rcases List.mem_append.1 hy with h1 | h1
  · exact h y h1
  · rw [List.mem_singleton.1 h1]; exact hx
theorem row_mono {W : World} {base b' : Nat} {e : TypeId} {size : Nat} {v : Value} {k : Nat} {xs : List Value} (h : W.ownsRow base e size v k xs) (hb : b' ≤ base) : W.ownsRow b' e size v k xs :=
  ⟨h.1, h.2.imp_right (fun ⟨g, cap, cur, e, hg, r⟩ => ⟨g, cap, cur, e, Nat.le_trans hb hg, r⟩)⟩
theorem row_set {W : World} {base Bq : Nat} {e : TypeId} {size : Nat} {v : Value} {k : Nat} {xs : List Value} (h : W.ownsRow base e size v k xs) (hb : Bq < base) (u : Value) : (W.setCell ⟨Bq, 0, none⟩ u).ownsRow base e size v k xs := by
  refine h.kept (grownBy_setCell' W Bq u) ?_
  rcases h.2 with ⟨rfl, _⟩ | ⟨g, cap, cur, rfl, hg, _⟩
  · exact .inl rfl
  · refine .inr fun e' => ?_
    have : g = Bq := by simpa [Value.ownBlock] using e'
    omega
set_option maxRecDepth 100000 in
set_option maxHeartbeats 4000000 in
theorem members_any {w : World} {B b : Nat} {x : LogV} (h : LogAt w B b x) (to : Int) (hdt : ∀ e ∈ x.l, e.dt.size ≤ 281474976710656) (hlen : x.l.length ≤ 4611686018427387904) :
    Calls Tryz.prog 73 #[.pointer (some ⟨b, 0, none⟩), .int .i64 to] w (MemsRes x.l to w.heap.size w) := by
  obtain ⟨ao, cap, x0, x1, x2, ho, hlt, hn⟩ := h.facts
  have hEn := ents_own ho
  clear ho h x0 x1
  obtain ⟨l, hl⟩ : ∃ l, l = x.l := ⟨_, rfl⟩
  rw [← hl] at x2 hEn hdt hlen ⊢
  clear hl
  obtain ⟨len, hle⟩ : ∃ len, len = l.length := ⟨_, rfl⟩
  rw [← hle] at x2 hEn hlen
  have hLen := Lib.hid hle
  have HEn := Lib.hid hEn
  have HDt := Lib.hid hdt
  clear hle hEn hdt
  refine (callsIn_wide (n := 9)).1 ?_
  have hro : Fence.wide.round = none := rfl
  refine callsIn_of_wp_marks Tryz.func73 rfl trivial ?_ hro
  simp only [Tryz.ntmps73, List.size_toArray, List.length_cons, List.length_nil, Nat.reduceAdd, Nat.reduceSub, Array.replicate_succ, Array.replicate_zero, List.push_toArray, List.append_toArray, List.nil_append, List.cons_append]
  have x3 : (((w.alloc (.cells #[.int .i64 to] 3)).alloc (.cells #[.slice none 0 0] 23)).alloc (.cells #[.int .i64 0] 3)).cell? ⟨b, 2, none⟩ = some (.slice ao len cap) := cell_al _ (cell_al _ (cell_al _ x2))
  gi_wp2_with (refine ⟨trivial, ?_⟩; gi_at_call 187; refine (back_in Fence.wide _ trivial hro _ _ _ _).mono ?_; rintro e w' ⟨rfl, rfl⟩)
  have bT := ((Boxed.new w 3 (.int .i64 to)).alloc (.cells #[.slice none 0 0] 23)).alloc (.cells #[.int .i64 0] 3)
  have bR := (Boxed.new (w.alloc (.cells #[.int .i64 to] 3)) 23 (.slice none 0 0)).alloc (.cells #[.int .i64 0] 3)
  have bI := Boxed.new ((w.alloc (.cells #[.int .i64 to] 3)).alloc (.cells #[.slice none 0 0] 23)) 3 (.int .i64 0)
  have bL := Boxed.new (((w.alloc (.cells #[.int .i64 to] 3)).alloc (.cells #[.slice none 0 0] 23)).alloc (.cells #[.int .i64 0] 3)) 22 (.slice ao len cap)
  replace bT := bT.alloc (.cells #[.slice ao len cap] 22)
  replace bR := bR.alloc (.cells #[.slice ao len cap] 22)
  replace bI := bI.alloc (.cells #[.slice ao len cap] 22)
  simp only [World.size_alloc] at bR bI bL
  have hB0 : Below w.heap.size w ((((w.alloc (.cells #[.int .i64 to] 3)).alloc (.cells #[.slice none 0 0] 23)).alloc (.cells #[.int .i64 0] 3)).alloc (.cells #[.slice ao len cap] 22)) := ((((Below.refl _ w).alloc (Nat.le_refl _) _).alloc (by simp) _).alloc (by simp; omega) _).alloc (by simp; omega) _
  have hsz : ((((w.alloc (.cells #[.int .i64 to] 3)).alloc (.cells #[.slice none 0 0] 23)).alloc (.cells #[.int .i64 0] 3)).alloc (.cells #[.slice ao len cap] 22)).heap.size = w.heap.size + 4 := by simp
  clear x3
  obtain ⟨W0, hW0⟩ : ∃ W0, (((w.alloc (.cells #[.int .i64 to] 3)).alloc (.cells #[.slice none 0 0] 23)).alloc (.cells #[.int .i64 0] 3)).alloc (.cells #[.slice ao len cap] 22) = W0 := ⟨_, rfl⟩
  rw [hW0] at bT bR bI bL hB0 hsz ⊢
  clear hW0
  have hE0 : Ents W0 W0.heap.size ao len l := (HEn.out.below hB0).mono hB0.size
  refine wpIn_rangeFunc_ownH hro (by omega) (gf := 234) (lb := #[.pointer (some ⟨w.heap.size + 1 + 1 + 1, 0, none⟩)]) rfl trivial (enters_of Tryz.func234 (by kernel_rfl) rfl)
    (back_stops Fence.wide _ trivial hro (by omega) (w.heap.size + 1 + 1 + 1) W0.heap.size len cap ao l hlen W0 (by omega) (Nat.le_refl _) bL.cell (by omega) hE0) belowK_t (belowK_b (Nat.le_refl _)) (Below.refl _ _) (fun _ => rfl)
    (fun pre W => (∀ x ∈ pre, ¬ hitE to x.1.2) ∧ Below W0.heap.size W0 W)
    (fun c pre W => (c = .ret ∧ ∃ ini last ao2 N2 c2, pre = ini ++ [last] ∧ (∀ x ∈ ini, ¬ hitE to x.1.2) ∧ hitE to last.1.2 ∧ Boxed W (w.heap.size + 1) 23 (.slice ao2 N2 c2) ∧ Boxed W (w.heap.size + 1 + 1) 3 (.int .i64 last.1.2.ix) ∧
      W.ownsRow w.heap.size 3 1 (.slice ao2 N2 c2) N2 ((membersP last.1.2.dt.data.toList).1.map (Value.int .i64)) ∧ (membersP last.1.2.dt.data.toList).1.length = N2) ∧ Below w.heap.size w W)
    (OwnFrom.and (fun _ _ _ _ hs _ _ => hs) (ownFrom_below (Nat.le_refl _) (Nat.le_refl _)))
    (fun c => OwnFrom.and (Own.from (fun s A B row hs hg hr => by
      obtain ⟨hc, ini, last, ao2, N2, c2, e1, e2, e3, e4, e5, e6, e7⟩ := hs
      exact ⟨hc, ini, last, ao2, N2, c2, e1, e2, e3, box_kept e4 hg hr, box_kept e5 hg hr, row_kept e6 hg hr, e7⟩) _) (ownFrom_below (Nat.le_refl _) (by omega)))
    ⟨fun x hx => (by cases hx), Below.refl _ _⟩
    (fun x a' W => ∃ Bx, W0.heap.size ≤ Bx ∧ W.heap[Bx]? = some (.cells #[.int .i64 x.1.2.ix, .int .i64 x.1.2.tm, .int .i64 x.1.2.kd, .string x.1.2.dt] 51 (0, 0)) ∧ a' = { tmps := #[.pointer (some ⟨b, 0, none⟩), .int .i64 to, undef, .pointer (some ⟨w.heap.size, 0, none⟩), .pointer (some ⟨w.heap.size + 1, 0, none⟩), .pointer (some ⟨w.heap.size + 1 + 1, 0, none⟩), undef, .pointer (some ⟨Bx, 0, none⟩), undef, undef, .pointer (some ⟨b, 0, none⟩), .bool false, .pointer (some ⟨b, 0, none⟩), .pointer (some ⟨b, 0, none⟩), .pointer (some ⟨b, 2, none⟩), .slice ao len cap, .func (.func 234) #[] #[.pointer (some ⟨w.heap.size + 1 + 1 + 1, 0, none⟩)], .int .i64 (x.1.1 : Int), .agg #[.int .i64 x.1.2.ix, .int .i64 x.1.2.tm, .int .i64 x.1.2.kd, .string x.1.2.dt], undef, undef, undef, undef, undef, undef, undef, undef, undef, undef, undef, undef, undef, undef, undef, undef, undef, undef, undef, undef], defers := [] })
    (fun x a' _ X Y row hs hg hr => by
      obtain ⟨Bx, h1, h2, h3⟩ := hs
      exact ⟨Bx, h1, box_kept h2 hg (fun r e => (hr r e).2), h3⟩)
    ?assign ?body ?done ?stop
  case assign =>
    rintro y pre x W K ⟨hp, hB1⟩ hK
    dsimp only [encB]
    gi_wp2
    exact hK _ _ ((KeepsOthers.alloc _ _).from _) ((Below.refl _ W).alloc hB1.size _) ⟨hp, hB1.alloc hB1.size _⟩ ⟨W.heap.size, hB1.size, World.alloc_heap_new W _, rfl⟩
  case body =>
    rintro y pre ⟨⟨ix, en⟩, hix⟩ a' W hy ⟨r, hr⟩ ⟨hp, hB1⟩ ⟨Bx, hBx, bX, rfl⟩ hlt
    dsimp only at bX hix ⊢
    have cX0 : W.cell? ⟨Bx, 0, none⟩ = some (.int .i64 en.ix) := by rw [blk_cell bX]; rfl
    have cX2 : W.cell? ⟨Bx, 2, none⟩ = some (.int .i64 en.kd) := by rw [blk_cell bX]; rfl
    have cX3 : W.cell? ⟨Bx, 3, none⟩ = some (.string en.dt) := by rw [blk_cell bX]; rfl
    have bT1 : Boxed W w.heap.size 3 (.int .i64 to) := (hB1.block _ (by omega)).trans bT
    have bR1 : Boxed W (w.heap.size + 1) 23 (.slice none 0 0) := (hB1.block _ (by omega)).trans bR
    have bI1 : Boxed W (w.heap.size + 1 + 1) 3 (.int .i64 0) := (hB1.block _ (by omega)).trans bI
    have cT := bT1.cell
    have hds := HDt.out en (List.mem_of_getElem? hix)
    have hBw : Below w.heap.size w W := hB0.trans (hB1.mono hB0.size)
    have HB1 := Lib.hid hB1
    have HBw := Lib.hid hBw
    have HP := Lib.hid hp
    have HIX := Lib.hid hix
    have HR := Lib.hid hr
    clear hB1 hBw hp hr bT1
    by_cases hk : en.kd = 2
    · have hkb : (en.kd != 2) = false := by simp [hk]
      by_cases hi : en.ix ≤ to
      · have hib : decide (to < en.ix) = false := by simp; omega
        have hG := getMembers_any en.dt W hds
        obtain ⟨g, q, hgq⟩ : ∃ g q, membersP en.dt.data.toList = (g, q) := ⟨_, _, rfl⟩
        rw [hgq] at hG
        have HG := Lib.hid hG
        have HGQ := Lib.hid hgq
        clear hG hgq
        by_cases hq : q = 0
        · subst hq
          gi_wp2_with (refine ⟨trivial, ?_⟩; gi_at_call 17; refine (CallsIn.inRound y (callsIn_wide.2 HG.out)).mono ?_; rintro e w2 ⟨ao2, N2, c2, rfl, hrow, hN, hbw⟩)
          have dX0 : w2.cell? ⟨Bx, 0, none⟩ = some (.int .i64 en.ix) := (hbw.cell (p := ⟨Bx, 0, none⟩) (blk_lt bX)).trans cX0
          have bR2 : Boxed w2 (w.heap.size + 1) 23 (.slice none 0 0) := (hbw.block _ bR1.lt).trans bR1
          have bI2 : Boxed w2 (w.heap.size + 1 + 1) 3 (.int .i64 0) := (hbw.block _ bI1.lt).trans bI1
          have cR2 := bR2.cell
          have fR2 := bR2.frozen
          have cI2 := bI2.cell
          have fI2 := bI2.frozen
          have HROW := Lib.hid hrow
          have HBW := Lib.hid hbw
          clear hrow hbw
          gi_region
          all_goals gi_wp2
          all_goals
            refine ⟨((keepsO_of_below HBW.out).trans ?_).from _, ⟨rfl, pre, ⟨(ix, en), HIX.out⟩, ao2, N2, c2, rfl, HP.out, ⟨hk, hi, by rw [HGQ.out]⟩, ?_, ?_, ?_, by rw [HGQ.out]; exact hN⟩, (HBw.out.trans (HBW.out.mono HBw.out.size)).trans ?_⟩
            · repeat (first | exact KeepsOthers.refl _ | refine KeepsOthers.trans ?_ (KeepsOthers.setCell _ _ _) | refine KeepsOthers.trans ?_ (KeepsOthers.drew _))
            · first | exact (bR2.set _).other (by omega) _ | exact (bR2.other (by omega) _).set _
            · first | exact (bI2.set _).other (by omega) _ | exact (bI2.other (by omega) _).set _
            · rw [HGQ.out]
              exact row_mono (row_set (row_set HROW.out (by have := bI1.lt; omega) _) (by have := bI1.lt; omega) _) HBw.out.size
            · repeat (first | exact Below.refl _ _ | refine Below.drew ?_ | (refine Below.setCell ?_ (by first | (show w.heap.size ≤ w.heap.size + 1 + 1; omega) | (show w.heap.size ≤ w.heap.size + 1; omega)) _))
        · have hqb : (q == 0) = false := by rw [beq_eq_false_iff_ne]; exact hq
          gi_wp2_with (refine ⟨trivial, ?_⟩; gi_at_call 17; refine (CallsIn.inRound y (callsIn_wide.2 HG.out)).mono ?_; rintro e w2 ⟨ao2, N2, c2, rfl, hrow, hN, hbw⟩)
          refine ⟨(keepsO_of_below hbw).from _, hbw.mono HB1.out.size, ⟨?_, HB1.out.trans (hbw.mono HB1.out.size)⟩⟩
          exact noHit HP.out (fun h => hq (by have h3 := h.2.2; rw [HGQ.out] at h3; exact h3))
      · have hib : decide (to < en.ix) = true := by simp; omega
        have hNH := Lib.hid (noHit (x := ⟨(ix, en), HIX.out⟩) HP.out (fun h => hi h.2.1))
        gi_wp2
        exact ⟨KeepsFrom.refl _ _, Below.refl _ _, by first | exact hNH.out | exact fun a b c hm => hNH.out ⟨(a, b), c⟩ hm, by first | exact HB1.out | (rw [← hsz]; exact HB1.out)⟩
    · have hkb : (en.kd != 2) = true := by simp [hk]
      have hNH := Lib.hid (noHit (x := ⟨(ix, en), HIX.out⟩) HP.out (fun h => hk h.1))
      gi_wp2
      exact ⟨KeepsFrom.refl _ _, Below.refl _ _, by first | exact hNH.out | exact fun a b c hm => hNH.out ⟨(a, b), c⟩ hm, by first | exact HB1.out | (rw [← hsz]; exact HB1.out)⟩
  case done =>
    rintro D ys W hD hall ⟨hp, hB1⟩ hK
    have bR1 : Boxed W (w.heap.size + 1) 23 (.slice none 0 0) := (hB1.block _ (by omega)).trans bR
    have bI1 : Boxed W (w.heap.size + 1 + 1) 3 (.int .i64 0) := (hB1.block _ (by omega)).trans bI
    have cR1 := bR1.cell
    have fR1 := bR1.frozen
    have cI1 := bI1.cell
    have fI1 := bI1.frozen
    have hBw : Below w.heap.size w W := hB0.trans (hB1.mono hB0.size)
    gi_wp2
    have hK' := ((KeepsOthers.setCell W ⟨w.heap.size + 1, 0, none⟩ (.slice none 0 0)).trans (KeepsOthers.setCell _ ⟨w.heap.size + 1 + 1, 0, none⟩ (.int .i64 0))).same D _ hK rfl
    refine ⟨by simp, .inl ⟨_, _, rfl, run_takeDeferred hK', ?_⟩⟩
    have bR2 := (bR1.set (.slice none 0 0)).other (B' := w.heap.size + 1 + 1) (by omega) (.int .i64 0)
    have bI2 := (bI1.other (B' := w.heap.size + 1) (by omega) (.slice none 0 0)).set (.int .i64 0)
    have hc4 := cell_kept bR2.cell (grownBy_putObj' _ D (.deferred none)) (fun r e => by cases e; exact ⟨_, hK', rfl⟩)
    have hc5 := cell_kept bI2.cell (grownBy_putObj' _ D (.deferred none)) (fun r e => by cases e; exact ⟨_, hK', rfl⟩)
    refine ⟨.tuple #[.slice none 0 0, .int .i64 0], ?_, ((hBw.setCell (p := ⟨w.heap.size + 1, 0, none⟩) (by simp) _).setCell (p := ⟨w.heap.size + 1 + 1, 0, none⟩) (by simp; omega) _).trans (belowK_b (w := w) (Nat.le_refl _) _ D _ _ (by omega) hK' rfl rfl), .inl ⟨rfl, ?_⟩⟩
    · simp [results, Tryz.f73, go_sem, hc4, hc5]
    · intro y hy
      obtain ⟨j, hj⟩ := List.getElem?_of_mem hy
      have hjl : j < l.length := (List.getElem?_eq_some_iff.1 hj).1
      obtain ⟨z, hz, hzj⟩ := hall j hjl
      have h1 := z.2
      rw [hzj, hj] at h1
      injection h1 with h1
      rw [h1]
      exact hp z hz
  case stop =>
    rintro D c pre W hD hpre ⟨⟨rfl, ini, last, ao2, N2, c2, e1, e2, e3, e4, e5, e6, e7⟩, hB1⟩ hK
    gi_wp2
    refine ⟨by simp, .inl ⟨_, _, rfl, run_takeDeferred hK, ?_⟩⟩
    have hc4 := cell_kept e4.cell (grownBy_putObj' _ D (.deferred none)) (fun r e => by cases e; exact ⟨_, hK, rfl⟩)
    have hc5 := cell_kept e5.cell (grownBy_putObj' _ D (.deferred none)) (fun r e => by cases e; exact ⟨_, hK, rfl⟩)
    refine ⟨.tuple #[.slice ao2 N2 c2, .int .i64 last.1.2.ix], ?_, hB1.trans (belowK_b (w := w) (Nat.le_refl _) W D _ _ (by omega) hK rfl rfl), .inr ⟨last.1.1, last.1.2, ao2, N2, c2, last.2, e3, ?_, rfl, row_kept e6 (grownBy_putObj' _ D (.deferred none)) (fun r e => by cases e; exact ⟨_, hK, rfl⟩), e7⟩⟩
    · simp [results, Tryz.f73, go_sem, hc4, hc5]
    · intro j z hj hz
      have hjl : j < l.length := (List.getElem?_eq_some_iff.1 hz).1
      obtain ⟨y, hy, hyj⟩ := hpre ini last e1 j hj hjl
      have h1 := y.2
      rw [hyj, hz] at h1
      injection h1 with h1
      rw [h1]
      exact e2 y hy
end Go.Proofs.YtmdidmllaldbaaaGreat
