/- The walk of msg.read. -/
import Derived.Test.YtmdidmllaldbaaaMsgPut
import Derived.Test.YtmdidmllaldbaaaEntG
import Derived.Deep.AppendLies
import Derived.Deep.RegionLaw
namespace Go.Proofs.Ytmdidmllaldbaaa
open Go.RowKit
set_option linter.unusedVariables false
theorem ptrInfoM : (Try.prog.info? 3).map (fun i => (i.zero, i.size, i.bytes)) = some (some (.int .i64 0), 1, 8) := by kernel_rfl
theorem parInfoM : (Try.prog.info? 39).map (fun i => (i.zero, i.size, i.bytes)) = some (some (.agg #[.string ⟨#[]⟩, .string ⟨#[]⟩]), 2, 32) := by kernel_rfl
def msgZ : Array Value := #[.int .i64 0, .int .i64 0, .int .i64 0, .int .i64 0, .int .i64 0, .int .i64 0, .int .i64 0, .int .i64 0, .bool false, .bool false, .slice none 0 0, .slice none 0 0, .int .i64 0, .slice none 0 0]
def rdS (st : RSt) : Nat → RSt
  | 0 => st
  | k + 1 => (rVar (rdS st k)).2
def rdC (st : RSt) : Nat → Array Value
  | 0 => msgZ
  | k + 1 => (rdC st k).setIfInBounds k (.int .i64 (rVar (rdS st k)).1)
theorem rdC_size (st : RSt) (k : Nat) : (rdC st k).size = 14 := by
  induction k with
  | zero => rfl
  | succ k ih => rw [rdC, Array.size_setIfInBounds, ih]
/-- A reader, and the two messages' blocks, along read. -/
structure RdSt (w0 W : World) (B b r0 mb : Nat) (wr : World) (s : RSt) (cs : Array Value) : Prop where
  rs : RS w0 wr B b s
  gr : W.grownBy wr (some b)
  rk : wr.heap[r0]? = some (.cells msgZ 26 (0, 0))
  mbk : wr.heap[mb]? = some (.cells cs 26 (0, 0))
  h0 : W.heap.size ≤ r0
  h1 : r0 < mb
  hb : b < W.heap.size
section
variable {w0 W wr w' : World} {B b r0 mb : Nat} {s s' : RSt} {cs : Array Value}
theorem RdSt.call (h : RdSt w0 W B b r0 mb wr s cs) (hr : RS w0 w' B b s') (hg : wr.grownBy w' (some b)) : RdSt w0 W B b r0 mb w' s' cs :=
  ⟨hr, grown_then h.gr hg (fun k hk => by injection hk with hk; exact .inr hk.symm), (hg.block r0 (blk_lt h.rk) (fun e => by injection e with e; have := h.h0; have := h.hb; omega)).trans h.rk, (hg.block mb (blk_lt h.mbk) (fun e => by injection e with e; have := h.h0; have := h.h1; have := h.hb; omega)).trans h.mbk, h.h0, h.h1, h.hb⟩
theorem RdSt.grown {row : Option Nat} (h : RdSt w0 W B b r0 mb wr s cs) (hg : wr.grownBy w' row) (hrow : ∀ k, row = some k → mb < k) : RdSt w0 W B b r0 mb w' s cs := by
  have e0 := h.h0
  have e1 := h.h1
  have e2 := h.hb
  have hne : ∀ k, k ≤ mb → some k ≠ row := fun k hk e => by have := hrow k e.symm; omega
  have hgw : W.grownBy w' (some b) := grown_then h.gr hg (fun k hk => .inl (by have := hrow k hk; omega))
  exact ⟨h.rs.far hg (fun e => by have := hrow b e; omega) (h.rs.2.1.grown hg h.rs.size (fun k hk => by have := hrow k hk; have := h.rs.2.2; omega)), hgw, (hg.block r0 (blk_lt h.rk) (hne _ (by omega))).trans h.rk, (hg.block mb (blk_lt h.mbk) (hne _ (by omega))).trans h.mbk, e0, e1, e2⟩
theorem RdSt.calm (h : RdSt w0 W B b r0 mb wr s cs) (hb : Below wr.heap.size wr w') : RdSt w0 W B b r0 mb w' s cs :=
  ⟨h.rs.step hb, grown_below h.gr hb, (hb.block r0 (blk_lt h.rk)).trans h.rk, (hb.block mb (blk_lt h.mbk)).trans h.mbk, h.h0, h.h1, h.hb⟩
theorem RdSt.set (h : RdSt w0 W B b r0 mb wr s cs) (i : Nat) (v : Value) : RdSt w0 W B b r0 mb (wr.setCell ⟨mb, i, none⟩ v) s (cs.setIfInBounds i v) := by
  have e0 := h.h0
  have e1 := h.h1
  have e2 := h.hb
  have hg := grown_set wr mb i v
  refine ⟨h.rs.far hg (fun e => by injection e with e; omega) (h.rs.2.1.grown hg h.rs.size (fun k hk => by injection hk with hk; have := h.rs.2.2; omega)), grown_then h.gr hg (fun k hk => by injection hk with hk; exact .inl (by omega)), (hg.block r0 (blk_lt h.rk) (fun e => by injection e with e; omega)).trans h.rk, blk_set h.mbk i v, e0, e1, e2⟩
theorem RdSt.cell (h : RdSt w0 W B b r0 mb wr s cs) (i : Nat) {u : Value} (hu : cs[i]? = some u) : wr.cell? ⟨mb, i, none⟩ = some u := by rw [blk_cell h.mbk]; exact hu
theorem RdSt.rvar (h : RdSt w0 W B b r0 mb wr s cs) (hb : Below wr.heap.size wr w') : Calls Try.prog 30 #[.pointer (some ⟨b, 0, none⟩)] w' fun e w'' => e = .returned (.int .i64 (rVar s).1) ∧ RdSt w0 W B b r0 mb w'' (rVar s).2 cs ∧ w'.grownBy w'' (some b) := by
  refine (h.calm hb).rs.rvar.mono ?_
  rintro e w'' ⟨he, hr, hg⟩
  exact ⟨he, (h.calm hb).call hr hg, hg⟩
theorem RdSt.rbool (h : RdSt w0 W B b r0 mb wr s cs) : Calls Try.prog 31 #[.pointer (some ⟨b, 0, none⟩)] wr fun e w'' => e = .returned (.bool (rBool s).1) ∧ RdSt w0 W B b r0 mb w'' (rBool s).2 cs ∧ wr.grownBy w'' (some b) := by
  refine h.rs.bool.mono ?_
  rintro e w'' ⟨he, hr, hg⟩
  exact ⟨he, h.call hr hg, hg⟩
theorem RdSt.rcount (h : RdSt w0 W B b r0 mb wr s cs) (m : Int) : Calls Try.prog 33 #[.pointer (some ⟨b, 0, none⟩), .int .i64 m] wr fun e w'' => e = .returned (.int .i64 (rCount m s).1) ∧ RdSt w0 W B b r0 mb w'' (rCount m s).2 cs ∧ wr.grownBy w'' (some b) := by
  refine (h.rs.count m).mono ?_
  rintro e w'' ⟨he, hr, hg⟩
  exact ⟨he, h.call hr hg, hg⟩
theorem RdSt.rtext (h : RdSt w0 W B b r0 mb wr s cs) (hb : Below wr.heap.size wr w') (m : Int) : Calls Try.prog 34 #[.pointer (some ⟨b, 0, none⟩), .int .i64 m] w' fun e w'' => e = .returned (.string ⟨(rText m s).1.toArray⟩) ∧ RdSt w0 W B b r0 mb w'' (rText m s).2 cs ∧ w'.grownBy w'' (some b) := by
  refine ((h.calm hb).rs.text m).mono ?_
  rintro e w'' ⟨he, hr, hg⟩
  exact ⟨he, (h.calm hb).call hr hg, hg⟩
end
theorem set14 {w : World} {g : Nat} {t : TypeId} (h : w.heap[g]? = some (.cells msgZ t (0, 0))) (a0 a1 a2 a3 a4 a5 a6 a7 a8 a9 a10 a11 a12 a13 : Value) :
    ((((((((((((((w.setCell ⟨g, 0, none⟩ a0).setCell ⟨g, 1, none⟩ a1).setCell ⟨g, 2, none⟩ a2).setCell ⟨g, 3, none⟩ a3).setCell ⟨g, 4, none⟩ a4).setCell ⟨g, 5, none⟩ a5).setCell ⟨g, 6, none⟩ a6).setCell ⟨g, 7, none⟩ a7).setCell ⟨g, 8, none⟩ a8).setCell ⟨g, 9, none⟩ a9).setCell ⟨g, 10, none⟩ a10).setCell ⟨g, 11, none⟩ a11).setCell ⟨g, 12, none⟩ a12).setCell ⟨g, 13, none⟩ a13).heap[g]? = some (.cells #[a0, a1, a2, a3, a4, a5, a6, a7, a8, a9, a10, a11, a12, a13] t (0, 0)) ∧ w.grownBy ((((((((((((((w.setCell ⟨g, 0, none⟩ a0).setCell ⟨g, 1, none⟩ a1).setCell ⟨g, 2, none⟩ a2).setCell ⟨g, 3, none⟩ a3).setCell ⟨g, 4, none⟩ a4).setCell ⟨g, 5, none⟩ a5).setCell ⟨g, 6, none⟩ a6).setCell ⟨g, 7, none⟩ a7).setCell ⟨g, 8, none⟩ a8).setCell ⟨g, 9, none⟩ a9).setCell ⟨g, 10, none⟩ a10).setCell ⟨g, 11, none⟩ a11).setCell ⟨g, 12, none⟩ a12).setCell ⟨g, 13, none⟩ a13) (some g) := by
  constructor
  · have h1 := blk_set h 0 a0
    have h2 := blk_set h1 1 a1
    have h3 := blk_set h2 2 a2
    have h4 := blk_set h3 3 a3
    have h5 := blk_set h4 4 a4
    have h6 := blk_set h5 5 a5
    have h7 := blk_set h6 6 a6
    have h8 := blk_set h7 7 a7
    have h9 := blk_set h8 8 a8
    have h10 := blk_set h9 9 a9
    have h11 := blk_set h10 10 a10
    have h12 := blk_set h11 11 a11
    have h13 := blk_set h12 12 a12
    have h14 := blk_set h13 13 a13
    simp only [msgZ, List.setIfInBounds_toArray, List.set_cons_succ, List.set_cons_zero] at h14
    exact h14
  · have g1 := grown_set w g 0 a0
    have g2 := g1.trans (grown_set _ g 1 a1)
    have g3 := g2.trans (grown_set _ g 2 a2)
    have g4 := g3.trans (grown_set _ g 3 a3)
    have g5 := g4.trans (grown_set _ g 4 a4)
    have g6 := g5.trans (grown_set _ g 5 a5)
    have g7 := g6.trans (grown_set _ g 6 a6)
    have g8 := g7.trans (grown_set _ g 7 a7)
    have g9 := g8.trans (grown_set _ g 8 a8)
    have g10 := g9.trans (grown_set _ g 9 a9)
    have g11 := g10.trans (grown_set _ g 10 a10)
    have g12 := g11.trans (grown_set _ g 11 a11)
    have g13 := g12.trans (grown_set _ g 12 a12)
    have g14 := g13.trans (grown_set _ g 13 a13)
    exact g14
theorem msgCells {W : World} {g : Nat} {a0 a1 a2 a3 a4 a5 a6 a7 a8 a9 a10 a11 a12 a13 : Value} {t : TypeId} (h : W.heap[g]? = some (.cells #[a0, a1, a2, a3, a4, a5, a6, a7, a8, a9, a10, a11, a12, a13] t (0, 0))) :
    W.cell? ⟨g, 0, none⟩ = some a0 ∧ W.cell? ⟨g, 1, none⟩ = some a1 ∧ W.cell? ⟨g, 2, none⟩ = some a2 ∧ W.cell? ⟨g, 3, none⟩ = some a3 ∧ W.cell? ⟨g, 4, none⟩ = some a4 ∧ W.cell? ⟨g, 5, none⟩ = some a5 ∧ W.cell? ⟨g, 6, none⟩ = some a6 ∧ W.cell? ⟨g, 7, none⟩ = some a7 ∧ W.cell? ⟨g, 8, none⟩ = some a8 ∧ W.cell? ⟨g, 9, none⟩ = some a9 ∧ W.cell? ⟨g, 10, none⟩ = some a10 ∧ W.cell? ⟨g, 11, none⟩ = some a11 ∧ W.cell? ⟨g, 12, none⟩ = some a12 ∧ W.cell? ⟨g, 13, none⟩ = some a13 := by
  refine ⟨?_, ?_, ?_, ?_, ?_, ?_, ?_, ?_, ?_, ?_, ?_, ?_, ?_, ?_⟩ <;> rw [blk_cell h] <;> rfl
/-- The lists of a message that was read lie in rows of their own. -/
structure MsgOwn (W : World) (base : Nat) (m : MsgR) : Prop where
  es : W.ownsRow base 41 4 (.slice m.eo m.en m.ec) m.en (entCells m.v.es)
  ms : W.ownsRow base 3 1 (.slice m.mo m.mn m.mc) m.mn (m.v.ms.map (Value.int .i64))
  ps : W.ownsRow base 39 2 (.slice m.po m.pn m.pc) m.pn (parCells m.v.ps)
  el : m.v.es.length = m.en
  ml : m.v.ms.length = m.mn
  pl : m.v.ps.length = m.pn
theorem ptrs8 (mb k : Nat) (hk : k < 8) : (#[.pointer (some ⟨mb, 0, none⟩), .pointer (some ⟨mb, 1, none⟩), .pointer (some ⟨mb, 2, none⟩), .pointer (some ⟨mb, 3, none⟩), .pointer (some ⟨mb, 4, none⟩), .pointer (some ⟨mb, 5, none⟩), .pointer (some ⟨mb, 6, none⟩), .pointer (some ⟨mb, 7, none⟩)] : Array Value)[k]? = some (.pointer (some ⟨mb, k, none⟩)) := by
  rcases (show k = 0 ∨ k = 1 ∨ k = 2 ∨ k = 3 ∨ k = 4 ∨ k = 5 ∨ k = 6 ∨ k = 7 by omega) with rfl | rfl | rfl | rfl | rfl | rfl | rfl | rfl <;> rfl
theorem own_ne2 {w : World} {base base' : Nat} {t t' : TypeId} {s s' n n' : Nat} {v v' : Value} {xs xs' : List Value} (h : w.ownsRow base t s v n xs) (h' : w.ownsRow base' t' s' v' n' xs') (hT : t ≠ t') : v.ownBlock = none ∨ v.ownBlock ≠ v'.ownBlock := by
  rcases h.2 with ⟨rfl, _⟩ | ⟨g, cap, cur, rfl, _, hg, _⟩
  · exact .inl rfl
  · refine .inr (fun he => ?_)
    rcases h'.2 with ⟨rfl, _⟩ | ⟨g', cap', cur', rfl, _, hg', _⟩
    · cases he
    · have hgg : g = g' := by simpa [Value.ownBlock] using he
      subst hgg
      rw [hg] at hg'
      injection hg' with hg'
      injection hg' with _ h2
      exact hT h2
theorem own_lowM {w : World} {base base' : Nat} {e : TypeId} {size n : Nat} {v : Value} {xs : List Value} (h : w.ownsRow base e size v n xs) (hb : base' ≤ base) : w.ownsRow base' e size v n xs := by
  rcases h with ⟨hl, h | ⟨g, cap, cur, hv, hg, hr⟩⟩
  · exact ⟨hl, .inl h⟩
  · exact ⟨hl, .inr ⟨g, cap, cur, hv, by omega, hr⟩⟩
set_option maxRecDepth 20000 in
set_option maxHeartbeats 8000000 in
theorem mread_any {w0 W : World} {B b : Nat} {st : RSt} (hR : RS w0 W B b st) :
    Calls Try.prog 24 #[.pointer (some ⟨b, 0, none⟩)] W fun e w' => ∃ m : MsgR, e = .returned m.agg ∧ m.v = (readMsg st).1 ∧ MsgOwn w' W.heap.size m ∧ RS w0 w' B b (readMsg st).2 ∧ W.grownBy w' (some b) := by
  obtain ⟨r0, hr0⟩ : ∃ r, W.heap.size = r := ⟨_, rfl⟩
  have HR0 := Lib.hid hr0
  have HS0 : Hid (RdSt w0 W B b r0 (r0 + 1) ((W.alloc (.cells #[.int .i64 0, .int .i64 0, .int .i64 0, .int .i64 0, .int .i64 0, .int .i64 0, .int .i64 0, .int .i64 0, .bool false, .bool false, .slice none 0 0, .slice none 0 0, .int .i64 0, .slice none 0 0] 26)).alloc (.cells #[.int .i64 0, .int .i64 0, .int .i64 0, .int .i64 0, .int .i64 0, .int .i64 0, .int .i64 0, .int .i64 0, .bool false, .bool false, .slice none 0 0, .slice none 0 0, .int .i64 0, .slice none 0 0] 26)) st (rdC st 0)) := Lib.hid
    ⟨(hR.alloc _).alloc _, grown_below (grown_below (grown_refl _ _) ((Below.refl _ _).alloc (Nat.le_refl _) _)) ((Below.refl _ _).alloc (Nat.le_refl _) _), old_at _ _ _ _ (new_at _ _ _ hr0.symm), new_at _ _ _ (by simp [hr0]), by omega, by omega, hR.1.lt⟩
  clear hR hr0
  go_enter Try.func24, Try.ntmps24
  go_upto_region 2 with fail
  rw [HR0.out]
  generalize ((W.alloc (.cells #[.int .i64 0, .int .i64 0, .int .i64 0, .int .i64 0, .int .i64 0, .int .i64 0, .int .i64 0, .int .i64 0, .bool false, .bool false, .slice none 0 0, .slice none 0 0, .int .i64 0, .slice none 0 0] 26)).alloc (.cells #[.int .i64 0, .int .i64 0, .int .i64 0, .int .i64 0, .int .i64 0, .int .i64 0, .int .i64 0, .int .i64 0, .bool false, .bool false, .slice none 0 0, .slice none 0 0, .int .i64 0, .slice none 0 0] 26)) = W1 at HS0 ⊢
  generalize r0 + 1 = mb at HS0 ⊢
  obtain ⟨pb, hpb⟩ : ∃ p, p = W1.heap.size := ⟨_, rfl⟩
  have HPb : Hid ((W1.alloc (.cells #[.pointer (some ⟨mb, 0, none⟩), .pointer (some ⟨mb, 1, none⟩), .pointer (some ⟨mb, 2, none⟩), .pointer (some ⟨mb, 3, none⟩), .pointer (some ⟨mb, 4, none⟩), .pointer (some ⟨mb, 5, none⟩), .pointer (some ⟨mb, 6, none⟩), .pointer (some ⟨mb, 7, none⟩)] 73)).heap[pb]? = some (.cells #[.pointer (some ⟨mb, 0, none⟩), .pointer (some ⟨mb, 1, none⟩), .pointer (some ⟨mb, 2, none⟩), .pointer (some ⟨mb, 3, none⟩), .pointer (some ⟨mb, 4, none⟩), .pointer (some ⟨mb, 5, none⟩), .pointer (some ⟨mb, 6, none⟩), .pointer (some ⟨mb, 7, none⟩)] 73 (0, 0))) := Lib.hid (new_at _ _ _ hpb)
  have HS1 := Lib.hid (HS0.out.calm ((Below.refl _ W1).alloc (Nat.le_refl _) (.cells #[.pointer (some ⟨mb, 0, none⟩), .pointer (some ⟨mb, 1, none⟩), .pointer (some ⟨mb, 2, none⟩), .pointer (some ⟨mb, 3, none⟩), .pointer (some ⟨mb, 4, none⟩), .pointer (some ⟨mb, 5, none⟩), .pointer (some ⟨mb, 6, none⟩), .pointer (some ⟨mb, 7, none⟩)] 73)))
  have hmp : mb < pb := by rw [hpb]; exact blk_lt HS0.out.mbk
  have HPq := Lib.hid hpb
  clear hpb HS0
  go_wp2_with fail
  rw [← HPq.out]
  go_loopw [16] (fun i wr => ∃ k : Nat, k ≤ 8 ∧ i = .int .i64 k ∧ Hid (RdSt w0 W B b r0 mb wr (rdS st k) (rdC st k)) ∧ Hid (wr.heap[pb]? = some (.cells #[.pointer (some ⟨mb, 0, none⟩), .pointer (some ⟨mb, 1, none⟩), .pointer (some ⟨mb, 2, none⟩), .pointer (some ⟨mb, 3, none⟩), .pointer (some ⟨mb, 4, none⟩), .pointer (some ⟨mb, 5, none⟩), .pointer (some ⟨mb, 6, none⟩), .pointer (some ⟨mb, 7, none⟩)] 73 (0, 0)))) (fun i _ => 8 - (intOf i).toNat)
  case atStart => exact ⟨0, by omega, rfl, HS1, HPb⟩
  case round =>
    obtain ⟨k, hk, rfl, HS, HP⟩ := hrel
    by_cases hlt : k < 8
    · have hd1 : decide ((k : Int) < 8) = true := by simp; omega
      have hp := (blk_cell HP.out k).trans (ptrs8 mb k hlt)
      have hx1 : (0 : Int) ≤ k := by omega
      have hx2 : (k : Int) < 8 := by omega
      obtain ⟨s, hs⟩ : ∃ s, s = rdS st k := ⟨_, rfl⟩
      have HV := Lib.hid (HS.out.rvar (Below.refl _ _))
      rw [← hs] at HV
      have HSk := Lib.hid hs
      clear hs
      go_wp2_with fail
      refine HV.out.mono ?_
      rintro e w2 ⟨rfl, h2, hg2⟩
      have HP2 := Lib.hid ((hg2.block pb (blk_lt HP.out) (fun e => by injection e with e; have := HS.out.h0; have := HS.out.h1; have := HS.out.hb; omega)).trans HP.out)
      obtain ⟨u, hu⟩ : ∃ u, (rdC st k)[k]? = some u := ⟨_, Array.getElem?_eq_getElem (by rw [rdC_size]; omega)⟩
      have c0 := h2.cell k hu
      have f0 := blk_frozen h2.mbk k
      have HS2 : Hid (RdSt w0 W B b r0 mb (w2.setCell ⟨mb, k, none⟩ (.int .i64 (rVar s).1)) (rdS st (k + 1)) (rdC st (k + 1))) := Lib.hid (by
        have h := h2.set k (.int .i64 (rVar s).1)
        rw [HSk.out] at h ⊢
        exact h)
      have HP3 := Lib.hid (((grown_set w2 mb k (.int .i64 (rVar s).1)).block pb (blk_lt HP2.out) (fun e => by injection e with e; omega)).trans HP2.out)
      clear h2 hg2 hu hp HV HP2
      go_wp2_with fail
      go_roundw
      case rel => exact ⟨k + 1, by omega, by go_num, HS2, HP3⟩
      case measure => simp [intOf] <;> omega
    · obtain rfl : k = 8 := by omega
      have hd1 : decide (((8 : Nat) : Int) < 8) = false := by simp
      obtain ⟨v0, v1, v2, v3, v4, v5, v6, v7, s8, hC, hS8, hRM⟩ : ∃ (v0 v1 v2 v3 v4 v5 v6 v7 : Int) (s8 : RSt), rdC st 8 = #[.int .i64 v0, .int .i64 v1, .int .i64 v2, .int .i64 v3, .int .i64 v4, .int .i64 v5, .int .i64 v6, .int .i64 v7, .bool false, .bool false, .slice none 0 0, .slice none 0 0, .int .i64 0, .slice none 0 0] ∧ rdS st 8 = s8 ∧ readMsg st = (⟨v0, v1, v2, v3, v4, v5, v6, v7, (rBool s8).1, (rBool (rBool s8).2).1, (readTail (rBool (rBool s8).2).2).1.1, (readTail (rBool (rBool s8).2).2).1.2.1, (readTail (rBool (rBool s8).2).2).1.2.2.1, (readTail (rBool (rBool s8).2).2).1.2.2.2⟩, (readTail (rBool (rBool s8).2).2).2) :=
        ⟨(rVar (rdS st 0)).1, (rVar (rdS st 1)).1, (rVar (rdS st 2)).1, (rVar (rdS st 3)).1, (rVar (rdS st 4)).1, (rVar (rdS st 5)).1, (rVar (rdS st 6)).1, (rVar (rdS st 7)).1, rdS st 8, by simp [rdC, msgZ], rfl, rfl⟩
      rw [hC, hS8] at HS
      have HRM := Lib.hid hRM
      clear hC hS8 hRM HS1 HPb HPq HP
      obtain ⟨q1, hq1⟩ : ∃ q, q = rBool s8 := ⟨_, rfl⟩
      obtain ⟨q2, hq2⟩ : ∃ q, q = rBool q1.2 := ⟨_, rfl⟩
      rw [← hq1, ← hq2] at HRM
      have HB1 := Lib.hid HS.out.rbool
      rw [← hq1] at HB1
      have HQ2 := Lib.hid hq2
      clear hq1 hq2
      go_wp2_with fail
      refine HB1.out.mono ?_
      rintro e w2 ⟨rfl, h2, -⟩
      have HB2 := Lib.hid h2.rbool
      rw [← HQ2.out] at HB2
      clear h2 HB1
      go_wp2_with fail
      refine HB2.out.mono ?_
      rintro e w3 ⟨rfl, h3, -⟩
      have c8 := h3.cell 8 rfl
      have c9 := h3.cell 9 rfl
      have f8 := blk_frozen h3.mbk 8
      have f9 := blk_frozen h3.mbk 9
      have h4 := (h3.set 8 (.bool q1.1)).set 9 (.bool q2.1)
      simp only [List.setIfInBounds_toArray, List.set_cons_succ, List.set_cons_zero] at h4
      have HG4 := Lib.hid (get_any h4.rs)
      have HS4 := Lib.hid h4
      obtain ⟨pr, hpr⟩ : ∃ pr, pr = getAll q2.2 := ⟨_, rfl⟩
      unfold GetRes at HG4
      rw [← hpr] at HG4
      have HPr := Lib.hid hpr
      clear h3 h4 HB2 hpr HS
      go_wp2_with fail
      refine HG4.out.mono ?_
      rintro e w5 ⟨aoE, NE, cE, rfl, hoE, hlE, R5, hg5⟩
      have h5 := HS4.out.call R5 hg5
      have c10 := h5.cell 10 rfl
      have f10 := blk_frozen h5.mbk 10
      have h6 := h5.set 10 (.slice aoE NE cE)
      simp only [List.setIfInBounds_toArray, List.set_cons_succ, List.set_cons_zero] at h6
      have HE6 : Hid ((w5.setCell ⟨mb, 10, none⟩ (.slice aoE NE cE)).ownsRow (mb + 1) 41 4 (.slice aoE NE cE) NE (entCells pr.1)) := Lib.hid (own_far (own_lowM hoE (by have := blk_lt HS4.out.mbk; omega)) (grown_set _ _ _ _) (by omega))
      have HC6 := Lib.hid (h6.rcount 9)
      have hq9 := rCount_range 9 pr.2 (by decide)
      obtain ⟨q, hq⟩ : ∃ q, q = rCount 9 pr.2 := ⟨_, rfl⟩
      rw [← hq] at HC6 hq9
      obtain ⟨n, hn⟩ : ∃ n : Nat, q.1 = n := ⟨q.1.toNat, by omega⟩
      rw [hn] at HC6
      have HQ9 := Lib.hid hq
      have HN9 := Lib.hid hn
      have hn9 : n ≤ 9 := by omega
      clear h5 h6 hoE R5 hg5 hq hn HS4 HG4 hq9
      go_wp2_with fail
      refine HC6.out.mono ?_
      rintro e w7 ⟨rfl, h7, hg7⟩
      have HS7 := Lib.hid h7
      have HE7 := Lib.hid (own_far HE6.out hg7 (by have := h7.h0; have := h7.h1; have := h7.hb; omega))
      clear h7 hg7 HC6 HE6 c8 c9 f8 f9 c10 f10
      obtain ⟨i0, hi, hz0, hz1, hz2⟩ := info_parts ptrInfoM
      have HI := Lib.hid (And.intro hi (And.intro hz0 (And.intro hz1 hz2)))
      clear hi hz0 hz1 hz2
      go_wp2_with fail
      go_loopw [36] (fun i wr => ∃ (k : Nat) (acc : List Int) (ao : Option Addr) (c : Nat) (s : RSt), k ≤ n ∧ i = .int .i64 k ∧ Hid (RdSt w0 W B b r0 mb wr s #[.int .i64 v0, .int .i64 v1, .int .i64 v2, .int .i64 v3, .int .i64 v4, .int .i64 v5, .int .i64 v6, .int .i64 v7, .bool q1.1, .bool q2.1, .slice aoE NE cE, .slice ao k c, .int .i64 0, .slice none 0 0]) ∧ Hid (wr.ownsRow (mb + 1) 3 1 (.slice ao k c) k (acc.map (Value.int .i64))) ∧ Hid (acc.length = k) ∧ Hid (getMs (n - k) s acc = getMs n q.2 []) ∧ Hid (wr.ownsRow (mb + 1) 41 4 (.slice aoE NE cE) NE (entCells pr.1))) (fun i _ => n - (intOf i).toNat)
      case atStart => exact ⟨0, [], none, 0, q.2, Nat.zero_le _, rfl, HS7, Lib.hid (World.ownsRow_nil _ _ _ _), rfl, rfl, HE7⟩
      case round =>
        obtain ⟨k, acc, ao, c, s, hk, rfl, HS, HO, HLn, HG, HE⟩ := hrel
        by_cases hlt : k < n
        · have hd2 : decide (k < n) = true := by simpa using hlt
          have hd2' : decide ((k : Int) < (n : Int)) = true := by simp; omega
          have hG := HG.out
          rw [show n - k = (n - (k + 1)) + 1 from by omega, getMs] at hG
          have HG' := Lib.hid hG
          obtain ⟨a, ha⟩ : ∃ a, a = rVar s := ⟨_, rfl⟩
          have HV := Lib.hid (fun (W' : World) (hb : Below wr.heap.size wr W') => HS.out.rvar hb)
          rw [← ha] at HG'
          have HV : Hid (∀ W', Below wr.heap.size wr W' → Calls Try.prog 30 #[.pointer (some ⟨b, 0, none⟩)] W' fun e w'' => e = .returned (.int .i64 a.1) ∧ RdSt w0 W B b r0 mb w'' a.2 #[.int .i64 v0, .int .i64 v1, .int .i64 v2, .int .i64 v3, .int .i64 v4, .int .i64 v5, .int .i64 v6, .int .i64 v7, .bool q1.1, .bool q2.1, .slice aoE NE cE, .slice ao k c, .int .i64 0, .slice none 0 0] ∧ W'.grownBy w'' (some b)) := Lib.hid (by rw [ha]; exact HV.out)
          have c11 := HS.out.cell 11 rfl
          have hbm : b < mb + 1 := by have := HS.out.h0; have := HS.out.h1; have := HS.out.hb; omega
          clear hG ha
          go_wp2_with fail
          go_region_law (first
            | (refine step_append_lies _ (by rfl) (.tmp 39) (.tmp 42) 23 (by rfl) (mb + 1) 3 i0 _ 1 8 Try.underlying23 HI.out.1 HI.out.2.1 HI.out.2.2.1 HI.out.2.2.2 (by rfl) (by omega) (.slice ao k c) k (acc.map (Value.int .i64)) (by rfl) (own_below HO2.out ((Below.refl _ w2).alloc (Nat.le_refl _) _)) ⟨w2.heap.size, 0, none⟩ 1 1 [.int .i64 a.1] (by rfl) (by rfl) (World.news_of_block (new_at _ _ _ rfl)) (by simp [Value.oneCell']) (by omega) (by unfold maxLen; omega) (by omega) (by have := blk_lt H2.out.mbk; simp; omega) _ rfl ?_; intro g cap3 w3 hown3 hg3 hat3 hlt3; have HS3 := Lib.hid ((H2.out.calm ((Below.refl _ w2).alloc (Nat.le_refl _) (.cells #[.int .i64 a.1] 3))).grown hg3 (fun k' hk' => by have := (HO2.out.lt k' hk').1; omega)); have hcc := HS3.out.cell 11 rfl; have hff := blk_frozen HS3.out.mbk 11; have HO3 := Lib.hid hown3; have HE3 := Lib.hid ((own_below HE2.out ((Below.refl _ w2).alloc (Nat.le_refl _) (.cells #[.int .i64 a.1] 3))).kept hg3 (own_ne2 HE2.out HO2.out (by decide))); clear hown3 hg3 hat3 hlt3)
            | (go_simp; go_at_call 30; refine (HV.out _ (by repeat (with_reducible (first | exact Below.refl _ _ | refine Below.drew ?_)))).mono ?_; rintro e' w2 ⟨rfl, h2, hg2⟩; have hc2 := h2.cell 11 rfl; have hc2a : ∀ o, (w2.alloc o).cell? ⟨mb, 11, none⟩ = some (.slice ao k c) := fun o => (h2.calm ((Below.refl _ w2).alloc (Nat.le_refl _) o)).cell 11 rfl; have HO2 := Lib.hid (own_far (own_below HO.out (by repeat (with_reducible (first | exact Below.refl _ _ | refine Below.drew ?_)))) hg2 hbm); have HE2 := Lib.hid (own_far (own_below HE.out (by repeat (with_reducible (first | exact Below.refl _ _ | refine Below.drew ?_)))) hg2 hbm); have H2 := Lib.hid h2; clear h2 hg2))
          all_goals (
            have h8 := HS3.out.set 11 (.slice (some ⟨g, 0, none⟩) (k + 1) cap3)
            simp only [List.setIfInBounds_toArray, List.set_cons_succ, List.set_cons_zero] at h8
            have HS8 := Lib.hid h8
            have HO8 := Lib.hid (own_far HO3.out (grown_set w3 mb 11 (.slice (some ⟨g, 0, none⟩) (k + 1) cap3)) (by omega))
            have HE8 := Lib.hid (own_far HE3.out (grown_set w3 mb 11 (.slice (some ⟨g, 0, none⟩) (k + 1) cap3)) (by omega))
            clear h8
            go_wp2_with fail
            go_roundw
            case rel => exact ⟨k + 1, acc ++ [a.1], some ⟨g, 0, none⟩, cap3, a.2, by omega, by go_num, HS8, Lib.hid (by rw [List.map_append]; exact HO8.out), Lib.hid (by rw [List.length_append, HLn.out]; rfl), HG', HE8⟩
            case measure => simp [intOf] <;> omega)
        · obtain rfl : k = n := by omega
          have hd2 : decide (k < k) = false := by simp
          have hd2' : decide ((k : Int) < (k : Int)) = false := by simp
          have hG := HG.out
          rw [Nat.sub_self, getMs] at hG
          have HG' := Lib.hid hG
          have HV := Lib.hid (HS.out.rvar (Below.refl _ _))
          obtain ⟨fo, hfo⟩ : ∃ a, a = rVar s := ⟨_, rfl⟩
          rw [← hfo] at HV
          have HFo := Lib.hid hfo
          clear hG hfo
          go_wp2_with fail
          refine HV.out.mono ?_
          rintro e w8 ⟨rfl, h8, hg8⟩
          have hbm : b < mb + 1 := by have := HS.out.h0; have := HS.out.h1; have := HS.out.hb; omega
          have c12 := h8.cell 12 rfl
          have f12 := blk_frozen h8.mbk 12
          have h9 := h8.set 12 (.int .i64 fo.1)
          simp only [List.setIfInBounds_toArray, List.set_cons_succ, List.set_cons_zero] at h9
          have HE9 := Lib.hid (own_far (own_far HE.out hg8 hbm) (grown_set w8 mb 12 (.int .i64 fo.1)) (by omega))
          have HM9 := Lib.hid (own_far (own_far HO.out hg8 hbm) (grown_set w8 mb 12 (.int .i64 fo.1)) (by omega))
          have HC9 := Lib.hid (h9.rcount 50)
          have hq5 := rCount_range 50 fo.2 (by decide)
          obtain ⟨qp, hqp⟩ : ∃ q, q = rCount 50 fo.2 := ⟨_, rfl⟩
          rw [← hqp] at HC9 hq5
          obtain ⟨np, hnp⟩ : ∃ n : Nat, qp.1 = n := ⟨qp.1.toNat, by omega⟩
          rw [hnp] at HC9
          have HQp := Lib.hid hqp
          have HNp := Lib.hid hnp
          have hn5 : np ≤ 50 := by omega
          clear h8 h9 hg8 hq5 hqp hnp HV HS HO HE
          go_wp2_with fail
          refine HC9.out.mono ?_
          rintro e w10 ⟨rfl, h10, hg10⟩
          have HS10 := Lib.hid h10
          have HE10 := Lib.hid (own_far HE9.out hg10 hbm)
          have HM10 := Lib.hid (own_far HM9.out hg10 hbm)
          clear h10 hg10 HC9 HE9 HM9 c12 f12
          obtain ⟨i1, hi, hz0, hz1, hz2⟩ := info_parts parInfoM
          have HIp := Lib.hid (And.intro hi (And.intro hz0 (And.intro hz1 hz2)))
          clear hi hz0 hz1 hz2
          go_wp2_with fail
          go_loopw [51] (fun i wr => ∃ (j : Nat) (acp : List Par) (po : Option Addr) (d : Nat) (s : RSt), j ≤ np ∧ i = .int .i64 j ∧ Hid (RdSt w0 W B b r0 mb wr s #[.int .i64 v0, .int .i64 v1, .int .i64 v2, .int .i64 v3, .int .i64 v4, .int .i64 v5, .int .i64 v6, .int .i64 v7, .bool q1.1, .bool q2.1, .slice aoE NE cE, .slice ao k c, .int .i64 fo.1, .slice po j d]) ∧ Hid (wr.ownsRow (mb + 1) 39 2 (.slice po j d) j (parCells acp)) ∧ Hid (acp.length = j) ∧ Hid (getPairs (np - j) s acp = getPairs np qp.2 []) ∧ Hid (wr.ownsRow (mb + 1) 41 4 (.slice aoE NE cE) NE (entCells pr.1)) ∧ Hid (wr.ownsRow (mb + 1) 3 1 (.slice ao k c) k (acc.map (Value.int .i64)))) (fun i _ => np - (intOf i).toNat)
          case atStart => exact ⟨0, [], none, 0, qp.2, Nat.zero_le _, rfl, HS10, Lib.hid (World.ownsRow_nil _ _ _ _), rfl, rfl, HE10, HM10⟩
          case round =>
            obtain ⟨j, acp, po, d, s, hj, rfl, HS, HO, HLp, HGp, HE, HM⟩ := hrel
            by_cases hlt : j < np
            · have hd2 : decide (j < np) = true := by simpa using hlt
              have hd2' : decide ((j : Int) < (np : Int)) = true := by simp; omega
              have hG := HGp.out
              rw [show np - j = (np - (j + 1)) + 1 from by omega, getPairs] at hG
              have hl1 := rText_len 41 s
              obtain ⟨t1, ht1⟩ : ∃ a, a = rText 41 s := ⟨_, rfl⟩
              have hl2 := rText_len 2000 t1.2
              obtain ⟨t2, ht2⟩ : ∃ a, a = rText 2000 t1.2 := ⟨_, rfl⟩
              have hgp : getPair s = (⟨⟨t1.1.toArray⟩, ⟨t2.1.toArray⟩⟩, t2.2) := by unfold getPair; rw [ht2, ht1]
              rw [hgp] at hG
              have HG' := Lib.hid hG
              rw [← ht1] at hl1
              rw [← ht2] at hl2
              have HT1 : Hid (∀ W', Below wr.heap.size wr W' → Calls Try.prog 34 #[.pointer (some ⟨b, 0, none⟩), .int .i64 41] W' fun e w'' => e = .returned (.string ⟨t1.1.toArray⟩) ∧ RdSt w0 W B b r0 mb w'' t1.2 #[.int .i64 v0, .int .i64 v1, .int .i64 v2, .int .i64 v3, .int .i64 v4, .int .i64 v5, .int .i64 v6, .int .i64 v7, .bool q1.1, .bool q2.1, .slice aoE NE cE, .slice ao k c, .int .i64 fo.1, .slice po j d] ∧ W'.grownBy w'' (some b)) := Lib.hid (by rw [ht1]; exact fun W' hb => HS.out.rtext hb 41)
              have HT2 : Hid (∀ w3, RdSt w0 W B b r0 mb w3 t1.2 #[.int .i64 v0, .int .i64 v1, .int .i64 v2, .int .i64 v3, .int .i64 v4, .int .i64 v5, .int .i64 v6, .int .i64 v7, .bool q1.1, .bool q2.1, .slice aoE NE cE, .slice ao k c, .int .i64 fo.1, .slice po j d] → ∀ W', Below w3.heap.size w3 W' → Calls Try.prog 34 #[.pointer (some ⟨b, 0, none⟩), .int .i64 2000] W' fun e w'' => e = .returned (.string ⟨t2.1.toArray⟩) ∧ RdSt w0 W B b r0 mb w'' t2.2 #[.int .i64 v0, .int .i64 v1, .int .i64 v2, .int .i64 v3, .int .i64 v4, .int .i64 v5, .int .i64 v6, .int .i64 v7, .bool q1.1, .bool q2.1, .slice aoE NE cE, .slice ao k c, .int .i64 fo.1, .slice po j d] ∧ W'.grownBy w'' (some b)) := Lib.hid (by rw [ht2]; exact fun w3 h3 W' hb => h3.rtext hb 2000)
              have c13 := HS.out.cell 13 rfl
              clear hG ht1 ht2 hgp
              go_wp2_with fail
              go_region_law (first
                | (refine step_append_lies _ (by rfl) (.tmp 54) (.tmp 62) 24 (by rfl) (mb + 1) 39 i1 _ 2 32 Try.underlying24 HIp.out.1 HIp.out.2.1 HIp.out.2.2.1 HIp.out.2.2.2 (by rfl) (by omega) (.slice po j d) j (parCells acp) (by rfl) (own_below HO5.out ((Below.refl _ w5).alloc (Nat.le_refl _) _)) ⟨w5.heap.size, 0, none⟩ 1 1 [.string ⟨t1.1.toArray⟩, .string ⟨t2.1.toArray⟩] (by rfl) (by rfl) (World.news_of_block (new_at _ _ _ rfl)) (by simp [Value.oneCell']) (by omega) (by unfold maxLen; omega) (by omega) (by have := blk_lt H5.out.mbk; simp; omega) _ rfl ?_; intro g cap3 w6 hown3 hg3 hat3 hlt3; have HS6 := Lib.hid ((H5.out.calm ((Below.refl _ w5).alloc (Nat.le_refl _) (.cells #[.string ⟨t1.1.toArray⟩, .string ⟨t2.1.toArray⟩] 39))).grown hg3 (fun k' hk' => by have := (HO5.out.lt k' hk').1; omega)); have hcc := HS6.out.cell 13 rfl; have hff := blk_frozen HS6.out.mbk 13; have HO6 := Lib.hid hown3; have HE6 := Lib.hid ((own_below HE5.out ((Below.refl _ w5).alloc (Nat.le_refl _) (.cells #[.string ⟨t1.1.toArray⟩, .string ⟨t2.1.toArray⟩] 39))).kept hg3 (own_ne2 HE5.out HO5.out (by decide))); have HM6 := Lib.hid ((own_below HM5.out ((Below.refl _ w5).alloc (Nat.le_refl _) (.cells #[.string ⟨t1.1.toArray⟩, .string ⟨t2.1.toArray⟩] 39))).kept hg3 (own_ne2 HM5.out HO5.out (by decide))); clear hown3 hg3 hat3 hlt3)
                | (go_simp; go_at_call 34; first
                    | (refine (HT2.out w3 H3.out _ (by repeat (with_reducible (first | exact Below.refl _ _ | refine Below.drew ?_)))).mono ?_; rintro e' w4 ⟨rfl, h4, hg4⟩; have hc4 := h4.cell 13 rfl; have HO4 := Lib.hid (own_far HO3.out hg4 hbm); have HE4 := Lib.hid (own_far HE3.out hg4 hbm); have HM4 := Lib.hid (own_far HM3.out hg4 hbm); have H4 := Lib.hid h4; clear h4 hg4 HT2)
                    | (refine (HT1.out _ (by repeat (with_reducible (first | exact Below.refl _ _ | refine Below.drew ?_)))).mono ?_; rintro e' w2 ⟨rfl, h2, hg2⟩; have hc2 := h2.cell 13 rfl; have HO2 := Lib.hid (own_far (own_below HO.out (by repeat (with_reducible (first | exact Below.refl _ _ | refine Below.drew ?_)))) hg2 hbm); have HE2 := Lib.hid (own_far (own_below HE.out (by repeat (with_reducible (first | exact Below.refl _ _ | refine Below.drew ?_)))) hg2 hbm); have HM2 := Lib.hid (own_far (own_below HM.out (by repeat (with_reducible (first | exact Below.refl _ _ | refine Below.drew ?_)))) hg2 hbm); have H2 := Lib.hid h2; clear h2 hg2 HT1))
                | (go_simp; go_at_call 29; first
                    | (refine (clone_any ⟨t2.1.toArray⟩ w4 (by show t2.1.length ≤ _; omega)).mono ?_; rintro e' w5 ⟨rfl, hb5⟩; have H5 := Lib.hid (H4.out.calm hb5); have hc5 := H5.out.cell 13 rfl; have hc5a : ∀ o, (w5.alloc o).cell? ⟨mb, 13, none⟩ = some (.slice po j d) := fun o => (H5.out.calm ((Below.refl _ w5).alloc (Nat.le_refl _) o)).cell 13 rfl; have HO5 := Lib.hid (own_below HO4.out hb5); have HE5 := Lib.hid (own_below HE4.out hb5); have HM5 := Lib.hid (own_below HM4.out hb5); clear hb5)
                    | (refine (clone_any ⟨t1.1.toArray⟩ w2 (by show t1.1.length ≤ _; omega)).mono ?_; rintro e' w3 ⟨rfl, hb3⟩; have H3 := Lib.hid (H2.out.calm hb3); have hc3 := H3.out.cell 13 rfl; have HO3 := Lib.hid (own_below HO2.out hb3); have HE3 := Lib.hid (own_below HE2.out hb3); have HM3 := Lib.hid (own_below HM2.out hb3); clear hb3)))
              all_goals (
                have h8 := HS6.out.set 13 (.slice (some ⟨g, 0, none⟩) (j + 1) cap3)
                simp only [List.setIfInBounds_toArray, List.set_cons_succ, List.set_cons_zero] at h8
                have HS8 := Lib.hid h8
                have HO8 := Lib.hid (own_far HO6.out (grown_set w6 mb 13 (.slice (some ⟨g, 0, none⟩) (j + 1) cap3)) (by omega))
                have HE8 := Lib.hid (own_far HE6.out (grown_set w6 mb 13 (.slice (some ⟨g, 0, none⟩) (j + 1) cap3)) (by omega))
                have HM8 := Lib.hid (own_far HM6.out (grown_set w6 mb 13 (.slice (some ⟨g, 0, none⟩) (j + 1) cap3)) (by omega))
                clear h8
                go_wp2_with fail
                go_roundw
                case rel => exact ⟨j + 1, acp ++ [⟨⟨t1.1.toArray⟩, ⟨t2.1.toArray⟩⟩], some ⟨g, 0, none⟩, cap3, t2.2, by omega, by go_num, HS8, Lib.hid (by rw [parCells_append]; exact HO8.out), Lib.hid (by rw [List.length_append, HLp.out]; rfl), HG', HE8, HM8⟩
                case measure => simp [intOf] <;> omega)
            · obtain rfl : j = np := by omega
              have hd2 : decide (j < j) = false := by simp
              have hd2' : decide ((j : Int) < (j : Int)) = false := by simp
              have hG := HGp.out
              rw [Nat.sub_self, getPairs] at hG
              have HG2 := Lib.hid hG
              clear hG
              obtain ⟨y0, y1, y2, y3, y4, y5, y6, y7, y8, y9, y10, y11, y12, y13⟩ := msgCells HS.out.mbk
              obtain ⟨x0, x1, x2, x3, x4, x5, x6, x7, x8, x9, x10, x11, x12, x13⟩ := msgCells HS.out.rk
              have xf := fun i => blk_frozen HS.out.rk i
              have xf0 := xf 0
              have xf1 := xf 1
              have xf2 := xf 2
              have xf3 := xf 3
              have xf4 := xf 4
              have xf5 := xf 5
              have xf6 := xf 6
              have xf7 := xf 7
              have xf8 := xf 8
              have xf9 := xf 9
              have xf10 := xf 10
              have xf11 := xf 11
              have xf12 := xf 12
              have xf13 := xf 13
              clear xf
              go_wp2_with fail
              have hT : readTail q2.2 = ((pr.1, acc, fo.1, acp), s) := by
                unfold readTail
                dsimp only
                rw [← HPr.out, ← HQ9.out, HN9.out, Int.toNat_natCast, ← HG'.out]
                dsimp only
                rw [← HFo.out, ← HQp.out, HNp.out, Int.toNat_natCast, ← HG2.out]
              have hRm := HRM.out
              rw [hT] at hRm
              have e0 := HS.out.h0
              have e1 := HS.out.h1
              have e2 := HS.out.hb
              obtain ⟨hz, hg⟩ := set14 HS.out.rk (.int .i64 v0) (.int .i64 v1) (.int .i64 v2) (.int .i64 v3) (.int .i64 v4) (.int .i64 v5) (.int .i64 v6) (.int .i64 v7) (.bool q1.1) (.bool q2.1) (.slice aoE NE cE) (.slice ao k c) (.int .i64 fo.1) (.slice po j d)
              generalize (((((((((((((wr.setCell ⟨r0, 0, none⟩ (.int .i64 v0)).setCell ⟨r0, 1, none⟩ (.int .i64 v1)).setCell ⟨r0, 2, none⟩ (.int .i64 v2)).setCell ⟨r0, 3, none⟩ (.int .i64 v3)).setCell ⟨r0, 4, none⟩ (.int .i64 v4)).setCell ⟨r0, 5, none⟩ (.int .i64 v5)).setCell ⟨r0, 6, none⟩ (.int .i64 v6)).setCell ⟨r0, 7, none⟩ (.int .i64 v7)).setCell ⟨r0, 8, none⟩ (.bool q1.1)).setCell ⟨r0, 9, none⟩ (.bool q2.1)).setCell ⟨r0, 10, none⟩ (.slice aoE NE cE)).setCell ⟨r0, 11, none⟩ (.slice ao k c)).setCell ⟨r0, 12, none⟩ (.int .i64 fo.1)).setCell ⟨r0, 13, none⟩ (.slice po j d) = Wf at hz hg ⊢
              obtain ⟨x0, x1, x2, x3, x4, x5, x6, x7, x8, x9, x10, x11, x12, x13⟩ := msgCells hz
              have HEf := Lib.hid (own_lowM (own_far HE.out hg (by omega)) (show W.heap.size ≤ mb + 1 by omega))
              have HMf := Lib.hid (own_lowM (own_far HM.out hg (by omega)) (show W.heap.size ≤ mb + 1 by omega))
              have HOf := Lib.hid (own_lowM (own_far HO.out hg (by omega)) (show W.heap.size ≤ mb + 1 by omega))
              have HRf : Hid (RS w0 Wf B b s) := Lib.hid (HS.out.rs.far hg (fun e => by injection e with e; omega) (HS.out.rs.2.1.grown hg HS.out.rs.size (fun k hk => by injection hk with hk; have := HS.out.rs.2.2; omega)))
              have HWf : Hid (W.grownBy Wf (some b)) := Lib.hid (grown_then HS.out.gr hg (fun k hk => by injection hk with hk; exact .inl (by omega)))
              have HRm := Lib.hid hRm
              clear hRm hT hz hg
              refine bodyPost_ret (v := .agg #[.int .i64 v0, .int .i64 v1, .int .i64 v2, .int .i64 v3, .int .i64 v4, .int .i64 v5, .int .i64 v6, .int .i64 v7, .bool q1.1, .bool q2.1, .slice aoE NE cE, .slice ao k c, .int .i64 fo.1, .slice po j d]) (by simp [results, Try.results24, go_sem, x0, x1, x2, x3, x4, x5, x6, x7, x8, x9, x10, x11, x12, x13]; try rfl) rfl ?_
              exact ⟨⟨⟨v0, v1, v2, v3, v4, v5, v6, v7, q1.1, q2.1, pr.1, acc, fo.1, acp⟩, aoE, NE, cE, ao, k, c, po, j, d⟩, rfl, by rw [HRm.out], ⟨HEf.out, HMf.out, HOf.out, hlE, HLn.out, HLp.out⟩, by rw [HRm.out]; exact HRf.out, HWf.out⟩
end Go.Proofs.Ytmdidmllaldbaaa
