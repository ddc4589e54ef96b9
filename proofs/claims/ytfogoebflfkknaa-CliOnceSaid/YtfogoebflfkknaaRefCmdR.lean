/- The walks of arboretumref22.readOp and readReply: the document's reader reads an operation and a reply. -/
import Derived.Test.YtfogoebflfkknaaRefCmdV
import Derived.Test.YtfogoebflfkknaaRefRdr
import Derived.Test.YtfogoebflfkknaaCmdD
namespace Go.Proofs.Ytfogoebflfkknaa
open Go.RowKit
set_option linter.unusedVariables false
/-- The document's reader at b along a walk that began in W; two blocks of the walk's own: the result and what is read. -/
def RO (t : TypeId) (z cs : Array Value) (W w : World) (b : Nat) (st : RSt) : Prop :=
  RRdr w b st ∧ w.heap[W.heap.size]? = some (.cells z t (0, 0)) ∧ w.heap[W.heap.size + 1]? = some (.cells cs t (0, 0)) ∧ W.grownBy w (some b) ∧ b < W.heap.size
theorem rgrown_then {W w3 w4 : World} {b : Nat} {row : Option Nat} (h : W.grownBy w3 (some b)) (hg : w3.grownBy w4 row) (hrow : ∀ k, row = some k → W.heap.size ≤ k ∨ k = b) : W.grownBy w4 (some b) :=
  ⟨hg.os.trans h.os, hg.tape.trans h.tape, hg.output.trans h.output, Nat.le_trans h.size hg.size, fun k hk hne => (hg.block k (Nat.lt_of_lt_of_le hk h.size) (fun e => by
    rcases hrow k e.symm with h1 | h1
    · omega
    · exact hne (by rw [h1]))).trans (h.block k hk hne)⟩
theorem RRdr.far {w w' : World} {b : Nat} {st : RSt} {row : Option Nat} (h : RRdr w b st) (hg : w.grownBy w' row) (hne : row ≠ some b) : RRdr w' b st := by
  obtain ⟨s, h1, h2, h3⟩ := h
  exact ⟨s, h1, h2, (hg.block b (blk_lt h3) (fun e => hne e.symm)).trans h3⟩
section
variable {t : TypeId} {z cs : Array Value} {W w : World} {b : Nat} {st : RSt}
theorem RO.new (h : RRdr W b st) (t : TypeId) (z : Array Value) : RO t z z W ((W.alloc (.cells z t)).alloc (.cells z t)) b st :=
  ⟨(h.below ((Below.refl _ _).alloc (Nat.le_refl _) _)).below ((Below.refl _ _).alloc (Nat.le_refl _) _), old_at _ _ _ _ (heap_alloc_new W _), new_at _ _ _ (by simp),
    rgrown_then (World.grownBy_alloc W _ _) (World.grownBy_alloc _ _ none) (fun k e => by cases e), h.lt⟩
theorem RO.go {w' : World} {st' : RSt} (h : RO t z cs W w b st) (hr : RRdr w' b st') (hg : w.grownBy w' (some b)) : RO t z cs W w' b st' := by
  obtain ⟨h1, h2, h3, h4, h5⟩ := h
  exact ⟨hr, (hg.block _ (blk_lt h2) (fun e => by injection e with e; omega)).trans h2, (hg.block _ (blk_lt h3) (fun e => by injection e with e; omega)).trans h3, rgrown_then h4 hg (fun k e => .inr (by injection e with e; exact e.symm)), h5⟩
theorem RO.var (h : RO t z cs W w b st) : Calls Try.prog 58 #[.pointer (some ⟨b, 0, none⟩)] w fun e w' => e = .returned (.int .i64 (rVar st).1) ∧ RO t z cs W w' b (rVar st).2 := by
  refine (rrvar_any h.1).mono ?_
  rintro e w' ⟨he, hr, hg⟩
  exact ⟨he, h.go hr hg⟩
theorem RO.text (h : RO t z cs W w b st) (m : Int) : Calls Try.prog 83 #[.pointer (some ⟨b, 0, none⟩), .int .i64 m] w fun e w' => e = .returned (.string (bs (rText m st).1)) ∧ RO t z cs W w' b (rText m st).2 := by
  refine (rrtext_any h.1 m).mono ?_
  rintro e w' ⟨he, hr, hg⟩
  exact ⟨he, h.go hr hg⟩
theorem RO.set (h : RO t z cs W w b st) (i : Nat) (u : Value) {cs' : Array Value} (hc : cs.setIfInBounds i u = cs') : RO t z cs' W (w.setCell ⟨W.heap.size + 1, i, none⟩ u) b st := by
  obtain ⟨h1, h2, h3, h4, h5⟩ := h
  subst hc
  exact ⟨h1.far (grown_set w _ i u) (fun e => by injection e with e; omega), (Below.heap_setCell _ _ _ _ (by show W.heap.size ≠ W.heap.size + 1; omega)).trans h2, blk_set h3 i u, rgrown_then h4 (grown_set w _ i u) (fun k e => .inl (by injection e with e; omega)), h5⟩
theorem RO.below {w' : World} (h : RO t z cs W w b st) (hb : Below w.heap.size w w') : RO t z cs W w' b st := by
  obtain ⟨h1, h2, h3, h4, h5⟩ := h
  exact ⟨h1.below hb, (hb.block _ (blk_lt h2)).trans h2, (hb.block _ (blk_lt h3)).trans h3, rgrown_then h4 (row := none) ⟨hb.os, hb.tape, hb.output, hb.size, fun k hk _ => hb.block k hk⟩ (fun k e => by cases e), h5⟩
end
/-- The facts of the two blocks of an operation. -/
theorem RO.opFacts {W w : World} {b : Nat} {st : RSt} {o : OpV} (h : RO 23 (opCells op0) (opCells o) W w b st) : OpBlk w W.heap.size op0 ∧ OpBlk w (W.heap.size + 1) o := ⟨h.2.1, h.2.2.1⟩
theorem RO.repFacts {W w : World} {b : Nat} {st : RSt} {r : RepV} (h : RO 26 (repCells rep0) (repCells r) W w b st) : RepBlk w W.heap.size rep0 ∧ RepBlk w (W.heap.size + 1) r := ⟨h.2.1, h.2.2.1⟩
theorem six_grown {W w : World} {b : Nat} (h : W.grownBy w (some b)) (k s q : Value) (x y z : Value) : W.grownBy ((((((w.setCell ⟨W.heap.size, 0, none⟩ k).setCell ⟨W.heap.size, 1, none⟩ s).setCell ⟨W.heap.size, 2, none⟩ q).setCell ⟨W.heap.size, 3, none⟩ x).setCell ⟨W.heap.size, 4, none⟩ y).setCell ⟨W.heap.size, 5, none⟩ z) (some b) := by
  have hr : ∀ k', some W.heap.size = some k' → W.heap.size ≤ k' ∨ k' = b := fun k' e => .inl (by injection e with e; omega)
  exact rgrown_then (rgrown_then (rgrown_then (rgrown_then (rgrown_then (rgrown_then h (grown_set _ _ _ _) hr) (grown_set _ _ _ _) hr) (grown_set _ _ _ _) hr) (grown_set _ _ _ _) hr) (grown_set _ _ _ _) hr) (grown_set _ _ _ _) hr
theorem three_grown {W w : World} {b : Nat} (h : W.grownBy w (some b)) (x y z : Value) : W.grownBy (((w.setCell ⟨W.heap.size, 0, none⟩ x).setCell ⟨W.heap.size, 1, none⟩ y).setCell ⟨W.heap.size, 2, none⟩ z) (some b) := by
  have hr : ∀ k', some W.heap.size = some k' → W.heap.size ≤ k' ∨ k' = b := fun k' e => .inl (by injection e with e; omega)
  exact rgrown_then (rgrown_then (rgrown_then h (grown_set _ _ _ _) hr) (grown_set _ _ _ _) hr) (grown_set _ _ _ _) hr
set_option maxRecDepth 20000 in
set_option maxHeartbeats 4000000 in
theorem rreadOp_any {W : World} {b : Nat} {st : RSt} (h : RRdr W b st) :
    Calls Try.prog 53 #[.pointer (some ⟨b, 0, none⟩)] W fun e w' => e = .returned (.tuple #[(getOpV st).1.agg, .int .i64 (getOpV st).2]) ∧ W.grownBy w' (some b) := by
  have H0 := Lib.hid (RO.new h 23 (opCells op0))
  clear h
  obtain ⟨a1, ha1⟩ : ∃ a1, a1 = rVar st := ⟨_, rfl⟩
  obtain ⟨a2, ha2⟩ : ∃ a2, a2 = rVar a1.2 := ⟨_, rfl⟩
  obtain ⟨a3, ha3⟩ : ∃ a3, a3 = rVar a2.2 := ⟨_, rfl⟩
  obtain ⟨t1, ht1⟩ : ∃ t1, t1 = rText 1000 a3.2 := ⟨_, rfl⟩
  obtain ⟨t2, ht2⟩ : ∃ t2, t2 = rText 1000 t1.2 := ⟨_, rfl⟩
  obtain ⟨t3, ht3⟩ : ∃ t3, t3 = rText 1000 t2.2 := ⟨_, rfl⟩
  have HRd : Hid (readOp st = ⟨a1.1, a2.1, a3.1, bs t1.1, bs t2.1, bs t3.1⟩ ∧ tSt (vSt st) 3 = t3.2) := Lib.hid (by
    subst ha1 ha2 ha3 ht1 ht2 ht3
    exact ⟨rfl, rfl⟩)
  have V1 : ∀ w, RO 23 (opCells op0) (opCells op0) W w b st → Hid (Calls Try.prog 58 #[.pointer (some ⟨b, 0, none⟩)] w fun e w' => e = .returned (.int .i64 a1.1) ∧ RO 23 (opCells op0) (opCells op0) W w' b a1.2) := fun w h => Lib.hid (by rw [ha1]; exact h.var)
  have V2 : ∀ w cs, RO 23 (opCells op0) cs W w b a1.2 → Hid (Calls Try.prog 58 #[.pointer (some ⟨b, 0, none⟩)] w fun e w' => e = .returned (.int .i64 a2.1) ∧ RO 23 (opCells op0) cs W w' b a2.2) := fun w cs h => Lib.hid (by rw [ha2]; exact h.var)
  have V3 : ∀ w cs, RO 23 (opCells op0) cs W w b a2.2 → Hid (Calls Try.prog 58 #[.pointer (some ⟨b, 0, none⟩)] w fun e w' => e = .returned (.int .i64 a3.1) ∧ RO 23 (opCells op0) cs W w' b a3.2) := fun w cs h => Lib.hid (by rw [ha3]; exact h.var)
  have T1 : ∀ w cs, RO 23 (opCells op0) cs W w b a3.2 → Hid (Calls Try.prog 83 #[.pointer (some ⟨b, 0, none⟩), .int .i64 1000] w fun e w' => e = .returned (.string (bs t1.1)) ∧ RO 23 (opCells op0) cs W w' b t1.2) := fun w cs h => Lib.hid (by rw [ht1]; exact h.text 1000)
  have T2 : ∀ w cs, RO 23 (opCells op0) cs W w b t1.2 → Hid (Calls Try.prog 83 #[.pointer (some ⟨b, 0, none⟩), .int .i64 1000] w fun e w' => e = .returned (.string (bs t2.1)) ∧ RO 23 (opCells op0) cs W w' b t2.2) := fun w cs h => Lib.hid (by rw [ht2]; exact h.text 1000)
  have T3 : ∀ w cs, RO 23 (opCells op0) cs W w b t2.2 → Hid (Calls Try.prog 83 #[.pointer (some ⟨b, 0, none⟩), .int .i64 1000] w fun e w' => e = .returned (.string (bs t3.1)) ∧ RO 23 (opCells op0) cs W w' b t3.2) := fun w cs h => Lib.hid (by rw [ht3]; exact h.text 1000)
  have HV1 := Lib.hid V1
  have HV2 := Lib.hid V2
  have HV3 := Lib.hid V3
  have HT1 := Lib.hid T1
  have HT2 := Lib.hid T2
  have HT3 := Lib.hid T3
  clear V1 V2 V3 T1 T2 T3 ha1 ha2 ha3 ht1 ht2 ht3
  obtain ⟨v1, r1⟩ := a1
  obtain ⟨v2, r2⟩ := a2
  obtain ⟨v3, r3⟩ := a3
  obtain ⟨l1, q1⟩ := t1
  obtain ⟨l2, q2⟩ := t2
  obtain ⟨l3, q3⟩ := t3
  dsimp only at HV1 HV2 HV3 HT1 HT2 HT3 HRd
  obtain ⟨s1, hs1⟩ : ∃ s1, s1 = bs l1 := ⟨_, rfl⟩
  obtain ⟨s2, hs2⟩ : ∃ s2, s2 = bs l2 := ⟨_, rfl⟩
  obtain ⟨s3, hs3⟩ : ∃ s3, s3 = bs l3 := ⟨_, rfl⟩
  rw [← hs1] at HT1 HRd
  rw [← hs2] at HT2 HRd
  rw [← hs3] at HT3 HRd
  clear hs1 hs2 hs3
  go_enter Try.func53, Try.ntmps53
  go_wp2_with fail
  refine (HV1.out _ H0.out).out.mono ?_
  rintro e w1 ⟨rfl, R1⟩
  obtain ⟨⟨x0, x1, x2⟩, ⟨x3, x4, x5⟩, xf⟩ := R1.opFacts.2.facts
  have xf0 := xf 0
  have N1 := Lib.hid (R1.set 0 (.int .i64 v1) (cs' := opCells ⟨v1, 0, 0, ⟨#[]⟩, ⟨#[]⟩, ⟨#[]⟩⟩) rfl)
  clear R1 xf H0 HV1
  go_wp2_with fail
  refine (HV2.out _ _ N1.out).out.mono ?_
  rintro e w2 ⟨rfl, R2⟩
  clear x0 x1 x2 x3 x4 x5 xf0
  obtain ⟨⟨x0, x1, x2⟩, ⟨x3, x4, x5⟩, xf⟩ := R2.opFacts.2.facts
  have xf1 := xf 1
  have N2 := Lib.hid (R2.set 1 (.int .i64 v2) (cs' := opCells ⟨v1, v2, 0, ⟨#[]⟩, ⟨#[]⟩, ⟨#[]⟩⟩) rfl)
  clear R2 xf HV2 N1
  go_wp2_with fail
  refine (HV3.out _ _ N2.out).out.mono ?_
  rintro e w3 ⟨rfl, R3⟩
  clear x0 x1 x2 x3 x4 x5 xf1
  obtain ⟨⟨x0, x1, x2⟩, ⟨x3, x4, x5⟩, xf⟩ := R3.opFacts.2.facts
  have xf2 := xf 2
  have N3 := Lib.hid (R3.set 2 (.int .i64 v3) (cs' := opCells ⟨v1, v2, v3, ⟨#[]⟩, ⟨#[]⟩, ⟨#[]⟩⟩) rfl)
  clear R3 xf HV3 N2
  go_wp2_with fail
  refine (HT1.out _ _ N3.out).out.mono ?_
  rintro e w4 ⟨rfl, R4⟩
  clear x0 x1 x2 x3 x4 x5 xf2
  obtain ⟨⟨x0, x1, x2⟩, ⟨x3, x4, x5⟩, xf⟩ := R4.opFacts.2.facts
  have xf3 := xf 3
  have N4 := Lib.hid (R4.set 3 (.string s1) (cs' := opCells ⟨v1, v2, v3, s1, ⟨#[]⟩, ⟨#[]⟩⟩) rfl)
  clear R4 xf HT1 N3
  go_wp2_with fail
  refine (HT2.out _ _ N4.out).out.mono ?_
  rintro e w5 ⟨rfl, R5⟩
  clear x0 x1 x2 x3 x4 x5 xf3
  obtain ⟨⟨x0, x1, x2⟩, ⟨x3, x4, x5⟩, xf⟩ := R5.opFacts.2.facts
  have xf4 := xf 4
  have N5 := Lib.hid (R5.set 4 (.string s2) (cs' := opCells ⟨v1, v2, v3, s1, s2, ⟨#[]⟩⟩) rfl)
  clear R5 xf HT2 N4
  go_wp2_with fail
  refine (HT3.out _ _ N5.out).out.mono ?_
  rintro e w6 ⟨rfl, R6⟩
  clear x0 x1 x2 x3 x4 x5 xf4
  obtain ⟨⟨x0, x1, x2⟩, ⟨x3, x4, x5⟩, xf⟩ := R6.opFacts.2.facts
  have xf5 := xf 5
  have N6 := Lib.hid (R6.set 5 (.string s3) (cs' := opCells ⟨v1, v2, v3, s1, s2, s3⟩) rfl)
  clear R6 xf HT3 N5
  go_wp2_with fail
  obtain ⟨w7, hw7⟩ : ∃ w7, w7 = w6.setCell ⟨W.heap.size + 1, 5, none⟩ (.string s3) := ⟨_, rfl⟩
  rw [← hw7] at N6 ⊢
  clear hw7 x0 x1 x2 x3 x4 x5 xf5
  obtain ⟨⟨z0, z1, z2⟩, ⟨z3, z4, z5⟩, zf⟩ := N6.out.opFacts.1.facts
  obtain ⟨⟨y0, y1, y2⟩, ⟨y3, y4, y5⟩, _⟩ := N6.out.opFacts.2.facts
  have zf0 := zf 0
  have zf1 := zf 1
  have zf2 := zf 2
  have zf3 := zf 3
  have zf4 := zf 4
  have zf5 := zf 5
  dsimp only [op0] at z0 z1 z2 z3 z4 z5
  dsimp only at y0 y1 y2 y3 y4 y5
  have HE : Hid (getOpE st = if rEnd q3 = 0 then validV ⟨v1, v2, v3, s1, s2, s3⟩ else rEnd q3) := Lib.hid (by unfold getOpE; rw [HRd.out.1, HRd.out.2])
  have HF := Lib.hid (rrend_any N6.out.1)
  have HVd := Lib.hid (fun W => rvalid_any ⟨v1, v2, v3, s1, s2, s3⟩ W)
  obtain ⟨g, hg⟩ : ∃ g, g = validV ⟨v1, v2, v3, s1, s2, s3⟩ := ⟨_, rfl⟩
  obtain ⟨E, hEE⟩ : ∃ E, E = rEnd q3 := ⟨_, rfl⟩
  rw [← hg] at HE HVd
  rw [← hEE] at HE HF
  dsimp only [OpV.agg] at HVd
  have HG := N6.out.2.2.2.1
  have HGR := Lib.hid HG
  clear hg hEE zf HG
  by_cases h0 : E = 0
  · subst h0
    have hE := HE.out
    rw [if_pos rfl] at hE
    by_cases hg0 : g = 0
    · subst hg0
      have hres : getOpV st = (⟨v1, v2, v3, s1, s2, s3⟩, 0) := by unfold getOpV; rw [hE, if_pos rfl, HRd.out.1]
      have HRes := Lib.hid hres
      clear hres hE HE
      refine HF.out.mono ?_
      rintro e w8 ⟨rfl, rfl⟩
      go_wp2_with fail
      refine (HVd.out w7).mono ?_
      rintro e w9 ⟨rfl, hb9⟩
      have N9 := N6.out.below hb9
      have HG9 := Lib.hid N9.2.2.2.1
      obtain ⟨⟨x0, x1, x2⟩, ⟨x3, x4, x5⟩, xf⟩ := N9.opFacts.1.facts
      obtain ⟨⟨u0, u1, u2⟩, ⟨u3, u4, u5⟩, _⟩ := N9.opFacts.2.facts
      have xf0 := xf 0
      have xf1 := xf 1
      have xf2 := xf 2
      have xf3 := xf 3
      have xf4 := xf 4
      have xf5 := xf 5
      dsimp only [op0] at x0 x1 x2 x3 x4 x5
      dsimp only at u0 u1 u2 u3 u4 u5
      clear xf hb9 N9 z0 z1 z2 z3 z4 z5 y0 y1 y2 y3 y4 y5 zf0 zf1 zf2 zf3 zf4 zf5 N6 HGR HF HVd
      go_wp2_with fail
      rw [HRes.out]
      refine bodyPost_ret (v := .tuple #[.agg #[.int .i64 v1, .int .i64 v2, .int .i64 v3, .string s1, .string s2, .string s3], .int .i64 0]) (by simp [results, Try.results53, go_sem, x0, x1, x2, x3, x4, x5]; try rfl) rfl ⟨rfl, ?_⟩
      exact six_grown HG9.out _ _ _ _ _ _
    · have hres : getOpV st = (op0, g) := by unfold getOpV; rw [hE, if_neg hg0]
      have hd2 : (g != 0) = true := by simpa using hg0
      have HRes := Lib.hid hres
      clear hres hE HE hg0
      refine HF.out.mono ?_
      rintro e w8 ⟨rfl, rfl⟩
      go_wp2_with fail
      refine (HVd.out w7).mono ?_
      rintro e w9 ⟨rfl, hb9⟩
      have N9 := N6.out.below hb9
      have HG9 := Lib.hid N9.2.2.2.1
      obtain ⟨⟨x0, x1, x2⟩, ⟨x3, x4, x5⟩, xf⟩ := N9.opFacts.1.facts
      have xf0 := xf 0
      have xf1 := xf 1
      have xf2 := xf 2
      have xf3 := xf 3
      have xf4 := xf 4
      have xf5 := xf 5
      dsimp only [op0] at x0 x1 x2 x3 x4 x5
      clear xf hb9 N9 z0 z1 z2 z3 z4 z5 y0 y1 y2 y3 y4 y5 zf0 zf1 zf2 zf3 zf4 zf5 N6 HGR HF HVd
      go_wp2_with fail
      rw [HRes.out]
      refine bodyPost_ret (v := .tuple #[op0.agg, .int .i64 g]) (by simp [results, Try.results53, go_sem, x0, x1, x2, x3, x4, x5, op0, OpV.agg]; try rfl) rfl ⟨rfl, ?_⟩
      exact six_grown HG9.out _ _ _ _ _ _
  · have hd : (E == 0) = false := by simpa using h0
    have hd2 : (E != 0) = true := by simpa using h0
    have hE := HE.out
    rw [if_neg h0] at hE
    have hres : getOpV st = (op0, E) := by unfold getOpV; rw [hE, if_neg h0]
    have HRes := Lib.hid hres
    clear hres hE h0 HE HVd
    refine HF.out.mono ?_
    rintro e w8 ⟨rfl, rfl⟩
    go_wp2_with fail
    rw [HRes.out]
    refine bodyPost_ret (v := .tuple #[op0.agg, .int .i64 E]) (by simp [results, Try.results53, go_sem, z0, z1, z2, z3, z4, z5, op0, OpV.agg]; try rfl) rfl ⟨rfl, ?_⟩
    exact six_grown HGR.out _ _ _ _ _ _
set_option maxRecDepth 20000 in
set_option maxHeartbeats 4000000 in
theorem rreadRep_any {W : World} {b : Nat} {st : RSt} (h : RRdr W b st) :
    Calls Try.prog 55 #[.pointer (some ⟨b, 0, none⟩)] W fun e w' => e = .returned (.tuple #[(getRepV st).1.agg, .int .i64 (getRepV st).2]) ∧ W.grownBy w' (some b) := by
  have H0 := Lib.hid (RO.new h 26 (repCells rep0))
  clear h
  obtain ⟨a1, ha1⟩ : ∃ a1, a1 = rVar st := ⟨_, rfl⟩
  obtain ⟨a2, ha2⟩ : ∃ a2, a2 = rVar a1.2 := ⟨_, rfl⟩
  obtain ⟨t1, ht1⟩ : ∃ t1, t1 = rText 2000 a2.2 := ⟨_, rfl⟩
  have HRd : Hid (readRep st = ⟨a1.1, a2.1, bs t1.1⟩ ∧ repSt st = t1.2) := Lib.hid (by
    subst ha1 ha2 ht1
    exact ⟨rfl, rfl⟩)
  have V1 : ∀ w, RO 26 (repCells rep0) (repCells rep0) W w b st → Hid (Calls Try.prog 58 #[.pointer (some ⟨b, 0, none⟩)] w fun e w' => e = .returned (.int .i64 a1.1) ∧ RO 26 (repCells rep0) (repCells rep0) W w' b a1.2) := fun w h => Lib.hid (by rw [ha1]; exact h.var)
  have V2 : ∀ w cs, RO 26 (repCells rep0) cs W w b a1.2 → Hid (Calls Try.prog 58 #[.pointer (some ⟨b, 0, none⟩)] w fun e w' => e = .returned (.int .i64 a2.1) ∧ RO 26 (repCells rep0) cs W w' b a2.2) := fun w cs h => Lib.hid (by rw [ha2]; exact h.var)
  have T1 : ∀ w cs, RO 26 (repCells rep0) cs W w b a2.2 → Hid (Calls Try.prog 83 #[.pointer (some ⟨b, 0, none⟩), .int .i64 2000] w fun e w' => e = .returned (.string (bs t1.1)) ∧ RO 26 (repCells rep0) cs W w' b t1.2) := fun w cs h => Lib.hid (by rw [ht1]; exact h.text 2000)
  have HV1 := Lib.hid V1
  have HV2 := Lib.hid V2
  have HT1 := Lib.hid T1
  clear V1 V2 T1 ha1 ha2 ht1
  obtain ⟨v1, r1⟩ := a1
  obtain ⟨v2, r2⟩ := a2
  obtain ⟨l1, q1⟩ := t1
  dsimp only at HV1 HV2 HT1 HRd
  obtain ⟨s1, hs1⟩ : ∃ s1, s1 = bs l1 := ⟨_, rfl⟩
  rw [← hs1] at HT1 HRd
  clear hs1
  go_enter Try.func55, Try.ntmps55
  go_wp2_with fail
  refine (HV1.out _ H0.out).out.mono ?_
  rintro e w1 ⟨rfl, R1⟩
  obtain ⟨⟨x0, x1, x2⟩, xf⟩ := R1.repFacts.2.facts
  have xf0 := xf 0
  have N1 := Lib.hid (R1.set 0 (.int .i64 v1) (cs' := repCells ⟨v1, 0, ⟨#[]⟩⟩) rfl)
  clear R1 xf H0 HV1
  go_wp2_with fail
  refine (HV2.out _ _ N1.out).out.mono ?_
  rintro e w2 ⟨rfl, R2⟩
  clear x0 x1 x2 xf0
  obtain ⟨⟨x0, x1, x2⟩, xf⟩ := R2.repFacts.2.facts
  have xf2 := xf 2
  have N2 := Lib.hid (R2.set 2 (.int .i64 v2) (cs' := repCells ⟨v1, v2, ⟨#[]⟩⟩) rfl)
  clear R2 xf HV2 N1
  go_wp2_with fail
  refine (HT1.out _ _ N2.out).out.mono ?_
  rintro e w3 ⟨rfl, R3⟩
  clear x0 x1 x2 xf2
  obtain ⟨⟨x0, x1, x2⟩, xf⟩ := R3.repFacts.2.facts
  have xf1 := xf 1
  have N3 := Lib.hid (R3.set 1 (.string s1) (cs' := repCells ⟨v1, v2, s1⟩) rfl)
  clear R3 xf HT1 N2
  go_wp2_with fail
  obtain ⟨w7, hw7⟩ : ∃ w7, w7 = w3.setCell ⟨W.heap.size + 1, 1, none⟩ (.string s1) := ⟨_, rfl⟩
  rw [← hw7] at N3 ⊢
  clear hw7 x0 x1 x2 xf1
  obtain ⟨⟨z0, z1, z2⟩, zf⟩ := N3.out.repFacts.1.facts
  obtain ⟨⟨y0, y1, y2⟩, _⟩ := N3.out.repFacts.2.facts
  have zf0 := zf 0
  have zf1 := zf 1
  have zf2 := zf 2
  dsimp only [rep0] at z0 z1 z2
  dsimp only at y0 y1 y2
  have HE : Hid (getRepV st = if rEnd q1 = 0 then (⟨v1, v2, s1⟩, 0) else (rep0, rEnd q1)) := Lib.hid (by unfold getRepV; rw [HRd.out.1, HRd.out.2])
  have HF := Lib.hid (rrend_any N3.out.1)
  obtain ⟨E, hEE⟩ : ∃ E, E = rEnd q1 := ⟨_, rfl⟩
  rw [← hEE] at HE HF
  have HGR := Lib.hid N3.out.2.2.2.1
  clear hEE zf
  by_cases h0 : E = 0
  · subst h0
    have hres := HE.out
    rw [if_pos rfl] at hres
    have HRes := Lib.hid hres
    clear hres HE
    refine HF.out.mono ?_
    rintro e w8 ⟨rfl, rfl⟩
    go_wp2_with fail
    rw [HRes.out]
    refine bodyPost_ret (v := .tuple #[.agg #[.int .i64 v1, .string s1, .int .i64 v2], .int .i64 0]) (by simp [results, Try.results55, go_sem, z0, z1, z2]; try rfl) rfl ⟨rfl, ?_⟩
    exact three_grown HGR.out _ _ _
  · have hd2 : (E != 0) = true := by simpa using h0
    have hres := HE.out
    rw [if_neg h0] at hres
    have HRes := Lib.hid hres
    clear hres HE h0
    refine HF.out.mono ?_
    rintro e w8 ⟨rfl, rfl⟩
    go_wp2_with fail
    rw [HRes.out]
    refine bodyPost_ret (v := .tuple #[rep0.agg, .int .i64 E]) (by simp [results, Try.results55, go_sem, z0, z1, z2, rep0, RepV.agg]; try rfl) rfl ⟨rfl, ?_⟩
    exact three_grown HGR.out _ _ _
end Go.Proofs.Ytfogoebflfkknaa
