/- The walks of arboretumref16: Get, One: the document reads entries as the plain law tells. -/
import Derived.Test.YtmdidmllaldbaaaGreatRefRdr
import Derived.Test.YtmdidmllaldbaaaGreatEntG
namespace Go.Proofs.YtmdidmllaldbaaaGreat
open Go.RowKit
set_option linter.unusedVariables false
theorem RRdr.at_ {w w' : World} {b : Nat} {st : RSt} (h : RRdr w b st) (hb : w'.heap[b]? = w.heap[b]?) : RRdr w' b st := by
  obtain ⟨s, h1, h2, h3⟩ := h
  exact ⟨s, h1, h2, hb.trans h3⟩
/-- A reader, an entry that is being made, and what was read. -/
structure RG (w0 W : World) (b ge : Nat) (st : RSt) (cs : Array Value) (v : Value) (k : Nat) (xs : List Value) : Prop where
  rd : RRdr W b st
  blk : W.heap[ge]? = some (.cells cs 51 (0, 0))
  lo : w0.heap.size ≤ ge
  hb : b < w0.heap.size
  own : W.ownsRow w0.heap.size 51 4 v k xs
  ne : v.ownBlock ≠ some ge
  gr : w0.grownBy W (some b)
theorem RG.call {w0 W W' : World} {b ge : Nat} {st st' : RSt} {cs : Array Value} {v : Value} {k : Nat} {xs : List Value} (h : RG w0 W b ge st cs v k xs) (h' : RRdr W' b st') (hg : W.grownBy W' (some b)) : RG w0 W' b ge st' cs v k xs :=
  ⟨h', (hg.block ge (blk_lt h.blk) (fun e => by injection e with e; have := h.lo; have := h.hb; omega)).trans h.blk, h.lo, h.hb, own_far h.own hg h.hb, h.ne, h.gr.trans hg⟩
theorem RG.set {w0 W : World} {b ge : Nat} {st : RSt} {cs : Array Value} {v : Value} {k : Nat} {xs : List Value} (h : RG w0 W b ge st cs v k xs) (i : Nat) (u : Value) : RG w0 (W.setCell ⟨ge, i, none⟩ u) b ge st (cs.setIfInBounds i u) v k xs := by
  have hg := grown_set W ge i u
  have hbe : b ≠ ge := by have := h.lo; have := h.hb; omega
  refine ⟨h.rd.at_ (hg.block b h.rd.lt (fun e => hbe (by injection e))), blk_set h.blk i u, h.lo, h.hb, h.own.kept hg (.inr h.ne), h.ne, ?_⟩
  exact ⟨hg.os.trans h.gr.os, hg.tape.trans h.gr.tape, hg.output.trans h.gr.output, Nat.le_trans h.gr.size hg.size, fun j hj hne => (hg.block j (Nat.lt_of_lt_of_le hj h.gr.size) (fun e => by injection e with e; have := h.lo; omega)).trans (h.gr.block j hj hne)⟩
theorem RG.start {w0 W : World} {b k : Nat} {st : RSt} {v : Value} {xs : List Value} (h : RRdr W b st) (hb : b < w0.heap.size) (ho : W.ownsRow w0.heap.size 51 4 v k xs) (hg : w0.grownBy W (some b)) (cs : Array Value) :
    RG w0 (W.alloc (.cells cs 51)) b W.heap.size st cs v k xs :=
  ⟨h.below ((Below.refl _ _).alloc (Nat.le_refl _) _), heap_alloc_new W _, hg.size, hb, ho.alloc _, (fun e => by have := (ho.lt _ e).2; omega), hg.trans (World.grownBy_alloc W _ _)⟩
theorem RG.cells {w0 W : World} {b ge : Nat} {st : RSt} {cs : Array Value} {v : Value} {k : Nat} {xs : List Value} (h : RG w0 W b ge st cs v k xs) (i : Nat) : W.cell? ⟨ge, i, none⟩ = cs[i]? ∧ W.frozen? ⟨ge, i, none⟩ = false := ⟨blk_cell h.blk i, blk_frozen h.blk i⟩
/-- What the document's Get answers. -/
def RGetRes (st : RSt) (w : World) (b : Nat) (e : Ending) (w' : World) : Prop :=
  ∃ ao N c, e = .returned (.slice ao N c) ∧ w'.ownsRow w.heap.size 51 4 (.slice ao N c) N (entCells (getAll st).1) ∧ (getAll st).1.length = N ∧ RRdr w' b (getAll st).2 ∧ w.grownBy w' (some b)
set_option maxRecDepth 20000 in
set_option maxHeartbeats 4000000 in
theorem rget16_any {w : World} {b : Nat} {st : RSt} (h : RRdr w b st) :
    Calls Tryz.prog 14 #[.pointer (some ⟨b, 0, none⟩)] w (RGetRes st w b) := by
  obtain ⟨i0, hi, hz0, hz1, hz2⟩ := info_parts entInfoE
  have HCt := Lib.hid (rrcount_any h 400)
  have hbw : b < w.heap.size := h.lt
  clear h
  obtain ⟨q, hq⟩ : ∃ q, q = rCount 400 st := ⟨_, rfl⟩
  have hc9 : 0 ≤ q.1 ∧ q.1 ≤ 400 := by rw [hq]; exact rCount_range 400 _ (by decide)
  rw [← hq] at HCt
  obtain ⟨m, hm⟩ : ∃ m : Nat, q.1 = m := ⟨q.1.toNat, by omega⟩
  have HP : Hid (getAll st = if (getLoop m q.2 []).2.2 ≠ 0 then ([], (getLoop m q.2 []).2) else getLoop m q.2 []) := Lib.hid (by unfold getAll; rw [← hq, hm, Int.toNat_natCast])
  rw [hm] at HCt
  have hm4 : m ≤ 400 := by omega
  clear hq hm hc9
  go_enter Tryz.func14, Tryz.ntmps14
  go_wp2_with fail
  refine HCt.out.mono ?_
  rintro e w1 ⟨rfl, R1, hg1⟩
  have HR1 := Lib.hid R1
  have HG1 := Lib.hid hg1
  clear R1 hg1 HCt
  go_wp2_with fail
  go_loopw [3, 5] (fun l i wr => ∃ (k : Nat) (acc : List Ent) (ao : Option Addr) (c : Nat) (st' : RSt), k ≤ m ∧ i = .int .i64 k ∧ l = .slice ao k c ∧ Hid (wr.ownsRow w.heap.size 51 4 (.slice ao k c) k (entCells acc)) ∧ Hid (acc.length = k) ∧ Hid (getLoop (m - k) st' acc = getLoop m q.2 []) ∧ Hid (RRdr wr b st') ∧ Hid (w.grownBy wr (some b))) (fun _ i _ => m - (intOf i).toNat)
  case atStart => exact ⟨0, [], none, 0, q.2, Nat.zero_le _, rfl, rfl, Lib.hid (World.ownsRow_nil _ _ _ _), rfl, rfl, HR1, HG1⟩
  case round =>
    obtain ⟨k, acc, ao, c, st', hk, rfl, rfl, HO, HLn, HG, HR, HW⟩ := hrel
    obtain ⟨sb, hsb, hsz, e0, e1, _, _⟩ := HR.out.facts
    clear hsb hsz sb e0
    by_cases hgo : k < m ∧ st'.2 = 0
    · obtain ⟨hlt, h0⟩ := hgo
      have hG := HG.out
      rw [show m - k = (m - (k + 1)) + 1 from by omega, getLoop, if_neg (by simpa using h0)] at hG
      have HG' := Lib.hid hG
      rw [h0] at e1
      have HE0 := Lib.hid (RG.start HR.out hbw HO.out HW.out #[.int .i64 0, .int .i64 0, .int .i64 0, .string ⟨#[]⟩])
      obtain ⟨ge, hge⟩ : ∃ ge, ge = wr.heap.size := ⟨_, rfl⟩
      rw [← hge] at HE0
      have HV1 := Lib.hid (rrvar_any HE0.out.rd)
      obtain ⟨a1, ha1⟩ : ∃ a1, a1 = rVar st' := ⟨_, rfl⟩
      rw [← ha1] at HV1
      have HA1 := Lib.hid ha1
      clear hG h0 ha1
      go_wp2_with fail
      refine HV1.out.mono ?_
      rintro e w2 ⟨rfl, R2, hg2⟩
      have HE1 := Lib.hid (HE0.out.call R2 hg2)
      have c1 := (HE1.out.cells 0).1
      have f1 := (HE1.out.cells 0).2
      have HE1' := Lib.hid (HE1.out.set 0 (.int .i64 a1.1))
      rw [hge] at c1 f1
      have HV2 := Lib.hid (rrvar_any HE1'.out.rd)
      obtain ⟨a2, ha2⟩ : ∃ a2, a2 = rVar a1.2 := ⟨_, rfl⟩
      rw [← ha2, hge] at HV2
      have HA2 := Lib.hid ha2
      clear ha2 R2 hg2 HV1 HE0
      go_wp2_with fail
      refine HV2.out.mono ?_
      rintro e w3 ⟨rfl, R3, hg3⟩
      rw [← hge] at hg3
      have HE2 := Lib.hid (HE1'.out.call R3 hg3)
      have c2 := (HE2.out.cells 1).1
      have f2 := (HE2.out.cells 1).2
      have HE2' := Lib.hid (HE2.out.set 1 (.int .i64 a2.1))
      rw [hge] at c2 f2
      have HV3 := Lib.hid (rrvar_any HE2'.out.rd)
      obtain ⟨a3, ha3⟩ : ∃ a3, a3 = rVar a2.2 := ⟨_, rfl⟩
      rw [← ha3, hge] at HV3
      have HA3 := Lib.hid ha3
      clear ha3 R3 hg3 HV2 HE1 HE1' c1 f1
      go_wp2_with fail
      refine HV3.out.mono ?_
      rintro e w4 ⟨rfl, R4, hg4⟩
      rw [← hge] at hg4
      have HE3 := Lib.hid (HE2'.out.call R4 hg4)
      have c3 := (HE3.out.cells 2).1
      have f3 := (HE3.out.cells 2).2
      have HE3' := Lib.hid (HE3.out.set 2 (.int .i64 a3.1))
      rw [hge] at c3 f3
      have HV4 := Lib.hid (rrtext_any HE3'.out.rd 2200)
      obtain ⟨a4, ha4⟩ : ∃ a4, a4 = rText 2200 a3.2 := ⟨_, rfl⟩
      rw [← ha4, hge] at HV4
      have HA4 := Lib.hid ha4
      clear ha4 R4 hg4 HV3 HE2 HE2' c2 f2
      go_wp2_with fail
      refine HV4.out.mono ?_
      rintro e w5 ⟨rfl, R5, hg5⟩
      rw [← hge] at hg5
      have HE4 := Lib.hid (HE3'.out.call R5 hg5)
      have c4 := (HE4.out.cells 3).1
      have f4 := (HE4.out.cells 3).2
      have HE4' := Lib.hid (HE4.out.set 3 (.string ⟨a4.1.toArray⟩))
      rw [hge] at c4 f4
      have d0 := (HE4.out.cells 0).1
      have d1 := (HE4.out.cells 1).1
      have d2 := (HE4.out.cells 2).1
      rw [hge] at d0 d1 d2
      simp at d0 d1 d2 c4
      have HRd := HE4'.out.rd
      have HOw := HE4'.out.own
      have HGr := HE4'.out.gr
      have hsz6 := HE4'.out.gr.size
      have HNe := Lib.hid HE4'.out.ne
      rw [hge] at HRd HOw HGr hsz6 HNe
      have HR6 := Lib.hid HRd
      have HO6 := Lib.hid HOw
      have HW6 := Lib.hid HGr
      have hent : getEnt st' = (⟨a1.1, a2.1, a3.1, ⟨a4.1.toArray⟩⟩, a4.2) := by
        unfold getEnt
        rw [← HA1.out, ← HA2.out, ← HA3.out, ← HA4.out]
      have HEnt := Lib.hid hent
      clear hent HE3 HE3' HE4 HE4' R5 hg5 HV4 c3 f3 HRd HOw HGr hge
      go_wp2_with (at_builtin; refine wpList_append_own_at _ rfl (.tmp 33) (.tmp 35) 22 rfl w.heap.size 51 i0 _ 4 40 Tryz.underlying22 hi hz0 hz1 hz2 rfl (by omega) _ k (entCells acc) rfl (HO6.out.alloc _) ⟨w5.heap.size, 0, none⟩ 1 1 [.int .i64 a1.1, .int .i64 a2.1, .int .i64 a3.1, .string ⟨a4.1.toArray⟩] rfl rfl (World.news_of_block (new_at _ _ _ (by simp))) (entCells_one [⟨a1.1, a2.1, a3.1, ⟨a4.1.toArray⟩⟩]) (by unfold maxLen; omega) (by omega) (Nat.le_trans hsz6 (by simp)) ?_; intro v1 w8 hown8 hg8' _ hat8; have hg8 := (World.grownBy_alloc _ _ _).trans hg8'; have HO8 := Lib.hid hown8; have hbk : some b ≠ (Value.slice ao k c).ownBlock := (fun e => by have := (HO6.out.lt b e.symm).1; omega); have HR8 := Lib.hid (HR6.out.at_ (hg8.block b HR6.out.lt hbk)); have HW8 := Lib.hid (grown_then HW6.out hg8 (fun j hj => .inl (HO6.out.lt j hj).1)); obtain ⟨g8, cap8, hv8, _⟩ := hown8.form (by omega); subst hv8; clear hown8 hg8 hg8' hbk)
      go_roundw
      case rel => exact ⟨k + 1, acc ++ [⟨a1.1, a2.1, a3.1, ⟨a4.1.toArray⟩⟩], some ⟨g8, 0, none⟩, cap8, a4.2, by omega, by go_num, rfl, Lib.hid (by rw [entCells_append]; exact HO8.out), Lib.hid (by rw [List.length_append, HLn.out]; rfl), Lib.hid (by rw [← HG'.out, HEnt.out]), HR8, HW8⟩
      case measure => simp [intOf]; omega
    · have hfin : getLoop m q.2 [] = (acc, st') := by
        rw [← HG.out]
        by_cases hlt : k < m
        · exact getLoop_off _ _ _ (fun h => hgo ⟨hlt, h⟩)
        · rw [show m - k = 0 from by omega]; rfl
      have hP := HP.out
      rw [hfin] at hP
      clear HG hfin
      by_cases h0 : st'.2 = 0
      · have hge : ¬ k < m := fun h => hgo ⟨h, h0⟩
        rw [if_neg (by simpa using h0)] at hP
        have HRes := Lib.hid hP
        rw [h0] at e1
        clear hP hgo h0
        go_wp2_with fail
        go_ret
        exact ⟨ao, k, c, rfl, by rw [HRes.out]; exact HO.out, by rw [HRes.out]; exact HLn.out, by rw [HRes.out]; exact HR.out, HW.out⟩
      · have hd : (st'.2 == 0) = false := by simpa using h0
        have hd2 : (st'.2 != 0) = true := by simpa using h0
        rw [if_pos (by simpa using h0)] at hP
        have HRes := Lib.hid hP
        clear hP hgo h0
        by_cases hlt : k < m
        · go_wp2_with fail
          go_ret
          exact ⟨none, 0, 0, rfl, by rw [HRes.out]; exact World.ownsRow_nil _ _ _ _, by rw [HRes.out]; rfl, by rw [HRes.out]; exact HR.out, HW.out⟩
        · go_wp2_with fail
          go_ret
          exact ⟨none, 0, 0, rfl, by rw [HRes.out]; exact World.ownsRow_nil _ _ _ _, by rw [HRes.out]; rfl, by rw [HRes.out]; exact HR.out, HW.out⟩
end Go.Proofs.YtmdidmllaldbaaaGreat
