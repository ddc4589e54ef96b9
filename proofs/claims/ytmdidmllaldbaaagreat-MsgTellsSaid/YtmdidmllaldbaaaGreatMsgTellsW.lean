/- The walk of arboretumlaw26.MsgTells (printed by wip/gen_msgtells.py). -/
import Derived.Test.YtmdidmllaldbaaaGreatTold
import Derived.Test.YtmdidmllaldbaaaGreatMsgSm
import Derived.Test.YtmdidmllaldbaaaGreatMsgM
import Derived.Test.YtmdidmllaldbaaaGreatLentE
import Derived.Test.YtmdidmllaldbaaaGreatLent
import Derived.Test.YtmdidmllaldbaaaGreatLentP
import Derived.Deep.DeepCutAuto
namespace Go.Proofs.YtmdidmllaldbaaaGreat
open Go.RowKit
set_option linter.unusedVariables false
set_option linter.unusedSimpArgs false
theorem MsgIn.below {w W : World} {m : MsgR} (h : MsgIn w m) (hb : Below w.heap.size w W) : MsgIn W m :=
  ⟨⟨(h.es.ents.below hb).mono hb.size, h.es.le, h.es.nil_, h.es.sz, h.es.ok⟩, h.ms.below hb, ⟨(h.ps.pars.below hb).mono hb.size, h.ps.le, h.ps.nil_, h.ps.sz, h.ps.ok⟩, h.i1, h.i2, h.i3, h.i4, h.i5, h.i6, h.i7, h.i8, h.i9⟩
theorem LentE.farM {W W' : World} {B g n c b : Nat} {l : List Ent} (h : LentE W B g n c l) (hg : W.grownBy W' (some b)) (hb : b < B) : LentE W' B g n c l := ⟨h.1, h.2.1, own_far h.2.2 hg hb⟩
theorem LentI.farM {W W' : World} {B g n c b : Nat} {l : List Int} (h : LentI W B g n c l) (hg : W.grownBy W' (some b)) (hb : b < B) : LentI W' B g n c l := ⟨h.1, h.2.1, own_far h.2.2 hg hb⟩
theorem LentP.farM {W W' : World} {B g n c b : Nat} {l : List Par} (h : LentP W B g n c l) (hg : W.grownBy W' (some b)) (hb : b < B) : LentP W' B g n c l := ⟨h.1, h.2.1, own_far h.2.2 hg hb⟩
theorem LentE.lowM {W : World} {B B' g n c : Nat} {l : List Ent} (h : LentE W B g n c l) (hb : B' ≤ B) : LentE W B' g n c l := ⟨h.1, Nat.le_trans hb h.2.1, own_lowM h.2.2 hb⟩
theorem LentI.lowM {W : World} {B B' g n c : Nat} {l : List Int} (h : LentI W B g n c l) (hb : B' ≤ B) : LentI W B' g n c l := ⟨h.1, Nat.le_trans hb h.2.1, own_lowM h.2.2 hb⟩
theorem LentP.lowM {W : World} {B B' g n c : Nat} {l : List Par} (h : LentP W B g n c l) (hb : B' ≤ B) : LentP W B' g n c l := ⟨h.1, Nat.le_trans hb h.2.1, own_lowM h.2.2 hb⟩
/-- The message whose lists are lent. -/
def lentX (m : MsgR) (g1 d1 g2 d2 g3 d3 : Nat) : MsgR := ⟨m.v, some ⟨g1, 0, none⟩, m.en, d1, some ⟨g2, 0, none⟩, m.mn, d2, some ⟨g3, 0, none⟩, m.pn, d3⟩
/-- What stands in a round, but for the message itself. -/
structure TSt (m : MsgR) (xb g1 d1 g2 d2 g3 d3 : Nat) (W : World) : Prop where
  xk : W.heap[xb]? = some (.cells (lentX m g1 d1 g2 d2 g3 d3).cells.toArray 118 (0, 0))
  le : LentE W (xb + 1) g1 m.en d1 m.v.es
  li : LentI W (xb + 1) g2 m.mn d2 m.v.ms
  lp : LentP W (xb + 1) g3 m.pn d3 m.v.ps
theorem TSt.calm {m : MsgR} {xb g1 d1 g2 d2 g3 d3 : Nat} {W W' : World} (h : TSt m xb g1 d1 g2 d2 g3 d3 W) (hb : Below W.heap.size W W') : TSt m xb g1 d1 g2 d2 g3 d3 W' :=
  ⟨(hb.block _ (blk_lt h.xk)).trans h.xk, h.le.below hb, h.li.below hb, h.lp.below hb⟩
theorem TSt.pres {m : MsgR} {xb g1 d1 g2 d2 g3 d3 : Nat} {W W' : World} (h : TSt m xb g1 d1 g2 d2 g3 d3 W) (hp : Pres xb W W') : TSt m xb g1 d1 g2 d2 g3 d3 W' :=
  ⟨(hp.block _ (Nat.le_refl _) (blk_lt h.xk)).trans h.xk, ⟨h.le.1, h.le.2.1, own_pres h.le.2.2 hp (by omega)⟩, ⟨h.li.1, h.li.2.1, own_pres h.li.2.2 hp (by omega)⟩, ⟨h.lp.1, h.lp.2.1, own_pres h.lp.2.2 hp (by omega)⟩⟩
theorem TSt.at_ {m : MsgR} {xb g1 d1 g2 d2 g3 d3 : Nat} {W : World} (h : TSt m xb g1 d1 g2 d2 g3 d3 W) (hm : MsgAt W m) : MsgAt W (lentX m g1 d1 g2 d2 g3 d3) := by
  refine ⟨h.le.list hm.es.1, ⟨hm.ms.1, hm.ms.2.1, fun hn => ⟨g2, 0, rfl, h.li.lt, h.li.at_ hm.ms.1⟩⟩, h.lp.list hm.ps.1, ?_, ?_, ?_⟩
  · exact ⟨by have := h.le.1; show m.en ≤ d1; omega, h.le.cap⟩
  · exact ⟨by have := h.li.1; show m.mn ≤ d2; omega, h.li.cap⟩
  · exact ⟨by have := h.lp.1; show m.pn ≤ d3; omega, h.lp.cap⟩
set_option maxRecDepth 20000 in
set_option maxHeartbeats 16000000 in
theorem walk_MsgTells (m : MsgR) {w : World} (hI : MsgIn w m) (s : ByteArray) (hs : s.size ≤ maxLen) (own : Bool) :
    Calls Tryz.prog 6 #[m.agg, .string s, .bool own] w fun e w' => e = .returned (.bool true) ∧ Below w.heap.size w w' := by
  obtain ⟨q, hq⟩ : ∃ q, w.heap.size = q := ⟨_, rfl⟩
  have HQ := Lib.hid hq
  have HI : Hid (∀ W, Below q w W → MsgIn W m) := Lib.hid (fun W h => hI.below (by rw [hq]; exact h))
  have HS0 : Hid (MB w q m (w.alloc (.cells #[.int .i64 m.v.kd, .int .i64 m.v.frm, .int .i64 m.v.dst, .int .i64 m.v.tm, .int .i64 m.v.ix, .int .i64 m.v.lt, .int .i64 m.v.cm, .int .i64 m.v.rd, .bool m.v.ok, .bool m.v.dn, .slice m.eo m.en m.ec, .slice m.mo m.mn m.mc, .int .i64 m.v.off, .slice m.po m.pn m.pc] 118))) := Lib.hid ⟨new_at _ _ _ hq.symm, (Below.refl _ _).alloc (by omega) _, hq⟩
  have HOk := Lib.hid hI.ok
  clear hI hq
  unfold maxLen at hs
  unfold MsgR.agg
  go_enter Tryz.func6, Tryz.ntmps6
  go_upto_region 1 with fail
  rw [HQ.out]
  generalize (w.alloc (.cells #[.int .i64 m.v.kd, .int .i64 m.v.frm, .int .i64 m.v.dst, .int .i64 m.v.tm, .int .i64 m.v.ix, .int .i64 m.v.lt, .int .i64 m.v.cm, .int .i64 m.v.rd, .bool m.v.ok, .bool m.v.dn, .slice m.eo m.en m.ec, .slice m.mo m.mn m.mc, .int .i64 m.v.off, .slice m.po m.pn m.pc] 118)) = w1 at HS0 ⊢
  have HSml := Lib.hid (smallMsg_any (HI.out w1 HS0.out.bel))
  unfold MsgR.agg at HSml
  obtain ⟨y0, y1, y2, y3, y4, y5, y6, y7, y8, y9, y10, y11, y12, y13⟩ := msgCells HS0.out.blk
  go_wp2_with fail
  refine HSml.out.mono ?_
  rintro e w2 ⟨r, rfl, hr, hb2⟩
  have HS2 := Lib.hid (HS0.out.calm hb2)
  clear hb2 HSml y0 y1 y2 y3 y4 y5 y6 y7 y8 y9 y10 y11 y12 y13 HS0
  cases r with
  | false =>
    clear hr
    go_wp2_with fail
    refine (aliveM_any _).mono ?_
    rintro e w3 ⟨rfl, hb3⟩
    have HS3 := Lib.hid (HS2.out.calm hb3)
    go_wp2_with fail
    go_ret
    exact ⟨rfl, by rw [HQ.out]; exact HS3.out.bel⟩
  | true =>
  have hsm := (hr rfl).sm (HI.out w2 HS2.out.bel)
  clear hr
  by_cases h6000 : 6000 < s.size
  · have hd : decide (6000 < s.size) = true := by simpa using h6000
    go_wp2_with fail
    refine (aliveM_any _).mono ?_
    rintro e w3 ⟨rfl, hb3⟩
    have HS3 := Lib.hid (HS2.out.calm hb3)
    go_wp2_with fail
    go_ret
    exact ⟨rfl, by rw [HQ.out]; exact HS3.out.bel⟩
  have hd : decide (6000 < s.size) = false := by simpa using h6000
  have hs6 : s.size ≤ 6000 := by omega
  clear h6000 hs
  go_upto_if 29 with fail
  go_cut [1] (fun b1 wx => ∃ b : ByteArray, b1 = .string b ∧ b.size ≤ 6010 ∧ Hid (MB w q m wx))
  case first =>
    cases own with
    | false =>
      go_wp2_with fail
      go_meet
      exact ⟨s, rfl, by omega, HS2⟩
    | true =>
      have hz1 : ((⟨#[109]⟩ : ByteArray) ++ s).size = s.size + 1 := by rw [ByteArray.size_append]; show 1 + s.size = _; omega
      obtain ⟨C, hC⟩ : ∃ C, C = crc ((⟨#[109]⟩ : ByteArray) ++ s).data.toList := ⟨_, rfl⟩
      have hC4 : C < 256 ^ 4 := by rw [hC]; exact crc_lt _
      obtain ⟨F, hF⟩ : ∃ F : ByteArray, F = ⟨(fixB C 4).toArray⟩ := ⟨_, rfl⟩
      have hFz : F.size = 4 := by rw [hF]; show (List.toArray _).size = 4; rw [List.size_toArray, fixB_len]
      have HCr : Hid (∀ W, Calls Tryz.prog 81 #[.string ((⟨#[109]⟩ : ByteArray) ++ s)] W fun e w' => e = .returned (.int .i64 C) ∧ W = w') := Lib.hid (fun W => by
        have h2 := rcrc_any ((⟨#[109]⟩ : ByteArray) ++ s) (by rw [hz1]; omega) W
        rw [← hC] at h2
        exact h2)
      have HFx : Hid (∀ W, Calls Tryz.prog 80 #[.int .i64 C, .int .i64 4] W fun e w' => e = .returned (.tuple #[.string F, .int .i64 0]) ∧ Below W.heap.size W w') := Lib.hid (fun W => by
        have h2 := rfix_any C 4 W (by omega) (by omega) (by omega)
        have hfx : rfixE C 4 = (fixB C 4, 0) := by unfold rfixE; rw [if_pos hC4]
        rw [hfx] at h2
        rw [hF]
        exact h2)
      clear hC hC4 hF
      go_wp2_with fail
      refine (HCr.out _).mono ?_
      rintro e w3 ⟨rfl, rfl⟩
      go_wp2_with fail
      refine (HFx.out _).mono ?_
      rintro e w4 ⟨rfl, hb4⟩
      have HS4 := Lib.hid (HS2.out.calm hb4)
      clear hb4 HCr HFx
      go_wp2_with fail
      go_meet
      exact ⟨_, rfl, by rw [ByteArray.size_append, hz1, hFz]; omega, HS4⟩
  case rest =>
    obtain ⟨b, rfl, hb, HS3⟩ := hcut
    rename World => V
    clear HS2 hd hs6
    have HSt := Lib.hid (BsEIPM.start (w := V) (Below.refl _ V))
    have hen : m.v.es.length = m.en := (HI.out V HS3.out.bel).es.ents.1
    have hmn : m.v.ms.length = m.mn := (HI.out V HS3.out.bel).ms.len
    have hpn : m.v.ps.length = m.pn := (HI.out V HS3.out.bel).ps.pars.1
    have hen' : m.en ≤ 1000 := by have := hsm.el; omega
    have hmn' : m.mn ≤ 1000 := by have := hsm.ml; omega
    have hpn' : m.pn ≤ 1000 := by have := hsm.pl; omega
    have HSm := Lib.hid hsm
    clear hsm hen hmn hpn
    go_wp2_with fail
    go_loopw [10] (fun i wr => ∃ (k : Nat) (o : Nat → Tag), k ≤ 2 ∧ i = .int .i64 k ∧ Hid (BsEIPM V wr V.heap.size o)) (fun i _ => 2 - (intOf i).toNat)
    case atStart => exact ⟨0, _, by omega, rfl, HSt⟩
    case round =>
      obtain ⟨k, o, hk, rfl, HK⟩ := hrel
      have HBW := Lib.hid HK.out.bel
      have HSr := Lib.hid (HS3.out.calm HBW.out)
      by_cases hlt : k < 2
      · have hx1 : (k : Int) < 2 := by omega
        obtain ⟨xb, hxb⟩ : ∃ xb, wr.heap.size = xb := ⟨_, rfl⟩
        have HX1 : Hid ((wr.alloc (.cells #[.int .i64 m.v.kd, .int .i64 m.v.frm, .int .i64 m.v.dst, .int .i64 m.v.tm, .int .i64 m.v.ix, .int .i64 m.v.lt, .int .i64 m.v.cm, .int .i64 m.v.rd, .bool m.v.ok, .bool m.v.dn, .slice m.eo m.en m.ec, .slice m.mo m.mn m.mc, .int .i64 m.v.off, .slice m.po m.pn m.pc] 118)).heap[xb]? = some (.cells #[.int .i64 m.v.kd, .int .i64 m.v.frm, .int .i64 m.v.dst, .int .i64 m.v.tm, .int .i64 m.v.ix, .int .i64 m.v.lt, .int .i64 m.v.cm, .int .i64 m.v.rd, .bool m.v.ok, .bool m.v.dn, .slice m.eo m.en m.ec, .slice m.mo m.mn m.mc, .int .i64 m.v.off, .slice m.po m.pn m.pc] 118 (0, 0))) := Lib.hid (new_at _ _ _ hxb.symm)
        have HB1 : Hid (Below wr.heap.size wr (wr.alloc (.cells #[.int .i64 m.v.kd, .int .i64 m.v.frm, .int .i64 m.v.dst, .int .i64 m.v.tm, .int .i64 m.v.ix, .int .i64 m.v.lt, .int .i64 m.v.cm, .int .i64 m.v.rd, .bool m.v.ok, .bool m.v.dn, .slice m.eo m.en m.ec, .slice m.mo m.mn m.mc, .int .i64 m.v.off, .slice m.po m.pn m.pc] 118))) := Lib.hid ((Below.refl _ _).alloc (Nat.le_refl _) _)
        obtain ⟨y0, y1, y2, y3, y4, y5, y6, y7, y8, y9, y10, y11, y12, y13⟩ := msgCells HSr.out.blk
        have HXb := Lib.hid hxb
        clear hxb
        go_upto_region 11 with fail
        rw [HXb.out]
        generalize (wr.alloc (.cells #[.int .i64 m.v.kd, .int .i64 m.v.frm, .int .i64 m.v.dst, .int .i64 m.v.tm, .int .i64 m.v.ix, .int .i64 m.v.lt, .int .i64 m.v.cm, .int .i64 m.v.rd, .bool m.v.ok, .bool m.v.dn, .slice m.eo m.en m.ec, .slice m.mo m.mn m.mc, .int .i64 m.v.off, .slice m.po m.pn m.pc] 118)) = W1 at HX1 HB1 ⊢
        clear y0 y1 y2 y3 y4 y5 y6 y7 y8 y9 y10 y11 y12 y13
        have HS1 := Lib.hid (HSr.out.calm HB1.out)
        have HF : Hid (∀ W, Below W1.heap.size W1 W → (W.cell? ⟨q, 10, none⟩ = some (.slice m.eo m.en m.ec) ∧ W.cell? ⟨q, 11, none⟩ = some (.slice m.mo m.mn m.mc) ∧ W.cell? ⟨q, 13, none⟩ = some (.slice m.po m.pn m.pc)) ∧ (W.cell? ⟨xb, 10, none⟩ = some (.slice m.eo m.en m.ec) ∧ W.cell? ⟨xb, 11, none⟩ = some (.slice m.mo m.mn m.mc) ∧ W.cell? ⟨xb, 13, none⟩ = some (.slice m.po m.pn m.pc)) ∧ W.frozen? ⟨xb, 10, none⟩ = false ∧ W.frozen? ⟨xb, 11, none⟩ = false ∧ W.frozen? ⟨xb, 13, none⟩ = false) := Lib.hid (fun W hb => by
          have k1 := (HS1.out.calm hb).blk
          have k2 := (hb.block _ (blk_lt HX1.out)).trans HX1.out
          exact ⟨⟨by rw [blk_cell k1]; rfl, by rw [blk_cell k1]; rfl, by rw [blk_cell k1]; rfl⟩, ⟨by rw [blk_cell k2]; rfl, by rw [blk_cell k2]; rfl, by rw [blk_cell k2]; rfl⟩, blk_frozen k2 10, blk_frozen k2 11, blk_frozen k2 13⟩)
        have HE : Hid (∀ W, Below W1.heap.size W1 W → Calls Tryz.prog 10 #[.slice m.eo m.en m.ec] W fun e w' => ∃ g c', e = .returned (.slice (some ⟨g, 0, none⟩) m.en c') ∧ LentE w' W.heap.size g m.en c' m.v.es ∧ Below W.heap.size W w') := Lib.hid (fun W hb => lentE_any (HI.out W (HS1.out.calm hb).bel).es hen')
        have HIn : Hid (∀ W, Below W1.heap.size W1 W → Calls Tryz.prog 11 #[.slice m.mo m.mn m.mc] W fun e w' => ∃ g c', e = .returned (.slice (some ⟨g, 0, none⟩) m.mn c') ∧ LentI w' W.heap.size g m.mn c' m.v.ms ∧ Below W.heap.size W w') := Lib.hid (fun W hb => lentI_any (HI.out W (HS1.out.calm hb).bel).ms hmn')
        have HP : Hid (∀ W, Below W1.heap.size W1 W → Calls Tryz.prog 82 #[.slice m.po m.pn m.pc] W fun e w' => ∃ g c', e = .returned (.slice (some ⟨g, 0, none⟩) m.pn c') ∧ LentP w' W.heap.size g m.pn c' m.v.ps ∧ Below W.heap.size W w') := Lib.hid (fun W hb => lentP_any (HI.out W (HS1.out.calm hb).bel).ps hpn')
        go_cut [] from 48 to 59 (fun W => ∃ g1 d1 g2 d2 g3 d3, Hid (TSt m xb g1 d1 g2 d2 g3 d3 W) ∧ Hid (Below xb wr W))
        case first =>
          have hxl : xb < W1.heap.size := blk_lt HX1.out
          obtain ⟨⟨a0, a1, a2⟩, ⟨b0, b1, b2⟩, f0, f1, f2⟩ := HF.out W1 (Below.refl _ _)
          clear HSm HSt HK HSr
          go_region_law (first
            | (go_simp; go_at_call 10; refine (HE.out _ (Below.refl _ _).drew).mono ?_; rintro e' wa ⟨ga, ca, rfl, owna, hba⟩; have HBa : Hid (Below W1.heap.size W1 wa) := Lib.hid (below_undrew hba); have HOa := Lib.hid owna; clear owna hba; obtain ⟨⟨a0a, a1a, a2a⟩, ⟨b0a, b1a, b2a⟩, f0a, f1a, f2a⟩ := HF.out wa HBa.out)
            | (go_simp; go_at_call 11; refine (HIn.out _ HBa.out).mono ?_; rintro e' wb ⟨gb, cb, rfl, ownb, hbb⟩; have HBb : Hid (Below W1.heap.size W1 wb) := Lib.hid (HBa.out.trans (hbb.mono HBa.out.size)); have HOb := Lib.hid ownb; have HOa := Lib.hid (HOa.out.below hbb); clear ownb hbb; obtain ⟨⟨a0b, a1b, a2b⟩, ⟨b0b, b1b, b2b⟩, f0b, f1b, f2b⟩ := HF.out wb HBb.out)
            | (go_simp; go_at_call 82; refine (HP.out _ HBb.out).mono ?_; rintro e' wc ⟨gc, cc, rfl, ownc, hbc⟩; have HBc : Hid (Below W1.heap.size W1 wc) := Lib.hid (HBb.out.trans (hbc.mono HBb.out.size)); have HOc := Lib.hid ownc; have HOb := Lib.hid (HOb.out.below hbc); have HOa := Lib.hid (HOa.out.below hbc); clear ownc hbc; obtain ⟨⟨a0c, a1c, a2c⟩, ⟨b0c, b1c, b2c⟩, f0c, f1c, f2c⟩ := HF.out wc HBc.out))
          all_goals (
            have k0 := (HBc.out.block _ hxl).trans HX1.out
            have k1 := blk_set (blk_set (blk_set k0 10 (.slice (some ⟨ga, 0, none⟩) m.en ca)) 11 (.slice (some ⟨gb, 0, none⟩) m.mn cb)) 13 (.slice (some ⟨gc, 0, none⟩) m.pn cc)
            simp only [List.setIfInBounds_toArray, List.set_cons_succ, List.set_cons_zero] at k1
            have g1 := ((grown_set wc xb 10 (.slice (some ⟨ga, 0, none⟩) m.en ca)).trans (grown_set _ xb 11 (.slice (some ⟨gb, 0, none⟩) m.mn cb))).trans (grown_set _ xb 13 (.slice (some ⟨gc, 0, none⟩) m.pn cc))
            have za := HBa.out.size
            have zb := HBb.out.size
            have ht : Hid (TSt m xb ga ca gb cb gc cc (((wc.setCell ⟨xb, 10, none⟩ (.slice (some ⟨ga, 0, none⟩) m.en ca)).setCell ⟨xb, 11, none⟩ (.slice (some ⟨gb, 0, none⟩) m.mn cb)).setCell ⟨xb, 13, none⟩ (.slice (some ⟨gc, 0, none⟩) m.pn cc))) := Lib.hid
              ⟨k1, (HOa.out.lowM (show xb + 1 ≤ W1.drew.heap.size from hxl)).farM g1 (by omega), (HOb.out.lowM (show xb + 1 ≤ wa.heap.size by omega)).farM g1 (by omega), (HOc.out.lowM (show xb + 1 ≤ wb.heap.size by omega)).farM g1 (by omega)⟩
            have hbx : Hid (Below xb wr (((wc.setCell ⟨xb, 10, none⟩ (.slice (some ⟨ga, 0, none⟩) m.en ca)).setCell ⟨xb, 11, none⟩ (.slice (some ⟨gb, 0, none⟩) m.mn cb)).setCell ⟨xb, 13, none⟩ (.slice (some ⟨gc, 0, none⟩) m.pn cc))) := Lib.hid (by
              have h1 := HB1.out
              rw [HXb.out] at h1
              exact (h1.trans (HBc.out.mono (by omega))).grown g1 (by have := HBc.out.size; omega) (fun k hk => by injection hk with hk; omega))
            clear k0 k1 g1 za zb
            go_wp2_with fail
            go_meet
            exact ⟨ga, ca, gb, cb, gc, cc, ht, hbx⟩)
        case rest =>
          rename World => W2
          obtain ⟨g1, d1, g2, d2, g3, d3, HT2, HB2⟩ := hcut
          have HBw2 : Hid (Below wr.heap.size wr W2) := Lib.hid (by rw [HXb.out]; exact HB2.out)
          have HS2 := Lib.hid (HSr.out.calm HBw2.out)
          obtain ⟨x, hx⟩ : ∃ x, x = lentX m g1 d1 g2 d2 g3 d3 := ⟨_, rfl⟩
          have hxv : x.v = m.v := by rw [hx]; rfl
          have HXk : Hid (∀ W, Below W2.heap.size W2 W → W.heap[xb]? = some (.cells #[.int .i64 x.v.kd, .int .i64 x.v.frm, .int .i64 x.v.dst, .int .i64 x.v.tm, .int .i64 x.v.ix, .int .i64 x.v.lt, .int .i64 x.v.cm, .int .i64 x.v.rd, .bool x.v.ok, .bool x.v.dn, .slice x.eo x.en x.ec, .slice x.mo x.mn x.mc, .int .i64 x.v.off, .slice x.po x.pn x.pc] 118 (0, 0))) := Lib.hid (fun W hb => by have h := (HT2.out.calm hb).xk; rw [← hx] at h; exact h)
          have HMk : Hid (∀ W, Below W2.heap.size W2 W → W.heap[q]? = some (.cells #[.int .i64 m.v.kd, .int .i64 m.v.frm, .int .i64 m.v.dst, .int .i64 m.v.tm, .int .i64 m.v.ix, .int .i64 m.v.lt, .int .i64 m.v.cm, .int .i64 m.v.rd, .bool m.v.ok, .bool m.v.dn, .slice m.eo m.en m.ec, .slice m.mo m.mn m.mc, .int .i64 m.v.off, .slice m.po m.pn m.pc] 118 (0, 0))) := Lib.hid (fun W hb => (HS2.out.calm hb).blk)
          obtain ⟨S, hS⟩ : ∃ S : ByteArray, S = ⟨(putMsgB m.v).toArray⟩ := ⟨_, rfl⟩
          obtain ⟨G, hG⟩ : ∃ G, G = getMsgV b.data.toList := ⟨_, rfl⟩
          obtain ⟨gg, hgg⟩ : ∃ g, g = (getMsgV (putMsgB m.v)).2 := ⟨_, rfl⟩
          have HPx : Hid (∀ W, Below W2.heap.size W2 W → Calls Tryz.prog 83 #[.agg #[.int .i64 x.v.kd, .int .i64 x.v.frm, .int .i64 x.v.dst, .int .i64 x.v.tm, .int .i64 x.v.ix, .int .i64 x.v.lt, .int .i64 x.v.cm, .int .i64 x.v.rd, .bool x.v.ok, .bool x.v.dn, .slice x.eo x.en x.ec, .slice x.mo x.mn x.mc, .int .i64 x.v.off, .slice x.po x.pn x.pc]] W fun e w' => e = .returned (.string S) ∧ Below W.heap.size W w') := Lib.hid (fun W hb => by
            have hat := (HT2.out.calm hb).at_ (HI.out W (HS2.out.calm hb).bel).at_
            rw [← hx] at hat
            have h := mput_any hat (by rw [hxv]; exact HOk.out) (by rw [hxv]; exact HSm.out)
            rw [hxv, ← hS] at h
            exact h)
          have HPm : Hid (∀ W, Below W2.heap.size W2 W → Calls Tryz.prog 84 #[.agg #[.int .i64 m.v.kd, .int .i64 m.v.frm, .int .i64 m.v.dst, .int .i64 m.v.tm, .int .i64 m.v.ix, .int .i64 m.v.lt, .int .i64 m.v.cm, .int .i64 m.v.rd, .bool m.v.ok, .bool m.v.dn, .slice m.eo m.en m.ec, .slice m.mo m.mn m.mc, .int .i64 m.v.off, .slice m.po m.pn m.pc]] W fun e w' => e = .returned (.string S) ∧ Below W.heap.size W w') := Lib.hid (fun W hb => by
            have h := rputMsg_any (HI.out W (HS2.out.calm hb).bel).at_ HOk.out HSm.out
            rw [← hS] at h
            exact h)
          have HGet : Hid (∀ W, Calls Tryz.prog 85 #[.string b] W fun e w' => ∃ y : MsgR, e = .returned (.tuple #[y.agg, .int .i64 G.2]) ∧ y.v = G.1 ∧ MsgOwn w' W.heap.size y ∧ Below W.heap.size W w') := Lib.hid (fun W => by rw [hG]; exact mget_any b W (by omega))
          have HRGet : Hid (∀ W, Calls Tryz.prog 86 #[.string b] W fun e w' => ∃ y : MsgR, e = .returned (.tuple #[y.agg, .int .i64 G.2]) ∧ y.v = G.1 ∧ MsgOwn w' W.heap.size y ∧ Below W.heap.size W w') := Lib.hid (fun W => by rw [hG]; exact rgetMsg_any b W (by omega))
          have HRGt : Hid (∀ W, Calls Tryz.prog 86 #[.string S] W fun e w' => ∃ y : MsgR, e = .returned (.tuple #[y.agg, .int .i64 gg]) ∧ Below W.heap.size W w') := Lib.hid (fun W => by
            have hsl : S.data.toList = putMsgB m.v := by rw [hS]
            refine (rgetMsg_any S W (by have := putMsg_small HSm.out; show S.data.toList.length ≤ _; rw [hsl]; omega)).mono ?_
            rw [hsl, ← hgg]
            rintro e w' ⟨y, rfl, -, -, hb⟩
            exact ⟨y, rfl, hb⟩)
          have HGo : Hid (MsgOk G.1 ∧ MsgSm G.1) := Lib.hid (by rw [hG]; exact getMsgV_got _)
          have HVal : Hid (∀ W, MsgAt W x → Calls Tryz.prog 89 #[.agg #[.int .i64 x.v.kd, .int .i64 x.v.frm, .int .i64 x.v.dst, .int .i64 x.v.tm, .int .i64 x.v.ix, .int .i64 x.v.lt, .int .i64 x.v.cm, .int .i64 x.v.rd, .bool x.v.ok, .bool x.v.dn, .slice x.eo x.en x.ec, .slice x.mo x.mn x.mc, .int .i64 x.v.off, .slice x.po x.pn x.pc]] W fun e w' => e = .returned (.bool (gg == 0)) ∧ Below W.heap.size W w') := Lib.hid (fun W hat => by
            have h := mvalid_any hat (by rw [hxv]; exact HOk.out) (by rw [hxv]; exact HSm.out)
            rw [hxv, ← hgg] at h
            exact h)
          have HXx := Lib.hid hx
          clear HE HIn HP HF HX1 HB1 HS1 hx hS hG hgg hxv
          have xf0 : ∀ p : SinceW W2.heap.size W2, p.w.cell? ⟨xb, 0, none⟩ = some (.int .i64 x.v.kd) := fun p => by rw [blk_cell (HXk.out _ p.h)]; rfl
          have xf1 : ∀ p : SinceW W2.heap.size W2, p.w.cell? ⟨xb, 1, none⟩ = some (.int .i64 x.v.frm) := fun p => by rw [blk_cell (HXk.out _ p.h)]; rfl
          have xf2 : ∀ p : SinceW W2.heap.size W2, p.w.cell? ⟨xb, 2, none⟩ = some (.int .i64 x.v.dst) := fun p => by rw [blk_cell (HXk.out _ p.h)]; rfl
          have xf3 : ∀ p : SinceW W2.heap.size W2, p.w.cell? ⟨xb, 3, none⟩ = some (.int .i64 x.v.tm) := fun p => by rw [blk_cell (HXk.out _ p.h)]; rfl
          have xf4 : ∀ p : SinceW W2.heap.size W2, p.w.cell? ⟨xb, 4, none⟩ = some (.int .i64 x.v.ix) := fun p => by rw [blk_cell (HXk.out _ p.h)]; rfl
          have xf5 : ∀ p : SinceW W2.heap.size W2, p.w.cell? ⟨xb, 5, none⟩ = some (.int .i64 x.v.lt) := fun p => by rw [blk_cell (HXk.out _ p.h)]; rfl
          have xf6 : ∀ p : SinceW W2.heap.size W2, p.w.cell? ⟨xb, 6, none⟩ = some (.int .i64 x.v.cm) := fun p => by rw [blk_cell (HXk.out _ p.h)]; rfl
          have xf7 : ∀ p : SinceW W2.heap.size W2, p.w.cell? ⟨xb, 7, none⟩ = some (.int .i64 x.v.rd) := fun p => by rw [blk_cell (HXk.out _ p.h)]; rfl
          have xf8 : ∀ p : SinceW W2.heap.size W2, p.w.cell? ⟨xb, 8, none⟩ = some (.bool x.v.ok) := fun p => by rw [blk_cell (HXk.out _ p.h)]; rfl
          have xf9 : ∀ p : SinceW W2.heap.size W2, p.w.cell? ⟨xb, 9, none⟩ = some (.bool x.v.dn) := fun p => by rw [blk_cell (HXk.out _ p.h)]; rfl
          have xf10 : ∀ p : SinceW W2.heap.size W2, p.w.cell? ⟨xb, 10, none⟩ = some (.slice x.eo x.en x.ec) := fun p => by rw [blk_cell (HXk.out _ p.h)]; rfl
          have xf11 : ∀ p : SinceW W2.heap.size W2, p.w.cell? ⟨xb, 11, none⟩ = some (.slice x.mo x.mn x.mc) := fun p => by rw [blk_cell (HXk.out _ p.h)]; rfl
          have xf12 : ∀ p : SinceW W2.heap.size W2, p.w.cell? ⟨xb, 12, none⟩ = some (.int .i64 x.v.off) := fun p => by rw [blk_cell (HXk.out _ p.h)]; rfl
          have xf13 : ∀ p : SinceW W2.heap.size W2, p.w.cell? ⟨xb, 13, none⟩ = some (.slice x.po x.pn x.pc) := fun p => by rw [blk_cell (HXk.out _ p.h)]; rfl
          have mf0 : ∀ p : SinceW W2.heap.size W2, p.w.cell? ⟨q, 0, none⟩ = some (.int .i64 m.v.kd) := fun p => by rw [blk_cell (HMk.out _ p.h)]; rfl
          have mf1 : ∀ p : SinceW W2.heap.size W2, p.w.cell? ⟨q, 1, none⟩ = some (.int .i64 m.v.frm) := fun p => by rw [blk_cell (HMk.out _ p.h)]; rfl
          have mf2 : ∀ p : SinceW W2.heap.size W2, p.w.cell? ⟨q, 2, none⟩ = some (.int .i64 m.v.dst) := fun p => by rw [blk_cell (HMk.out _ p.h)]; rfl
          have mf3 : ∀ p : SinceW W2.heap.size W2, p.w.cell? ⟨q, 3, none⟩ = some (.int .i64 m.v.tm) := fun p => by rw [blk_cell (HMk.out _ p.h)]; rfl
          have mf4 : ∀ p : SinceW W2.heap.size W2, p.w.cell? ⟨q, 4, none⟩ = some (.int .i64 m.v.ix) := fun p => by rw [blk_cell (HMk.out _ p.h)]; rfl
          have mf5 : ∀ p : SinceW W2.heap.size W2, p.w.cell? ⟨q, 5, none⟩ = some (.int .i64 m.v.lt) := fun p => by rw [blk_cell (HMk.out _ p.h)]; rfl
          have mf6 : ∀ p : SinceW W2.heap.size W2, p.w.cell? ⟨q, 6, none⟩ = some (.int .i64 m.v.cm) := fun p => by rw [blk_cell (HMk.out _ p.h)]; rfl
          have mf7 : ∀ p : SinceW W2.heap.size W2, p.w.cell? ⟨q, 7, none⟩ = some (.int .i64 m.v.rd) := fun p => by rw [blk_cell (HMk.out _ p.h)]; rfl
          have mf8 : ∀ p : SinceW W2.heap.size W2, p.w.cell? ⟨q, 8, none⟩ = some (.bool m.v.ok) := fun p => by rw [blk_cell (HMk.out _ p.h)]; rfl
          have mf9 : ∀ p : SinceW W2.heap.size W2, p.w.cell? ⟨q, 9, none⟩ = some (.bool m.v.dn) := fun p => by rw [blk_cell (HMk.out _ p.h)]; rfl
          have mf10 : ∀ p : SinceW W2.heap.size W2, p.w.cell? ⟨q, 10, none⟩ = some (.slice m.eo m.en m.ec) := fun p => by rw [blk_cell (HMk.out _ p.h)]; rfl
          have mf11 : ∀ p : SinceW W2.heap.size W2, p.w.cell? ⟨q, 11, none⟩ = some (.slice m.mo m.mn m.mc) := fun p => by rw [blk_cell (HMk.out _ p.h)]; rfl
          have mf12 : ∀ p : SinceW W2.heap.size W2, p.w.cell? ⟨q, 12, none⟩ = some (.int .i64 m.v.off) := fun p => by rw [blk_cell (HMk.out _ p.h)]; rfl
          have mf13 : ∀ p : SinceW W2.heap.size W2, p.w.cell? ⟨q, 13, none⟩ = some (.slice m.po m.pn m.pc) := fun p => by rw [blk_cell (HMk.out _ p.h)]; rfl
          go_wp2_with fail
          refine wp_region_since (B := W2.heap.size) (W0 := W2) (by kernel_rfl) (by kernel_rfl) (Below.refl _ _) ?_
          repeat (go_big_quiet_step (first
            | (go_at_call 83; exact since_call (Nat.le_refl _) (HPx.out _ (SinceW.h _)))
            | (go_at_call 84; exact since_call (Nat.le_refl _) (HPm.out _ (SinceW.h _)))))
          refine wpQuiet_nil ?_
          intro _ hw'
          obtain ⟨⟨W3, hv3⟩, rfl⟩ := hw'
          have HB3 := Lib.hid hv3
          clear xf0 xf1 xf2 xf3 xf4 xf5 xf6 xf7 xf8 xf9 xf10 xf11 xf12 xf13 mf0 mf1 mf2 mf3 mf4 mf5 mf6 mf7 mf8 mf9 mf10 mf11 mf12 mf13 hv3 HPx HPm
          go_wp2_with fail
          refine (HGet.out _).mono ?_
          rintro e w4 ⟨y, rfl, hyv, hyo, hb4⟩
          unfold MsgR.agg
          obtain ⟨yb, hyb⟩ : ∃ yb, w4.heap.size = yb := ⟨_, rfl⟩
          have z23 := HB3.out.size
          have z34 := hb4.size
          have xl2 : xb < W2.heap.size := blk_lt (HXk.out _ (Below.refl _ _))
          have b24 : Below W2.heap.size W2 w4 := HB3.out.trans (hb4.mono z23)
          have HY : Hid ((w4.alloc (.cells #[.int .i64 y.v.kd, .int .i64 y.v.frm, .int .i64 y.v.dst, .int .i64 y.v.tm, .int .i64 y.v.ix, .int .i64 y.v.lt, .int .i64 y.v.cm, .int .i64 y.v.rd, .bool y.v.ok, .bool y.v.dn, .slice y.eo y.en y.ec, .slice y.mo y.mn y.mc, .int .i64 y.v.off, .slice y.po y.pn y.pc] 118)).heap[yb]? = some (.cells #[.int .i64 y.v.kd, .int .i64 y.v.frm, .int .i64 y.v.dst, .int .i64 y.v.tm, .int .i64 y.v.ix, .int .i64 y.v.lt, .int .i64 y.v.cm, .int .i64 y.v.rd, .bool y.v.ok, .bool y.v.dn, .slice y.eo y.en y.ec, .slice y.mo y.mn y.mc, .int .i64 y.v.off, .slice y.po y.pn y.pc] 118 (0, 0))) := Lib.hid (new_at _ _ _ hyb.symm)
          have HYo : Hid (MsgOwn (w4.alloc (.cells #[.int .i64 y.v.kd, .int .i64 y.v.frm, .int .i64 y.v.dst, .int .i64 y.v.tm, .int .i64 y.v.ix, .int .i64 y.v.lt, .int .i64 y.v.cm, .int .i64 y.v.rd, .bool y.v.ok, .bool y.v.dn, .slice y.eo y.en y.ec, .slice y.mo y.mn y.mc, .int .i64 y.v.off, .slice y.po y.pn y.pc] 118)) xb y) := Lib.hid ((hyo.low (by omega)).below ((Below.refl _ _).alloc (Nat.le_refl _) _))
          have HB4 : Hid (Below W2.heap.size W2 (w4.alloc (.cells #[.int .i64 y.v.kd, .int .i64 y.v.frm, .int .i64 y.v.dst, .int .i64 y.v.tm, .int .i64 y.v.ix, .int .i64 y.v.lt, .int .i64 y.v.cm, .int .i64 y.v.rd, .bool y.v.ok, .bool y.v.dn, .slice y.eo y.en y.ec, .slice y.mo y.mn y.mc, .int .i64 y.v.off, .slice y.po y.pn y.pc] 118))) := Lib.hid (b24.alloc b24.size _)
          have hly : xb < yb := by omega
          have HYv := Lib.hid hyv
          have HYb := Lib.hid hyb
          clear hyb hyv hyo hb4 b24 z23 z34 HB3 HGet
          go_upto_region 14 with fail
          rw [HYb.out]
          generalize (w4.alloc (.cells #[.int .i64 y.v.kd, .int .i64 y.v.frm, .int .i64 y.v.dst, .int .i64 y.v.tm, .int .i64 y.v.ix, .int .i64 y.v.lt, .int .i64 y.v.cm, .int .i64 y.v.rd, .bool y.v.ok, .bool y.v.dn, .slice y.eo y.en y.ec, .slice y.mo y.mn y.mc, .int .i64 y.v.off, .slice y.po y.pn y.pc] 118)) = v4 at HY HYo HB4 ⊢
          go_wp2_with fail
          refine (HRGet.out _).mono ?_
          rintro e w5 ⟨z, rfl, hzv, hzo, hb5⟩
          unfold MsgR.agg
          obtain ⟨zb, hzb⟩ : ∃ zb, w5.heap.size = zb := ⟨_, rfl⟩
          have z24 := HB4.out.size
          have z45 := hb5.size
          have b25 : Below W2.heap.size W2 w5 := HB4.out.trans (hb5.mono z24)
          have hyk : v4.heap[yb]? = some _ := HY.out
          have hy4 := blk_lt hyk
          have b5a : Below v4.heap.size v4 (w5.alloc (.cells #[.int .i64 z.v.kd, .int .i64 z.v.frm, .int .i64 z.v.dst, .int .i64 z.v.tm, .int .i64 z.v.ix, .int .i64 z.v.lt, .int .i64 z.v.cm, .int .i64 z.v.rd, .bool z.v.ok, .bool z.v.dn, .slice z.eo z.en z.ec, .slice z.mo z.mn z.mc, .int .i64 z.v.off, .slice z.po z.pn z.pc] 118)) := hb5.alloc hb5.size _
          have HZ : Hid ((w5.alloc (.cells #[.int .i64 z.v.kd, .int .i64 z.v.frm, .int .i64 z.v.dst, .int .i64 z.v.tm, .int .i64 z.v.ix, .int .i64 z.v.lt, .int .i64 z.v.cm, .int .i64 z.v.rd, .bool z.v.ok, .bool z.v.dn, .slice z.eo z.en z.ec, .slice z.mo z.mn z.mc, .int .i64 z.v.off, .slice z.po z.pn z.pc] 118)).heap[zb]? = some (.cells #[.int .i64 z.v.kd, .int .i64 z.v.frm, .int .i64 z.v.dst, .int .i64 z.v.tm, .int .i64 z.v.ix, .int .i64 z.v.lt, .int .i64 z.v.cm, .int .i64 z.v.rd, .bool z.v.ok, .bool z.v.dn, .slice z.eo z.en z.ec, .slice z.mo z.mn z.mc, .int .i64 z.v.off, .slice z.po z.pn z.pc] 118 (0, 0))) := Lib.hid (new_at _ _ _ hzb.symm)
          have HZo : Hid (MsgOwn (w5.alloc (.cells #[.int .i64 z.v.kd, .int .i64 z.v.frm, .int .i64 z.v.dst, .int .i64 z.v.tm, .int .i64 z.v.ix, .int .i64 z.v.lt, .int .i64 z.v.cm, .int .i64 z.v.rd, .bool z.v.ok, .bool z.v.dn, .slice z.eo z.en z.ec, .slice z.mo z.mn z.mc, .int .i64 z.v.off, .slice z.po z.pn z.pc] 118)) xb z) := Lib.hid ((hzo.low (by omega)).below ((Below.refl _ _).alloc (Nat.le_refl _) _))
          have HY5 : Hid ((w5.alloc (.cells #[.int .i64 z.v.kd, .int .i64 z.v.frm, .int .i64 z.v.dst, .int .i64 z.v.tm, .int .i64 z.v.ix, .int .i64 z.v.lt, .int .i64 z.v.cm, .int .i64 z.v.rd, .bool z.v.ok, .bool z.v.dn, .slice z.eo z.en z.ec, .slice z.mo z.mn z.mc, .int .i64 z.v.off, .slice z.po z.pn z.pc] 118)).heap[yb]? = some (.cells #[.int .i64 y.v.kd, .int .i64 y.v.frm, .int .i64 y.v.dst, .int .i64 y.v.tm, .int .i64 y.v.ix, .int .i64 y.v.lt, .int .i64 y.v.cm, .int .i64 y.v.rd, .bool y.v.ok, .bool y.v.dn, .slice y.eo y.en y.ec, .slice y.mo y.mn y.mc, .int .i64 y.v.off, .slice y.po y.pn y.pc] 118 (0, 0))) := Lib.hid ((b5a.block _ hy4).trans hyk)
          have HYo5 : Hid (MsgOwn (w5.alloc (.cells #[.int .i64 z.v.kd, .int .i64 z.v.frm, .int .i64 z.v.dst, .int .i64 z.v.tm, .int .i64 z.v.ix, .int .i64 z.v.lt, .int .i64 z.v.cm, .int .i64 z.v.rd, .bool z.v.ok, .bool z.v.dn, .slice z.eo z.en z.ec, .slice z.mo z.mn z.mc, .int .i64 z.v.off, .slice z.po z.pn z.pc] 118)) xb y) := Lib.hid (HYo.out.below b5a)
          have HB5 : Hid (Below W2.heap.size W2 (w5.alloc (.cells #[.int .i64 z.v.kd, .int .i64 z.v.frm, .int .i64 z.v.dst, .int .i64 z.v.tm, .int .i64 z.v.ix, .int .i64 z.v.lt, .int .i64 z.v.cm, .int .i64 z.v.rd, .bool z.v.ok, .bool z.v.dn, .slice z.eo z.en z.ec, .slice z.mo z.mn z.mc, .int .i64 z.v.off, .slice z.po z.pn z.pc] 118))) := Lib.hid (b25.alloc b25.size _)
          have hlz : yb < zb := by omega
          have HZv := Lib.hid hzv
          have HZb := Lib.hid hzb
          clear hzb hzv hzo hb5 b25 b5a z24 z45 hyk hy4 HB4 HY HYo HRGet
          go_upto_region 15 with fail
          rw [HZb.out]
          generalize (w5.alloc (.cells #[.int .i64 z.v.kd, .int .i64 z.v.frm, .int .i64 z.v.dst, .int .i64 z.v.tm, .int .i64 z.v.ix, .int .i64 z.v.lt, .int .i64 z.v.cm, .int .i64 z.v.rd, .bool z.v.ok, .bool z.v.dn, .slice z.eo z.en z.ec, .slice z.mo z.mn z.mc, .int .i64 z.v.off, .slice z.po z.pn z.pc] 118)) = v5 at HZ HZo HY5 HYo5 HB5 ⊢
          go_wp2_with fail
          refine (HRGt.out _).mono ?_
          rintro e w6 ⟨u, rfl, hb6⟩
          unfold MsgR.agg
          have z25 := HB5.out.size
          have z56 := hb6.size
          have b6a : Below v5.heap.size v5 (w6.alloc (.cells #[.int .i64 u.v.kd, .int .i64 u.v.frm, .int .i64 u.v.dst, .int .i64 u.v.tm, .int .i64 u.v.ix, .int .i64 u.v.lt, .int .i64 u.v.cm, .int .i64 u.v.rd, .bool u.v.ok, .bool u.v.dn, .slice u.eo u.en u.ec, .slice u.mo u.mn u.mc, .int .i64 u.v.off, .slice u.po u.pn u.pc] 118)) := hb6.alloc hb6.size _
          have HZ6 : Hid ((w6.alloc (.cells #[.int .i64 u.v.kd, .int .i64 u.v.frm, .int .i64 u.v.dst, .int .i64 u.v.tm, .int .i64 u.v.ix, .int .i64 u.v.lt, .int .i64 u.v.cm, .int .i64 u.v.rd, .bool u.v.ok, .bool u.v.dn, .slice u.eo u.en u.ec, .slice u.mo u.mn u.mc, .int .i64 u.v.off, .slice u.po u.pn u.pc] 118)).heap[zb]? = some (.cells #[.int .i64 z.v.kd, .int .i64 z.v.frm, .int .i64 z.v.dst, .int .i64 z.v.tm, .int .i64 z.v.ix, .int .i64 z.v.lt, .int .i64 z.v.cm, .int .i64 z.v.rd, .bool z.v.ok, .bool z.v.dn, .slice z.eo z.en z.ec, .slice z.mo z.mn z.mc, .int .i64 z.v.off, .slice z.po z.pn z.pc] 118 (0, 0))) := Lib.hid ((b6a.block _ (blk_lt HZ.out)).trans HZ.out)
          have HZo6 : Hid (MsgOwn (w6.alloc (.cells #[.int .i64 u.v.kd, .int .i64 u.v.frm, .int .i64 u.v.dst, .int .i64 u.v.tm, .int .i64 u.v.ix, .int .i64 u.v.lt, .int .i64 u.v.cm, .int .i64 u.v.rd, .bool u.v.ok, .bool u.v.dn, .slice u.eo u.en u.ec, .slice u.mo u.mn u.mc, .int .i64 u.v.off, .slice u.po u.pn u.pc] 118)) xb z) := Lib.hid (HZo.out.below b6a)
          have HY6 : Hid ((w6.alloc (.cells #[.int .i64 u.v.kd, .int .i64 u.v.frm, .int .i64 u.v.dst, .int .i64 u.v.tm, .int .i64 u.v.ix, .int .i64 u.v.lt, .int .i64 u.v.cm, .int .i64 u.v.rd, .bool u.v.ok, .bool u.v.dn, .slice u.eo u.en u.ec, .slice u.mo u.mn u.mc, .int .i64 u.v.off, .slice u.po u.pn u.pc] 118)).heap[yb]? = some (.cells #[.int .i64 y.v.kd, .int .i64 y.v.frm, .int .i64 y.v.dst, .int .i64 y.v.tm, .int .i64 y.v.ix, .int .i64 y.v.lt, .int .i64 y.v.cm, .int .i64 y.v.rd, .bool y.v.ok, .bool y.v.dn, .slice y.eo y.en y.ec, .slice y.mo y.mn y.mc, .int .i64 y.v.off, .slice y.po y.pn y.pc] 118 (0, 0))) := Lib.hid ((b6a.block _ (blk_lt HY5.out)).trans HY5.out)
          have HYo6 : Hid (MsgOwn (w6.alloc (.cells #[.int .i64 u.v.kd, .int .i64 u.v.frm, .int .i64 u.v.dst, .int .i64 u.v.tm, .int .i64 u.v.ix, .int .i64 u.v.lt, .int .i64 u.v.cm, .int .i64 u.v.rd, .bool u.v.ok, .bool u.v.dn, .slice u.eo u.en u.ec, .slice u.mo u.mn u.mc, .int .i64 u.v.off, .slice u.po u.pn u.pc] 118)) xb y) := Lib.hid (HYo5.out.below b6a)
          have HB6 : Hid (Below W2.heap.size W2 (w6.alloc (.cells #[.int .i64 u.v.kd, .int .i64 u.v.frm, .int .i64 u.v.dst, .int .i64 u.v.tm, .int .i64 u.v.ix, .int .i64 u.v.lt, .int .i64 u.v.cm, .int .i64 u.v.rd, .bool u.v.ok, .bool u.v.dn, .slice u.eo u.en u.ec, .slice u.mo u.mn u.mc, .int .i64 u.v.off, .slice u.po u.pn u.pc] 118))) := Lib.hid (HB5.out.trans (b6a.mono z25))
          clear hb6 b6a z25 z56 HB5 HY5 HYo5 HZ HZo HRGt
          go_upto_region 16 with fail
          generalize w6.heap.size = ub
          generalize (w6.alloc (.cells #[.int .i64 u.v.kd, .int .i64 u.v.frm, .int .i64 u.v.dst, .int .i64 u.v.tm, .int .i64 u.v.ix, .int .i64 u.v.lt, .int .i64 u.v.cm, .int .i64 u.v.rd, .bool u.v.ok, .bool u.v.dn, .slice u.eo u.en u.ec, .slice u.mo u.mn u.mc, .int .i64 u.v.off, .slice u.po u.pn u.pc] 118)) = v6 at HZ6 HZo6 HY6 HYo6 HB6 ⊢
          -- the message is told
          obtain ⟨rb, hrb⟩ : ∃ rb, v6.heap.size = rb := ⟨_, rfl⟩
          have z26 := HB6.out.size
          have zw2 := HBw2.out.size
          have xbr : wr.heap.size = xb := HXb.out
          have zVr : V.heap.size ≤ wr.heap.size := HBW.out.size
          have bR : Below v6.heap.size v6 (v6.alloc (.cells #[.int .i64 y.v.kd, .int .i64 y.v.frm, .int .i64 y.v.dst, .int .i64 y.v.tm, .int .i64 y.v.ix, .int .i64 y.v.lt, .int .i64 y.v.cm, .int .i64 y.v.rd, .bool y.v.ok, .bool y.v.dn, .slice y.eo y.en y.ec, .slice y.mo y.mn y.mc, .int .i64 y.v.off, .slice y.po y.pn y.pc] 118)) := (Below.refl _ _).alloc (Nat.le_refl _) _
          have hrk : (v6.alloc (.cells #[.int .i64 y.v.kd, .int .i64 y.v.frm, .int .i64 y.v.dst, .int .i64 y.v.tm, .int .i64 y.v.ix, .int .i64 y.v.lt, .int .i64 y.v.cm, .int .i64 y.v.rd, .bool y.v.ok, .bool y.v.dn, .slice y.eo y.en y.ec, .slice y.mo y.mn y.mc, .int .i64 y.v.off, .slice y.po y.pn y.pc] 118)).heap[rb]? = some (.cells #[.int .i64 y.v.kd, .int .i64 y.v.frm, .int .i64 y.v.dst, .int .i64 y.v.tm, .int .i64 y.v.ix, .int .i64 y.v.lt, .int .i64 y.v.cm, .int .i64 y.v.rd, .bool y.v.ok, .bool y.v.dn, .slice y.eo y.en y.ec, .slice y.mo y.mn y.mc, .int .i64 y.v.off, .slice y.po y.pn y.pc] 118 (0, 0)) := new_at _ _ _ hrb.symm
          have hrl : rb < (v6.alloc (.cells #[.int .i64 y.v.kd, .int .i64 y.v.frm, .int .i64 y.v.dst, .int .i64 y.v.tm, .int .i64 y.v.ix, .int .i64 y.v.lt, .int .i64 y.v.cm, .int .i64 y.v.rd, .bool y.v.ok, .bool y.v.dn, .slice y.eo y.en y.ec, .slice y.mo y.mn y.mc, .int .i64 y.v.off, .slice y.po y.pn y.pc] 118)).heap.size := blk_lt hrk
          have hown : (v6.alloc (.cells #[.int .i64 y.v.kd, .int .i64 y.v.frm, .int .i64 y.v.dst, .int .i64 y.v.tm, .int .i64 y.v.ix, .int .i64 y.v.lt, .int .i64 y.v.cm, .int .i64 y.v.rd, .bool y.v.ok, .bool y.v.dn, .slice y.eo y.en y.ec, .slice y.mo y.mn y.mc, .int .i64 y.v.off, .slice y.po y.pn y.pc] 118)).ownsRow xb 118 14 (.slice (some ⟨rb, 0, none⟩) 1 1) 1 y.cells := ⟨rfl, .inr ⟨rb, 1, #[.int .i64 y.v.kd, .int .i64 y.v.frm, .int .i64 y.v.dst, .int .i64 y.v.tm, .int .i64 y.v.ix, .int .i64 y.v.lt, .int .i64 y.v.cm, .int .i64 y.v.rd, .bool y.v.ok, .bool y.v.dn, .slice y.eo y.en y.ec, .slice y.mo y.mn y.mc, .int .i64 y.v.off, .slice y.po y.pn y.pc], rfl, by omega, hrk, Nat.le_refl _, by unfold maxLen; omega, rfl, rfl⟩⟩
          have hyo := HYo6.out
          have hyR := hyo.below bR
          obtain ⟨l1, l2, l3⟩ := hyo.lt
          have dis : ∀ {t t' : TypeId} {s s' n n' : Nat} {v v' : Value} {xs xs' : List Value}, v6.ownsRow xb t s v n xs → v6.ownsRow xb t' s' v' n' xs' → t ≠ t' → ∀ g, v'.ownBlock = some g → v.ownBlock ≠ some g := by
            intro t t' s s' n n' v v' xs xs' h h' hT g hg e
            rcases own_ne2 h h' hT with h0 | h0
            · rw [h0] at e; cases e
            · exact h0 (e.trans hg.symm)
          obtain ⟨o2, ho2⟩ : ∃ o2, o2 = tagRow (tagRow (tagRow (tagRow (retag o xb (77, 0, 0)) (.slice y.eo y.en y.ec) 1) (.slice y.mo y.mn y.mc) 2) (.slice y.po y.pn y.pc) 3) (.slice (some ⟨rb, 0, none⟩) 1 1) 4 := ⟨_, rfl⟩
          have a2 : Agree o o2 xb := by
            rw [ho2]
            exact (((retag_agree _ _ _).trans (tagRow_agree (fun g hg => (l1 g hg).1)) (Nat.le_refl _)).trans (tagRow_agree (fun g hg => (l2 g hg).1)) (Nat.le_refl _)).trans (tagRow_agree (fun g hg => (l3 g hg).1)) (Nat.le_refl _) |>.trans (tagRow_agree (fun g hg => by have : rb = g := (by simpa [Value.ownBlock] using hg); omega)) (Nat.le_refl _)
          have nr : ∀ g, g < v6.heap.size → (Value.slice (some ⟨rb, 0, none⟩) 1 1).ownBlock ≠ some g := fun g hg e => by have : rb = g := (by simpa [Value.ownBlock] using e); omega
          have t1 : Tagged o2 (v6.alloc (.cells #[.int .i64 y.v.kd, .int .i64 y.v.frm, .int .i64 y.v.dst, .int .i64 y.v.tm, .int .i64 y.v.ix, .int .i64 y.v.lt, .int .i64 y.v.cm, .int .i64 y.v.rd, .bool y.v.ok, .bool y.v.dn, .slice y.eo y.en y.ec, .slice y.mo y.mn y.mc, .int .i64 y.v.off, .slice y.po y.pn y.pc] 118)).heap.size (77, 1, 0) (.slice y.eo y.en y.ec) := by
            rw [ho2]
            exact tagRow_other (tagRow_other (tagRow_other (tagRow_own _ _ _ _) (dis hyo.ms hyo.es (by decide))) (dis hyo.ps hyo.es (by decide))) (fun g hg => nr g (l1 g hg).2)
          have t2 : Tagged o2 (v6.alloc (.cells #[.int .i64 y.v.kd, .int .i64 y.v.frm, .int .i64 y.v.dst, .int .i64 y.v.tm, .int .i64 y.v.ix, .int .i64 y.v.lt, .int .i64 y.v.cm, .int .i64 y.v.rd, .bool y.v.ok, .bool y.v.dn, .slice y.eo y.en y.ec, .slice y.mo y.mn y.mc, .int .i64 y.v.off, .slice y.po y.pn y.pc] 118)).heap.size (77, 2, 0) (.slice y.mo y.mn y.mc) := by
            rw [ho2]
            exact tagRow_other (tagRow_other (tagRow_own _ _ _ _) (dis hyo.ps hyo.ms (by decide))) (fun g hg => nr g (l2 g hg).2)
          have t3 : Tagged o2 (v6.alloc (.cells #[.int .i64 y.v.kd, .int .i64 y.v.frm, .int .i64 y.v.dst, .int .i64 y.v.tm, .int .i64 y.v.ix, .int .i64 y.v.lt, .int .i64 y.v.cm, .int .i64 y.v.rd, .bool y.v.ok, .bool y.v.dn, .slice y.eo y.en y.ec, .slice y.mo y.mn y.mc, .int .i64 y.v.off, .slice y.po y.pn y.pc] 118)).heap.size (77, 3, 0) (.slice y.po y.pn y.pc) := by
            rw [ho2]
            exact tagRow_other (tagRow_own _ _ _ _) (fun g hg => nr g (l3 g hg).2)
          have t4 : Tagged o2 (v6.alloc (.cells #[.int .i64 y.v.kd, .int .i64 y.v.frm, .int .i64 y.v.dst, .int .i64 y.v.tm, .int .i64 y.v.ix, .int .i64 y.v.lt, .int .i64 y.v.cm, .int .i64 y.v.rd, .bool y.v.ok, .bool y.v.dn, .slice y.eo y.en y.ec, .slice y.mo y.mn y.mc, .int .i64 y.v.off, .slice y.po y.pn y.pc] 118)).heap.size (77, 4, 0) (.slice (some ⟨rb, 0, none⟩) 1 1) := by
            rw [ho2]
            exact tagRow_own _ _ _ _
          have hSS : ∀ g, xb ≤ g → ¬ SS (o2 g) := fun g hg => by
            rw [ho2]
            refine tagRow_ns (tagRow_ns (tagRow_ns (tagRow_ns ?_)))
            rw [retag_ss hg]
            exact not_ss77 0
          have bWR : Below wr.heap.size wr (v6.alloc (.cells #[.int .i64 y.v.kd, .int .i64 y.v.frm, .int .i64 y.v.dst, .int .i64 y.v.tm, .int .i64 y.v.ix, .int .i64 y.v.lt, .int .i64 y.v.cm, .int .i64 y.v.rd, .bool y.v.ok, .bool y.v.dn, .slice y.eo y.en y.ec, .slice y.mo y.mn y.mc, .int .i64 y.v.off, .slice y.po y.pn y.pc] 118)) := (HBw2.out.trans (HB6.out.mono zw2)).trans (bR.mono (by omega))
          have HTd := Lib.hid (told_any ((HK.out.agree (by rw [xbr]; exact a2)).below bWR) (own_lowM hown (by omega)) (hyR.low (by omega)) (by rw [HYv.out]; exact HGo.out.1) (by rw [HYv.out]; exact HGo.out.2) t1 t2 t3 t4)
          have HSS := Lib.hid hSS
          have HTR := Lib.hid (((HT2.out.calm HB6.out).calm bR))
          have HZR : Hid ((v6.alloc (.cells #[.int .i64 y.v.kd, .int .i64 y.v.frm, .int .i64 y.v.dst, .int .i64 y.v.tm, .int .i64 y.v.ix, .int .i64 y.v.lt, .int .i64 y.v.cm, .int .i64 y.v.rd, .bool y.v.ok, .bool y.v.dn, .slice y.eo y.en y.ec, .slice y.mo y.mn y.mc, .int .i64 y.v.off, .slice y.po y.pn y.pc] 118)).heap[zb]? = some (.cells #[.int .i64 z.v.kd, .int .i64 z.v.frm, .int .i64 z.v.dst, .int .i64 z.v.tm, .int .i64 z.v.ix, .int .i64 z.v.lt, .int .i64 z.v.cm, .int .i64 z.v.rd, .bool z.v.ok, .bool z.v.dn, .slice z.eo z.en z.ec, .slice z.mo z.mn z.mc, .int .i64 z.v.off, .slice z.po z.pn z.pc] 118 (0, 0))) := Lib.hid ((bR.block _ (blk_lt HZ6.out)).trans HZ6.out)
          have HYR : Hid ((v6.alloc (.cells #[.int .i64 y.v.kd, .int .i64 y.v.frm, .int .i64 y.v.dst, .int .i64 y.v.tm, .int .i64 y.v.ix, .int .i64 y.v.lt, .int .i64 y.v.cm, .int .i64 y.v.rd, .bool y.v.ok, .bool y.v.dn, .slice y.eo y.en y.ec, .slice y.mo y.mn y.mc, .int .i64 y.v.off, .slice y.po y.pn y.pc] 118)).heap[yb]? = some (.cells #[.int .i64 y.v.kd, .int .i64 y.v.frm, .int .i64 y.v.dst, .int .i64 y.v.tm, .int .i64 y.v.ix, .int .i64 y.v.lt, .int .i64 y.v.cm, .int .i64 y.v.rd, .bool y.v.ok, .bool y.v.dn, .slice y.eo y.en y.ec, .slice y.mo y.mn y.mc, .int .i64 y.v.off, .slice y.po y.pn y.pc] 118 (0, 0))) := Lib.hid ((bR.block _ (blk_lt HY6.out)).trans HY6.out)
          have HYoR := Lib.hid hyR
          have HZoR := Lib.hid (HZo6.out.below bR)
          have HRb := Lib.hid hrb
          obtain ⟨yf0, yf1, yf2, yf3, yf4, yf5, yf6, yf7, yf8, yf9, yf10, yf11, yf12, yf13⟩ := msgCells HY6.out
          clear hrb z26 zw2 bR hrk hrl hown hyo hyR l1 l2 l3 ho2 a2 nr t1 t2 t3 t4 hSS bWR dis HB6 HZ6 HZo6 HY6 HYo6
          go_wp2_with fail
          rw [HRb.out]
          generalize (v6.alloc (.cells #[.int .i64 y.v.kd, .int .i64 y.v.frm, .int .i64 y.v.dst, .int .i64 y.v.tm, .int .i64 y.v.ix, .int .i64 y.v.lt, .int .i64 y.v.cm, .int .i64 y.v.rd, .bool y.v.ok, .bool y.v.dn, .slice y.eo y.en y.ec, .slice y.mo y.mn y.mc, .int .i64 y.v.off, .slice y.po y.pn y.pc] 118)) = vR at HTd HTR HZR HYR HYoR HZoR ⊢
          clear yf0 yf1 yf2 yf3 yf4 yf5 yf6 yf7 yf8 yf9 yf10 yf11 yf12 yf13
          refine HTd.out.mono ?_
          rintro e v7 ⟨rfl, o7, B7, T7⟩
          have P7 : Pres xb vR v7 := Pres.ofTurn T7 (fun g hg _ => HSS.out g hg)
          have HB7 := Lib.hid B7
          have HS7 := Lib.hid (HS3.out.calm B7.bel)
          have HT7 := Lib.hid (HTR.out.pres P7)
          have HY7 : Hid (v7.heap[yb]? = some (.cells #[.int .i64 y.v.kd, .int .i64 y.v.frm, .int .i64 y.v.dst, .int .i64 y.v.tm, .int .i64 y.v.ix, .int .i64 y.v.lt, .int .i64 y.v.cm, .int .i64 y.v.rd, .bool y.v.ok, .bool y.v.dn, .slice y.eo y.en y.ec, .slice y.mo y.mn y.mc, .int .i64 y.v.off, .slice y.po y.pn y.pc] 118 (0, 0))) := Lib.hid ((P7.block _ (by omega) (blk_lt HYR.out)).trans HYR.out)
          have HZ7 : Hid (v7.heap[zb]? = some (.cells #[.int .i64 z.v.kd, .int .i64 z.v.frm, .int .i64 z.v.dst, .int .i64 z.v.tm, .int .i64 z.v.ix, .int .i64 z.v.lt, .int .i64 z.v.cm, .int .i64 z.v.rd, .bool z.v.ok, .bool z.v.dn, .slice z.eo z.en z.ec, .slice z.mo z.mn z.mc, .int .i64 z.v.off, .slice z.po z.pn z.pc] 118 (0, 0))) := Lib.hid ((P7.block _ (by omega) (blk_lt HZR.out)).trans HZR.out)
          have hpm : ∀ {n : MsgR}, MsgOwn vR xb n → MsgOwn v7 xb n := fun h => ⟨own_pres h.es P7 (Nat.le_refl _), own_pres h.ms P7 (Nat.le_refl _), own_pres h.ps P7 (Nat.le_refl _), h.el, h.ml, h.pl⟩
          have HYo7 := Lib.hid (hpm HYoR.out)
          have HZo7 := Lib.hid (hpm HZoR.out)
          have C1 : Hid (∀ W, Below v7.heap.size v7 W → Calls Tryz.prog 88 #[.agg #[.int .i64 y.v.kd, .int .i64 y.v.frm, .int .i64 y.v.dst, .int .i64 y.v.tm, .int .i64 y.v.ix, .int .i64 y.v.lt, .int .i64 y.v.cm, .int .i64 y.v.rd, .bool y.v.ok, .bool y.v.dn, .slice y.eo y.en y.ec, .slice y.mo y.mn y.mc, .int .i64 y.v.off, .slice y.po y.pn y.pc], .agg #[.int .i64 z.v.kd, .int .i64 z.v.frm, .int .i64 z.v.dst, .int .i64 z.v.tm, .int .i64 z.v.ix, .int .i64 z.v.lt, .int .i64 z.v.cm, .int .i64 z.v.rd, .bool z.v.ok, .bool z.v.dn, .slice z.eo z.en z.ec, .slice z.mo z.mn z.mc, .int .i64 z.v.off, .slice z.po z.pn z.pc]] W fun e w' => e = .returned (.bool true) ∧ Below W.heap.size W w') := Lib.hid (fun W hb => by
            have ok := HGo.out
            rw [← HYv.out] at ok
            exact rsameMsg_yes ((HYo7.out.below hb).at_ ok.1) ((HZo7.out.below hb).at_ (by rw [HZv.out, ← HYv.out]; exact ok.1)) (HYv.out.trans HZv.out.symm) ok.1 ok.2)
          have HXk7 : Hid (∀ W, Below v7.heap.size v7 W → W.heap[xb]? = some (.cells #[.int .i64 x.v.kd, .int .i64 x.v.frm, .int .i64 x.v.dst, .int .i64 x.v.tm, .int .i64 x.v.ix, .int .i64 x.v.lt, .int .i64 x.v.cm, .int .i64 x.v.rd, .bool x.v.ok, .bool x.v.dn, .slice x.eo x.en x.ec, .slice x.mo x.mn x.mc, .int .i64 x.v.off, .slice x.po x.pn x.pc] 118 (0, 0))) := Lib.hid (fun W hb => by have h := (HT7.out.calm hb).xk; rw [← HXx.out] at h; exact h)
          have HMk7 : Hid (∀ W, Below v7.heap.size v7 W → W.heap[q]? = some (.cells #[.int .i64 m.v.kd, .int .i64 m.v.frm, .int .i64 m.v.dst, .int .i64 m.v.tm, .int .i64 m.v.ix, .int .i64 m.v.lt, .int .i64 m.v.cm, .int .i64 m.v.rd, .bool m.v.ok, .bool m.v.dn, .slice m.eo m.en m.ec, .slice m.mo m.mn m.mc, .int .i64 m.v.off, .slice m.po m.pn m.pc] 118 (0, 0))) := Lib.hid (fun W hb => (HS7.out.calm hb).blk)
          have C2 : Hid (∀ W, Below v7.heap.size v7 W → Calls Tryz.prog 89 #[.agg #[.int .i64 x.v.kd, .int .i64 x.v.frm, .int .i64 x.v.dst, .int .i64 x.v.tm, .int .i64 x.v.ix, .int .i64 x.v.lt, .int .i64 x.v.cm, .int .i64 x.v.rd, .bool x.v.ok, .bool x.v.dn, .slice x.eo x.en x.ec, .slice x.mo x.mn x.mc, .int .i64 x.v.off, .slice x.po x.pn x.pc]] W fun e w' => e = .returned (.bool (gg == 0)) ∧ Below W.heap.size W w') := Lib.hid (fun W hb => HVal.out W (by rw [HXx.out]; exact (HT7.out.calm hb).at_ (HI.out W (HS7.out.calm hb).bel).at_))
          have C3 : Hid (∀ W, Below v7.heap.size v7 W → Calls Tryz.prog 30 #[.slice x.eo x.en x.ec, .slice m.eo m.en m.ec] W fun e w' => e = .returned (.bool true) ∧ Below W.heap.size W w') := Lib.hid (fun W hb => by rw [HXx.out]; exact staysE_any (HT7.out.calm hb).le (HI.out W (HS7.out.calm hb).bel).es.ents hen')
          have C4 : Hid (∀ W, Below v7.heap.size v7 W → Calls Tryz.prog 31 #[.slice x.mo x.mn x.mc, .slice m.mo m.mn m.mc] W fun e w' => e = .returned (.bool true) ∧ Below W.heap.size W w') := Lib.hid (fun W hb => by rw [HXx.out]; exact staysI_any (HT7.out.calm hb).li (HI.out W (HS7.out.calm hb).bel).ms.of hmn')
          have C5 : Hid (∀ W, Below v7.heap.size v7 W → Calls Tryz.prog 90 #[.slice x.po x.pn x.pc, .slice m.po m.pn m.pc] W fun e w' => e = .returned (.bool true) ∧ Below W.heap.size W w') := Lib.hid (fun W hb => by rw [HXx.out]; exact staysP_any (HT7.out.calm hb).lp (HI.out W (HS7.out.calm hb).bel).ps.pars hpn')
          obtain ⟨ya0, ya1, ya2, ya3, ya4, ya5, ya6, ya7, ya8, ya9, ya10, ya11, ya12, ya13⟩ := msgCells HY7.out
          obtain ⟨za0, za1, za2, za3, za4, za5, za6, za7, za8, za9, za10, za11, za12, za13⟩ := msgCells HZ7.out
          have he1 : (G.2 != G.2) = false := by simp
          have hs1 : (S.toList == S.toList) = true := by simp
          have hg1 : ((gg == 0) == (gg == 0)) = true := by simp
          have hg2 : ((gg == 0) != (gg == 0)) = false := by simp
          clear B7 T7 P7 hpm HTd HTR HYR HZR HYoR HZoR HSS HVal HXk HMk HS7 HT7 HSr HS2 HBw2 HYv HZv HGo
          go_wp2_with fail
          refine (C1.out v7 (Below.refl _ _)).mono ?_
          rintro e v8 ⟨rfl, hb8⟩
          obtain ⟨xa0, xa1, xa2, xa3, xa4, xa5, xa6, xa7, xa8, xa9, xa10, xa11, xa12, xa13⟩ := msgCells (HXk7.out v8 hb8)
          have HB8 := Lib.hid hb8
          clear ya0 ya1 ya2 ya3 ya4 ya5 ya6 ya7 ya8 ya9 ya10 ya11 ya12 ya13 za0 za1 za2 za3 za4 za5 za6 za7 za8 za9 za10 za11 za12 za13 hb8 C1
          go_wp2_with fail
          refine (C2.out v8 HB8.out).mono ?_
          rintro e v9 ⟨rfl, hb9⟩
          have HB9 := Lib.hid (HB8.out.trans (hb9.mono HB8.out.size))
          clear xa0 xa1 xa2 xa3 xa4 xa5 xa6 xa7 xa8 xa9 xa10 xa11 xa12 xa13 hb9 C2
          obtain ⟨xa0, xa1, xa2, xa3, xa4, xa5, xa6, xa7, xa8, xa9, xa10, xa11, xa12, xa13⟩ := msgCells (HXk7.out v9 HB9.out)
          obtain ⟨ma0, ma1, ma2, ma3, ma4, ma5, ma6, ma7, ma8, ma9, ma10, ma11, ma12, ma13⟩ := msgCells (HMk7.out v9 HB9.out)
          go_wp2_with fail
          refine (C3.out v9 HB9.out).mono ?_
          rintro e v10 ⟨rfl, hb10⟩
          have HB10 := Lib.hid (HB9.out.trans (hb10.mono HB9.out.size))
          clear xa0 xa1 xa2 xa3 xa4 xa5 xa6 xa7 xa8 xa9 xa10 xa11 xa12 xa13 ma0 ma1 ma2 ma3 ma4 ma5 ma6 ma7 ma8 ma9 ma10 ma11 ma12 ma13 hb10 C3
          obtain ⟨xa0, xa1, xa2, xa3, xa4, xa5, xa6, xa7, xa8, xa9, xa10, xa11, xa12, xa13⟩ := msgCells (HXk7.out v10 HB10.out)
          obtain ⟨ma0, ma1, ma2, ma3, ma4, ma5, ma6, ma7, ma8, ma9, ma10, ma11, ma12, ma13⟩ := msgCells (HMk7.out v10 HB10.out)
          go_wp2_with fail
          refine (C4.out v10 HB10.out).mono ?_
          rintro e v11 ⟨rfl, hb11⟩
          have HB11 := Lib.hid (HB10.out.trans (hb11.mono HB10.out.size))
          clear xa0 xa1 xa2 xa3 xa4 xa5 xa6 xa7 xa8 xa9 xa10 xa11 xa12 xa13 ma0 ma1 ma2 ma3 ma4 ma5 ma6 ma7 ma8 ma9 ma10 ma11 ma12 ma13 hb11 C4
          obtain ⟨xa0, xa1, xa2, xa3, xa4, xa5, xa6, xa7, xa8, xa9, xa10, xa11, xa12, xa13⟩ := msgCells (HXk7.out v11 HB11.out)
          obtain ⟨ma0, ma1, ma2, ma3, ma4, ma5, ma6, ma7, ma8, ma9, ma10, ma11, ma12, ma13⟩ := msgCells (HMk7.out v11 HB11.out)
          go_wp2_with fail
          refine (C5.out v11 HB11.out).mono ?_
          rintro e v12 ⟨rfl, hb12⟩
          have HB12 := Lib.hid (HB11.out.trans (hb12.mono HB11.out.size))
          clear xa0 xa1 xa2 xa3 xa4 xa5 xa6 xa7 xa8 xa9 xa10 xa11 xa12 xa13 ma0 ma1 ma2 ma3 ma4 ma5 ma6 ma7 ma8 ma9 ma10 ma11 ma12 ma13 hb12 C5
          go_wp2_with fail
          go_roundw
          case rel => exact ⟨k + 1, o7, by omega, by go_num, Lib.hid (HB7.out.below HB12.out)⟩
          case measure => simp [intOf]; omega
      · obtain rfl : k = 2 := by omega
        have hqV : q ≤ V.heap.size := by have h := HS3.out.bel.size; rw [HQ.out] at h; exact h
        go_wp2_with fail
        refine (aliveM_any wr).mono ?_
        rintro e v1 ⟨rfl, hb1⟩
        have HAp := Lib.hid (HK.out.below hb1).apart
        clear hb1
        go_wp2_with fail
        refine HAp.out.mono ?_
        rintro e v2 ⟨rfl, hb2⟩
        go_wp2_with fail
        go_ret
        exact ⟨rfl, by rw [HQ.out]; exact HS3.out.bel.trans (hb2.mono hqV)⟩
end Go.Proofs.YtmdidmllaldbaaaGreat
