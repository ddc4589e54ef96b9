/- The walks of the document's PutMsg and SameMsg. -/
import Derived.Test.YtmdidmllaldbaaaGreatMsgM
import Derived.Test.YtmdidmllaldbaaaGreatRefEntP
import Derived.Test.YtmdidmllaldbaaaGreatRefVar
import Derived.Test.YtmdidmllaldbaaaGreatSince
import Derived.Deep.RegionHeld3
import Derived.Deep.DeepCutAuto
import Derived.Test.YtmdidmllaldbaaaGreatSmallE
import Derived.Deep.QuietTactic
import Derived.BigQuiet
namespace Go.Proofs.YtmdidmllaldbaaaGreat
/-! ### The walks of the document's PutMsg and SameMsg. -/
section
open Go.RowKit
set_option linter.unusedVariables false
theorem rboolM_any (v : Bool) (w : World) : Calls Tryz.prog 191 #[.bool v] w fun e w' => e = .returned (.string ⟨(boolM v).toArray⟩) ∧ w = w' := by
  cases v with
  | false =>
    go_enter Tryz.func191, Tryz.ntmps191
    go_wp2
    go_ret
    exact ⟨rfl, rfl⟩
  | true =>
    go_enter Tryz.func191, Tryz.ntmps191
    go_wp2
    go_ret
    exact ⟨rfl, rfl⟩
theorem rvar_rowM {w : World} {g : Nat} {cs : Array Value} {t : TypeId} (vs : List Int) (n : Nat) (h : w.heap[g]? = some (.cells cs t (0, 0))) (hcs : cs = (vs.map (Value.int .i64)).toArray) (hl : vs.length = n) (hn : n ≤ 1000) (hv : ∀ v ∈ vs, -9223372036854775808 ≤ v ∧ v ≤ 9223372036854775807) :
    Calls Tryz.prog 131 #[.slice (some ⟨g, 0, none⟩) n n] w fun e w' => e = .returned (.string ⟨(vars vs).toArray⟩) ∧ Below w.heap.size w w' := by
  subst hcs
  refine rvars_any (some ⟨g, 0, none⟩) n n vs w hl (by omega) (fun k hk => ⟨g, 0, rfl, blk_lt h, ?_⟩) hv
  rw [Nat.zero_add, blk_cell h]
  have hk2 : k < vs.length := by omega
  simp [hk2, List.getD]
/-- The message's block, along PutMsg. -/
structure MB (w : World) (q : Nat) (m : MsgR) (W : World) : Prop where
  blk : W.heap[q]? = some (.cells #[.int .i64 m.v.kd, .int .i64 m.v.frm, .int .i64 m.v.dst, .int .i64 m.v.tm, .int .i64 m.v.ix, .int .i64 m.v.lt, .int .i64 m.v.cm, .int .i64 m.v.rd, .bool m.v.ok, .bool m.v.dn, .slice m.eo m.en m.ec, .slice m.mo m.mn m.mc, .int .i64 m.v.off, .slice m.po m.pn m.pc] 118 (0, 0))
  bel : Below q w W
  wq : w.heap.size = q
theorem MB.calm {w : World} {q : Nat} {m : MsgR} {W W' : World} (h : MB w q m W) (hb : Below W.heap.size W W') : MB w q m W' :=
  ⟨(hb.block q (blk_lt h.blk)).trans h.blk, h.bel.trans (hb.mono (by have := h.bel.size; have := h.wq; omega)), h.wq⟩
theorem MB.facts {w : World} {q : Nat} {m : MsgR} {W : World} (h : MB w q m W) :
    (W.cell? ⟨q, 0, none⟩ = some (.int .i64 m.v.kd) ∧ W.cell? ⟨q, 1, none⟩ = some (.int .i64 m.v.frm) ∧ W.cell? ⟨q, 2, none⟩ = some (.int .i64 m.v.dst) ∧ W.cell? ⟨q, 3, none⟩ = some (.int .i64 m.v.tm) ∧ W.cell? ⟨q, 4, none⟩ = some (.int .i64 m.v.ix) ∧ W.cell? ⟨q, 5, none⟩ = some (.int .i64 m.v.lt) ∧ W.cell? ⟨q, 6, none⟩ = some (.int .i64 m.v.cm) ∧ W.cell? ⟨q, 7, none⟩ = some (.int .i64 m.v.rd) ∧ W.cell? ⟨q, 8, none⟩ = some (.bool m.v.ok) ∧ W.cell? ⟨q, 9, none⟩ = some (.bool m.v.dn)) ∧
    (W.cell? ⟨q, 10, none⟩ = some (.slice m.eo m.en m.ec) ∧ W.cell? ⟨q, 11, none⟩ = some (.slice m.mo m.mn m.mc) ∧ W.cell? ⟨q, 12, none⟩ = some (.int .i64 m.v.off) ∧ W.cell? ⟨q, 13, none⟩ = some (.slice m.po m.pn m.pc)) := by
  refine ⟨⟨?_, ?_, ?_, ?_, ?_, ?_, ?_, ?_, ?_, ?_⟩, ?_, ?_, ?_, ?_⟩ <;> rw [blk_cell h.blk] <;> rfl
set_option maxRecDepth 20000 in
set_option maxHeartbeats 8000000 in
theorem rputMsg_any {m : MsgR} {w : World} (hM : MsgAt w m) (hok : MsgOk m.v) (hs : MsgSm m.v) :
    Calls Tryz.prog 84 #[m.agg] w fun e w' => e = .returned (.string ⟨(putMsgB m.v).toArray⟩) ∧ Below w.heap.size w w' := by
  obtain ⟨q, hq⟩ : ∃ q, w.heap.size = q := ⟨_, rfl⟩
  have HQ := Lib.hid hq
  have HM : Hid (∀ W, Below q w W → MsgAt W m) := Lib.hid (fun W hb => hM.below (by rw [hq]; exact hb))
  have HOk := Lib.hid hok
  have HSm := Lib.hid hs
  have HS0 : Hid (MB w q m (w.alloc (.cells #[.int .i64 m.v.kd, .int .i64 m.v.frm, .int .i64 m.v.dst, .int .i64 m.v.tm, .int .i64 m.v.ix, .int .i64 m.v.lt, .int .i64 m.v.cm, .int .i64 m.v.rd, .bool m.v.ok, .bool m.v.dn, .slice m.eo m.en m.ec, .slice m.mo m.mn m.mc, .int .i64 m.v.off, .slice m.po m.pn m.pc] 118))) := Lib.hid ⟨new_at _ _ _ hq.symm, (Below.refl _ _).alloc (by omega) _, hq⟩
  have hpnl : m.v.ps.length = m.pn := hM.ps.1
  have henl : m.v.es.length = m.en := hM.es.1
  have hmnl : m.v.ms.length = m.mn := hM.ms.1
  have hpc : (m.pn : Int) ≤ m.pc := by have := hM.pc.1; omega
  have hpl : m.pn ≤ 1000 := by have := hs.pl; omega
  have hel : m.en ≤ 1000 := by have := hs.el; omega
  have hml : m.mn ≤ 1000 := by have := hs.ml; omega
  have HPn := Lib.hid hpnl
  clear hM hok hs hq henl hmnl hpnl
  unfold MsgR.agg
  go_enter Tryz.func84, Tryz.ntmps84
  go_upto_region 1 with fail
  rw [HQ.out]
  generalize (w.alloc (.cells #[.int .i64 m.v.kd, .int .i64 m.v.frm, .int .i64 m.v.dst, .int .i64 m.v.tm, .int .i64 m.v.ix, .int .i64 m.v.lt, .int .i64 m.v.cm, .int .i64 m.v.rd, .bool m.v.ok, .bool m.v.dn, .slice m.eo m.en m.ec, .slice m.mo m.mn m.mc, .int .i64 m.v.off, .slice m.po m.pn m.pc] 118)) = w1 at HS0 ⊢
  obtain ⟨P3, hP3⟩ : ∃ P, P = mh1 m.v ++ (boolM m.v.ok ++ boolM m.v.dn) := ⟨_, rfl⟩
  have HP3 := Lib.hid hP3
  clear hP3
  go_cut [3] (fun s W => s = .string ⟨P3.toArray⟩ ∧ Hid (MB w q m W))
  case first =>
    obtain ⟨i1, i2, i3, i4, i5, i6, i7, i8, i9, -⟩ := HOk.out
    obtain ⟨V, hV⟩ : ∃ V, V = vars [m.v.kd, m.v.frm, m.v.dst, m.v.tm, m.v.ix, m.v.lt, m.v.cm, m.v.rd] := ⟨_, rfl⟩
    obtain ⟨b1, e1⟩ : ∃ b1, b1 = boolM m.v.ok := ⟨_, rfl⟩
    obtain ⟨b2, e2⟩ : ∃ b2, b2 = boolM m.v.dn := ⟨_, rfl⟩
    obtain ⟨P1, hP1⟩ : ∃ P, P = [109] ++ V := ⟨_, rfl⟩
    obtain ⟨P2, hP2⟩ : ∃ P, P = P1 ++ b1 := ⟨_, rfl⟩
    have hm1 : mh1 m.v = P1 := by rw [hP1, hV]; rfl
    have hl1 := (mhd_room HSm.out).1
    rw [hm1] at hl1
    have hp3 : P3 = P2 ++ b2 := by rw [HP3.out, hP2, hm1, e1, e2, List.append_assoc]
    have hb1 : b1.length = 1 := by rw [e1]; exact boolM_len _
    have hb2 : b2.length = 1 := by rw [e2]; exact boolM_len _
    have hcat1 : ∀ W : World, (Op.stringOp .add ⟨#[109]⟩ ⟨V.toArray⟩).run Tryz.prog W = .ok (.string ⟨P1.toArray⟩) W := fun W => by rw [hP1]; exact cat_run [109] _ W (by rw [hP1, List.length_append] at hl1; omega)
    have hcat2 : ∀ W : World, (Op.stringOp .add ⟨P1.toArray⟩ ⟨b1.toArray⟩).run Tryz.prog W = .ok (.string ⟨P2.toArray⟩) W := fun W => by rw [hP2]; exact cat_run _ _ W (by omega)
    have hcat3 : ∀ W : World, (Op.stringOp .add ⟨P2.toArray⟩ ⟨b2.toArray⟩).run Tryz.prog W = .ok (.string ⟨P3.toArray⟩) W := fun W => by rw [hp3]; exact cat_run _ _ W (by rw [hP2, List.length_append]; omega)
    have HB1 : Hid (∀ W, Calls Tryz.prog 191 #[.bool m.v.ok] W fun e w' => e = .returned (.string ⟨b1.toArray⟩) ∧ W = w') := Lib.hid (fun W => by rw [e1]; exact rboolM_any _ W)
    have HB2 : Hid (∀ W, Calls Tryz.prog 191 #[.bool m.v.dn] W fun e w' => e = .returned (.string ⟨b2.toArray⟩) ∧ W = w') := Lib.hid (fun W => by rw [e2]; exact rboolM_any _ W)
    have HVr : Hid (∀ (W : World) (g : Nat) (cs : Array Value) (t : TypeId), W.heap[g]? = some (.cells cs t (0, 0)) → cs = ([m.v.kd, m.v.frm, m.v.dst, m.v.tm, m.v.ix, m.v.lt, m.v.cm, m.v.rd].map (Value.int .i64)).toArray → Calls Tryz.prog 131 #[.slice (some ⟨g, 0, none⟩) 8 8] W fun e w' => e = .returned (.string ⟨V.toArray⟩) ∧ Below W.heap.size W w') :=
      Lib.hid (fun W g cs t h hc => by
        rw [hV]
        exact rvar_rowM _ 8 h hc rfl (by omega) (by
          intro v hv
          simp only [List.mem_cons, List.not_mem_nil, or_false] at hv
          rcases hv with rfl | rfl | rfl | rfl | rfl | rfl | rfl | rfl
          · exact i1
          · exact i2
          · exact i3
          · exact i4
          · exact i5
          · exact i6
          · exact i7
          · exact i8))
    have hr1 : Below w1.heap.size w1 w1 := Below.refl _ _
    have HC : Hid (∀ W, Below w1.heap.size w1 W → W.cell? ⟨q, 0, none⟩ = some (.int .i64 m.v.kd) ∧ W.cell? ⟨q, 1, none⟩ = some (.int .i64 m.v.frm) ∧ W.cell? ⟨q, 2, none⟩ = some (.int .i64 m.v.dst) ∧ W.cell? ⟨q, 3, none⟩ = some (.int .i64 m.v.tm) ∧ W.cell? ⟨q, 4, none⟩ = some (.int .i64 m.v.ix) ∧ W.cell? ⟨q, 5, none⟩ = some (.int .i64 m.v.lt) ∧ W.cell? ⟨q, 6, none⟩ = some (.int .i64 m.v.cm) ∧ W.cell? ⟨q, 7, none⟩ = some (.int .i64 m.v.rd) ∧ W.cell? ⟨q, 8, none⟩ = some (.bool m.v.ok) ∧ W.cell? ⟨q, 9, none⟩ = some (.bool m.v.dn)) := Lib.hid (fun W hb => (HS0.out.calm hb).facts.1)
    clear i1 i2 i3 i4 i5 i6 i7 i8 i9 hV e1 e2 hP1 hP2 hm1 hl1 hp3 hb1 hb2
    go_region_held3 (fun W => W.cell? ⟨q, 0, none⟩ = some (.int .i64 m.v.kd) ∧ W.cell? ⟨q, 1, none⟩ = some (.int .i64 m.v.frm) ∧ W.cell? ⟨q, 2, none⟩ = some (.int .i64 m.v.dst) ∧ W.cell? ⟨q, 3, none⟩ = some (.int .i64 m.v.tm) ∧ W.cell? ⟨q, 4, none⟩ = some (.int .i64 m.v.ix) ∧ W.cell? ⟨q, 5, none⟩ = some (.int .i64 m.v.lt) ∧ W.cell? ⟨q, 6, none⟩ = some (.int .i64 m.v.cm) ∧ W.cell? ⟨q, 7, none⟩ = some (.int .i64 m.v.rd) ∧ W.cell? ⟨q, 8, none⟩ = some (.bool m.v.ok) ∧ W.cell? ⟨q, 9, none⟩ = some (.bool m.v.dn))
      ((refine HC.out _ ?_; (repeat (with_reducible (first | assumption | refine Below.drew ?_ | refine Below.alloc ?_ ?_ _))); all_goals (first | omega | (simp <;> omega))))
      (first
        | (go_at_call 191; ((first | refine (HB1.out _).mono ?_ | refine (HB2.out _).mono ?_); rintro e6 w6 ⟨rfl, rfl⟩))
        | (go_at_call 131; ((refine (HVr.out _ _ _ _ (by (repeat (first | exact new_at _ _ _ (by simp) | refine old_at _ _ _ _ ?_))) rfl).mono ?_); rintro e5 w5 ⟨rfl, hb5⟩; have hv5 : Below w1.heap.size w1 w5 := (by (refine Below.trans ?_ (hb5.mono ?_)); (repeat (with_reducible (first | assumption | refine Below.drew ?_ | refine Below.alloc ?_ ?_ _))); all_goals (first | omega | (simp <;> omega))); clear hb5)))
    all_goals (
      clear hcat1 hcat2 hcat3
      go_wp2_with fail
      go_meet
      exact ⟨rfl, Lib.hid (HS0.out.calm (by (repeat (with_reducible (first | assumption | refine Below.drew ?_ | refine Below.alloc ?_ ?_ _))); all_goals (first | omega | (simp <;> omega))))⟩)
  case rest =>
    rename World => w2
    obtain ⟨rfl, HS2⟩ := hcut
    clear HS0
    obtain ⟨S0, hS0⟩ : ∃ S, S = mhd m.v ++ pairsB (m.v.ps.take 0) := ⟨_, rfl⟩
    have HS0 := Lib.hid hS0
    clear hS0
    go_upto_region 2 with fail
    go_cut [3] (fun s W => s = .string ⟨S0.toArray⟩ ∧ Hid (MB w q m W))
    case first =>
      obtain ⟨b4, e4⟩ : ∃ b, b = putB m.v.es := ⟨_, rfl⟩
      obtain ⟨b6, e6⟩ : ∃ b, b = memB m.v.ms := ⟨_, rfl⟩
      obtain ⟨X, hX⟩ : ∃ b, b = vars [m.v.off, (m.pn : Int)] := ⟨_, rfl⟩
      obtain ⟨P4, hP4⟩ : ∃ P, P = P3 ++ b4 := ⟨_, rfl⟩
      obtain ⟨P5, hP5⟩ : ∃ P, P = P4 ++ b6 := ⟨_, rfl⟩
      have hS : S0 = P5 ++ X := by
        rw [HS0.out, hP5, hP4, HP3.out, e4, e6, hX]
        unfold mhd mh2 mh3
        rw [HPn.out]
        simp [pairsB]
      have hlen := (mhd_room HSm.out).2.2.2
      have hS1 : S0.length ≤ 10300000 := by rw [HS0.out]; simpa [pairsB] using hlen
      have hl5 : P5.length + X.length = S0.length := by rw [hS, List.length_append]
      have hl4 : P4.length + b6.length = P5.length := by rw [hP5, List.length_append]
      have hl3 : P3.length + b4.length = P4.length := by rw [hP4, List.length_append]
      have hcat1 : ∀ W : World, (Op.stringOp .add ⟨P3.toArray⟩ ⟨b4.toArray⟩).run Tryz.prog W = .ok (.string ⟨P4.toArray⟩) W := fun W => by rw [hP4]; exact cat_run _ _ W (by omega)
      have hcat2 : ∀ W : World, (Op.stringOp .add ⟨P4.toArray⟩ ⟨b6.toArray⟩).run Tryz.prog W = .ok (.string ⟨P5.toArray⟩) W := fun W => by rw [hP5]; exact cat_run _ _ W (by omega)
      have hcat3 : ∀ W : World, (Op.stringOp .add ⟨P5.toArray⟩ ⟨X.toArray⟩).run Tryz.prog W = .ok (.string ⟨S0.toArray⟩) W := fun W => by rw [hS]; exact cat_run _ _ W (by omega)
      have HPu : Hid (∀ W, Below w2.heap.size w2 W → Calls Tryz.prog 22 #[.slice m.eo m.en m.ec] W fun e w' => e = .returned (.string ⟨b4.toArray⟩) ∧ Below W.heap.size W w') := Lib.hid (fun W hb => by rw [e4]; exact rput16_any (HM.out W (HS2.out.calm hb).bel).es HOk.out.2.2.2.2.2.2.2.2.2.1.1 (by omega) (by have := HSm.out.ed; omega))
      have HPm : Hid (∀ W, Below w2.heap.size w2 W → Calls Tryz.prog 24 #[.slice m.mo m.mn m.mc] W fun e w' => e = .returned (.string ⟨b6.toArray⟩) ∧ Below W.heap.size W w') := Lib.hid (fun W hb => by rw [e6]; exact rputMembers16_any (HM.out W (HS2.out.calm hb).bel).ms (by omega))
      have HVr : Hid (∀ (W : World) (g : Nat) (cs : Array Value) (t : TypeId), W.heap[g]? = some (.cells cs t (0, 0)) → cs = ([m.v.off, (m.pn : Int)].map (Value.int .i64)).toArray → Calls Tryz.prog 131 #[.slice (some ⟨g, 0, none⟩) 2 2] W fun e w' => e = .returned (.string ⟨X.toArray⟩) ∧ Below W.heap.size W w') :=
        Lib.hid (fun W g cs t h hc => by
          rw [hX]
          exact rvar_rowM _ 2 h hc rfl (by omega) (by
            intro v hv
            simp only [List.mem_cons, List.not_mem_nil, or_false] at hv
            rcases hv with rfl | rfl
            · exact HOk.out.2.2.2.2.2.2.2.2.1
            · omega))
      have hr1 : Below w2.heap.size w2 w2 := Below.refl _ _
      have HC : Hid (∀ W, Below w2.heap.size w2 W → W.cell? ⟨q, 10, none⟩ = some (.slice m.eo m.en m.ec) ∧ W.cell? ⟨q, 11, none⟩ = some (.slice m.mo m.mn m.mc) ∧ W.cell? ⟨q, 12, none⟩ = some (.int .i64 m.v.off) ∧ W.cell? ⟨q, 13, none⟩ = some (.slice m.po m.pn m.pc)) := Lib.hid (fun W hb => (HS2.out.calm hb).facts.2)
      clear e4 e6 hX hP4 hP5 hS hlen hS1 hl5 hl4 hl3
      go_region_held3 (fun W => W.cell? ⟨q, 10, none⟩ = some (.slice m.eo m.en m.ec) ∧ W.cell? ⟨q, 11, none⟩ = some (.slice m.mo m.mn m.mc) ∧ W.cell? ⟨q, 12, none⟩ = some (.int .i64 m.v.off) ∧ W.cell? ⟨q, 13, none⟩ = some (.slice m.po m.pn m.pc))
        ((refine HC.out _ ?_; (repeat (with_reducible (first | assumption | refine Below.drew ?_ | refine Below.alloc ?_ ?_ _))); all_goals (first | omega | (simp <;> omega))))
        (first
          | (go_at_call 22; ((refine (HPu.out _ (by (repeat (with_reducible (first | assumption | refine Below.drew ?_ | refine Below.alloc ?_ ?_ _))); all_goals (first | omega | (simp <;> omega)))).mono ?_); rintro e6 w6 ⟨rfl, hb6⟩; have hv6 : Below w2.heap.size w2 w6 := (by (refine Below.trans ?_ (hb6.mono ?_)); (repeat (with_reducible (first | assumption | refine Below.drew ?_ | refine Below.alloc ?_ ?_ _))); all_goals (first | omega | (simp <;> omega))); have hs6 := hv6.size; have ht6 := hb6.size; (try simp at ht6); have hbz6 := hb6))
          | (go_at_call 24; ((refine (HPm.out _ (by (repeat (with_reducible (first | assumption | refine Below.drew ?_ | refine Below.alloc ?_ ?_ _))); all_goals (first | omega | (simp <;> omega)))).mono ?_); rintro e7 w7 ⟨rfl, hb7⟩; have hv7 : Below w2.heap.size w2 w7 := (by (refine Below.trans ?_ (hb7.mono ?_)); (repeat (with_reducible (first | assumption | refine Below.drew ?_ | refine Below.alloc ?_ ?_ _))); all_goals (first | omega | (simp <;> omega))); have hs7 := hv7.size; have ht7 := hb7.size; (try simp at ht7); have hbz7 := hb7))
          | (go_at_call 131; ((first | refine (HVr.out _ _ _ _ (new_at _ _ _ rfl) rfl).mono ?_ | refine (HVr.out _ _ _ _ ((Below.block hbz7 _ (by simp)).trans (new_at _ _ _ rfl)) rfl).mono ?_ | refine (HVr.out _ _ _ _ ((Below.block hbz7 _ (by first | omega | (simp; done) | (simp; omega))).trans ((Below.block hbz6 _ (by first | omega | (simp; done) | (simp; omega))).trans (new_at _ _ _ rfl))) rfl).mono ?_); rintro e5 w5 ⟨rfl, hb5⟩; have hv5 : Below w2.heap.size w2 w5 := (by (refine Below.trans ?_ (hb5.mono ?_)); (repeat (with_reducible (first | assumption | refine Below.drew ?_ | refine Below.alloc ?_ ?_ _))); all_goals (first | omega | (simp <;> omega))); have hs5 := hv5.size; clear hb5)))
      all_goals (
        clear hcat1 hcat2 hcat3
        go_wp2_with fail
        go_meet
        exact ⟨rfl, Lib.hid (HS2.out.calm (by (repeat (with_reducible (first | assumption | refine Below.drew ?_ | refine Below.alloc ?_ ?_ _))); all_goals (first | omega | (simp <;> omega))))⟩)
    case rest =>
      rename World => w3
      obtain ⟨rfl, HS3⟩ := hcut
      clear HS2 HP3
      go_wp2_with fail
      go_loopw [3, 4] (fun s i wr => ∃ (k : Nat) (S : List UInt8), k ≤ m.pn ∧ i = .int .i64 k ∧ s = .string ⟨S.toArray⟩ ∧ Hid (S = mhd m.v ++ pairsB (m.v.ps.take k)) ∧ Hid (MB w q m wr)) (fun _ i _ => m.pn - (intOf i).toNat)
      case atStart => exact ⟨0, S0, Nat.zero_le _, rfl, rfl, HS0, HS3⟩
      case round =>
        obtain ⟨k, S, hk, rfl, rfl, HSk, HS⟩ := hrel
        have c13 := HS.out.facts.2.2.2.2
        by_cases hlt : k < m.pn
        · have hd1 : decide (k < m.pn) = true := by simpa using hlt
          have hd1' : decide ((k : Int) < (m.pn : Int)) = true := by simp; omega
          obtain ⟨gp, o, p, hpo, hgB, hpk, -, -⟩ := (HM.out wr HS.out.bel).ps.get hlt
          have HPo := Lib.hid hpo
          have hx1 : (0 : Int) ≤ k := by omega
          have hx2 : (k : Int) < m.pn := by omega
          have hroom := msgB_room HSm.out (k + 1)
          have hnext : mhd m.v ++ pairsB (m.v.ps.take (k + 1)) = S ++ pairB p := by rw [pairsB_take_succ _ _ _ hpk, ← List.append_assoc, ← HSk.out]
          rw [hnext] at hroom
          have hsum : p.key.size + p.vl.size ≤ 10000000 := by
            have := le_sum (m.v.ps.map (fun p => p.key.size + p.vl.size)) (p.key.size + p.vl.size) (List.mem_map.2 ⟨p, List.mem_of_getElem? hpk, rfl⟩)
            have := HSm.out.pd
            omega
          obtain ⟨K, hK⟩ : ∃ K, K = textB p.key.data.toList := ⟨_, rfl⟩
          obtain ⟨X, hX⟩ : ∃ K, K = textB p.vl.data.toList := ⟨_, rfl⟩
          obtain ⟨Q1, hQ1⟩ : ∃ Q, Q = S ++ K := ⟨_, rfl⟩
          obtain ⟨Q2, hQ2⟩ : ∃ Q, Q = Q1 ++ X := ⟨_, rfl⟩
          have hQ : S ++ pairB p = Q2 := by rw [hQ2, hQ1, hK, hX]; unfold pairB; rw [List.append_assoc]
          rw [hQ] at hroom hnext
          have hl2 : Q1.length + X.length = Q2.length := by rw [hQ2, List.length_append]
          have hl1 : S.length + K.length = Q1.length := by rw [hQ1, List.length_append]
          have hcat1 : ∀ W : World, (Op.stringOp .add ⟨S.toArray⟩ ⟨K.toArray⟩).run Tryz.prog W = .ok (.string ⟨Q1.toArray⟩) W := fun W => by rw [hQ1]; exact cat_run _ _ W (by omega)
          have hcat2 : ∀ W : World, (Op.stringOp .add ⟨Q1.toArray⟩ ⟨X.toArray⟩).run Tryz.prog W = .ok (.string ⟨Q2.toArray⟩) W := fun W => by rw [hQ2]; exact cat_run _ _ W (by omega)
          have HT1 : Hid (∀ W, Calls Tryz.prog 130 #[.string p.key] W fun e w' => e = .returned (.string ⟨K.toArray⟩) ∧ Below W.heap.size W w') := Lib.hid (fun W => by rw [hK]; exact rtext_any p.key (by omega) W)
          have HT2 : Hid (∀ W, Calls Tryz.prog 130 #[.string p.vl] W fun e w' => e = .returned (.string ⟨X.toArray⟩) ∧ Below W.heap.size W w') := Lib.hid (fun W => by rw [hX]; exact rtext_any p.vl (by omega) W)
          have HNx := Lib.hid hnext
          have HPk := Lib.hid hpk
          have hm13 : ∀ r : SinceW wr.heap.size wr, r.w.cell? ⟨q, 13, none⟩ = some (.slice (some ⟨gp, o, none⟩) m.pn m.pc) := fun r => by rw [← HPo.out]; exact (HS.out.calm r.h).facts.2.2.2.2
          have hp0 : ∀ r : SinceW wr.heap.size wr, r.w.cell? ⟨gp, o + k * 2, none⟩ = some (.string p.key) ∧ r.w.cell? ⟨gp, o + k * 2 + 1, none⟩ = some (.string p.vl) := fun r => by
            obtain ⟨gp', o', p', hpo', _, hpk', k0, k1⟩ := (HM.out r.w (HS.out.calm r.h).bel).ps.get hlt
            rw [HPo.out] at hpo'
            injection hpo' with hpo'
            injection hpo' with e1 e2
            subst e1 e2
            rw [HPk.out] at hpk'
            injection hpk' with hpk'
            subst hpk'
            exact ⟨k0, k1⟩
          have hk0 : ∀ r : SinceW wr.heap.size wr, r.w.cell? ⟨gp, o + k * 2, none⟩ = some (.string p.key) := fun r => (hp0 r).1
          have hk1 : ∀ r : SinceW wr.heap.size wr, r.w.cell? ⟨gp, o + k * 2 + 1, none⟩ = some (.string p.vl) := fun r => (hp0 r).2
          clear hpo hpk hroom hnext hK hX hQ1 hQ2 hQ hl2 hl1 hsum hp0
          rw [HPo.out] at c13
          go_wp2_with fail
          refine wp_region_since (B := wr.heap.size) (W0 := wr) (by kernel_rfl) (by kernel_rfl) (Below.refl _ _) ?_
          repeat (go_big_quiet_step (first
            | (go_at_call 130; first | exact since_call (Nat.le_refl _) (HT1.out _) | exact since_call (Nat.le_refl _) (HT2.out _))))
          refine wpQuiet_nil ?_
          intro _ hw'
          obtain ⟨⟨w5, hv5⟩, rfl⟩ := hw'
          have HV5 := Lib.hid hv5
          clear hm13 hk0 hk1 hv5 hcat1 hcat2 c13
          go_wp2_with fail
          go_roundw
          case rel => exact ⟨k + 1, Q2, by omega, by go_num, rfl, Lib.hid HNx.out.symm, Lib.hid (HS.out.calm HV5.out)⟩
          case measure => simp [intOf] <;> omega
        · obtain rfl : k = m.pn := by omega
          have hd1 : decide (m.pn < m.pn) = false := by simp
          have hd1' : decide ((m.pn : Int) < (m.pn : Int)) = false := by simp
          have hall : S = msgB m.v := by rw [HSk.out, msgB_parts, List.take_of_length_le (by rw [HPn.out]; omega)]
          have hlen := msgB_room HSm.out m.pn
          rw [← HSk.out] at hlen
          have HLm := Lib.hid hall
          clear hall
          go_wp2_with fail
          refine (rcrc_any ⟨S.toArray⟩ (by show S.length ≤ _; omega) _).mono ?_
          rintro e w8 ⟨rfl, rfl⟩
          go_wp2_with fail
          refine (rfix_any (crc S) 4 _ (by have := crc_lt S; omega) (by omega) (by omega)).mono ?_
          have hfx : rfixE (crc S) 4 = (fixB (crc S) 4, 0) := by
            have h := crc_lt S
            unfold rfixE
            rw [if_pos h]
          rw [hfx]
          rintro e w9 ⟨rfl, hb9⟩
          have HB9 := Lib.hid (HS.out.calm hb9).bel
          obtain ⟨F, hF⟩ : ∃ F, F = fixB (crc S) 4 := ⟨_, rfl⟩
          have HF := Lib.hid hF
          rw [← hF]
          have hcat : ∀ W : World, (Op.stringOp .add ⟨S.toArray⟩ ⟨F.toArray⟩).run Tryz.prog W = .ok (.string ⟨(putMsgB m.v).toArray⟩) W := fun W => by rw [HF.out, HLm.out]; exact cat_run _ _ W (by have h := fixB_len (crc (msgB m.v)) 4; rw [h, ← HLm.out]; omega)
          clear hF hfx hb9
          go_wp2_with fail
          go_ret
          exact ⟨rfl, by rw [HQ.out]; exact HB9.out⟩
end
/-! ### The walks of msg.Valid, of the document's SameMsg, of arboretumlaw20.SmallMsg. -/
section
open Go.RowKit
set_option linter.unusedVariables false
set_option linter.unusedSimpArgs false
theorem putMsg_small {m : MsgV} (h : MsgSm m) : (putMsgB m).length ≤ 20400010 := by
  have h1 := msgB_room h m.ps.length
  rw [List.take_length, ← msgB_parts] at h1
  have := (putMsgB_parts m).1
  omega
set_option maxRecDepth 20000 in
set_option maxHeartbeats 4000000 in
theorem mvalid_any {m : MsgR} {w : World} (hM : MsgAt w m) (hok : MsgOk m.v) (hs : MsgSm m.v) :
    Calls Tryz.prog 89 #[m.agg] w fun e w' => e = .returned (.bool ((getMsgV (putMsgB m.v)).2 == 0)) ∧ Below w.heap.size w w' := by
  have hb0 : Below w.heap.size w (w.alloc (.cells #[.int .i64 m.v.kd, .int .i64 m.v.frm, .int .i64 m.v.dst, .int .i64 m.v.tm, .int .i64 m.v.ix, .int .i64 m.v.lt, .int .i64 m.v.cm, .int .i64 m.v.rd, .bool m.v.ok, .bool m.v.dn, .slice m.eo m.en m.ec, .slice m.mo m.mn m.mc, .int .i64 m.v.off, .slice m.po m.pn m.pc] 118)) := (Below.refl _ _).alloc (Nat.le_refl _) _
  have HP := Lib.hid (mput_any (hM.below hb0) hok hs)
  have HB0 := Lib.hid hb0
  have hsz := putMsg_small hs
  have HG := Lib.hid (fun W => mget_any ⟨(putMsgB m.v).toArray⟩ W (by show (putMsgB m.v).length ≤ _; omega))
  obtain ⟨g, hg⟩ : ∃ g, g = (getMsgV (putMsgB m.v)).2 := ⟨_, rfl⟩
  rw [bytes_mk, ← hg] at HG
  rw [← hg]
  clear hb0 hsz hg hM hok hs
  unfold MsgR.agg at HP ⊢
  go_enter Tryz.func89, Tryz.ntmps89
  go_wp2_with fail
  refine HP.out.mono ?_
  rintro e w1 ⟨rfl, hb1⟩
  go_wp2_with fail
  refine (HG.out _).mono ?_
  rintro e w2 ⟨m2, rfl, -, -, hb2⟩
  have HB2 := Lib.hid ((HB0.out.trans (hb1.mono (by simp))).trans (hb2.mono (Nat.le_trans HB0.out.size hb1.size)))
  clear hb1 hb2
  unfold MsgR.agg
  go_wp2_with fail
  go_ret
  exact ⟨rfl, HB2.out.alloc HB2.out.size _⟩
set_option maxRecDepth 20000 in
set_option maxHeartbeats 4000000 in
theorem rsameMsg_yes {a b : MsgR} {w : World} (ha : MsgAt w a) (hb : MsgAt w b) (hv : a.v = b.v) (hok : MsgOk a.v) (hs : MsgSm a.v) :
    Calls Tryz.prog 88 #[a.agg, b.agg] w fun e w' => e = .returned (.bool true) ∧ Below w.heap.size w w' := by
  obtain ⟨q, hq⟩ : ∃ q, w.heap.size = q := ⟨_, rfl⟩
  have HQ := Lib.hid hq
  have HA : Hid (∀ W, Below q w W → Calls Tryz.prog 84 #[a.agg] W fun e w' => e = .returned (.string ⟨(putMsgB a.v).toArray⟩) ∧ Below W.heap.size W w') := Lib.hid (fun W h => rputMsg_any (ha.below (by rw [hq]; exact h)) hok hs)
  have HB : Hid (∀ W, Below q w W → Calls Tryz.prog 84 #[b.agg] W fun e w' => e = .returned (.string ⟨(putMsgB a.v).toArray⟩) ∧ Below W.heap.size W w') := Lib.hid (fun W h => by rw [hv]; exact rputMsg_any (hb.below (by rw [hq]; exact h)) (by rw [← hv]; exact hok) (by rw [← hv]; exact hs))
  obtain ⟨S, hS⟩ : ∃ S, S = putMsgB a.v := ⟨_, rfl⟩
  rw [← hS] at HA HB
  clear ha hb hv hok hs hS hq
  have HW : Hid (Below q w ((w.alloc (.cells #[.int .i64 a.v.kd, .int .i64 a.v.frm, .int .i64 a.v.dst, .int .i64 a.v.tm, .int .i64 a.v.ix, .int .i64 a.v.lt, .int .i64 a.v.cm, .int .i64 a.v.rd, .bool a.v.ok, .bool a.v.dn, .slice a.eo a.en a.ec, .slice a.mo a.mn a.mc, .int .i64 a.v.off, .slice a.po a.pn a.pc] 118)).alloc (.cells #[.int .i64 b.v.kd, .int .i64 b.v.frm, .int .i64 b.v.dst, .int .i64 b.v.tm, .int .i64 b.v.ix, .int .i64 b.v.lt, .int .i64 b.v.cm, .int .i64 b.v.rd, .bool b.v.ok, .bool b.v.dn, .slice b.eo b.en b.ec, .slice b.mo b.mn b.mc, .int .i64 b.v.off, .slice b.po b.pn b.pc] 118))) := Lib.hid (((Below.refl _ _).alloc (by rw [HQ.out]; omega) _).alloc (by simp; have := HQ.out; omega) _)
  have HK1 : Hid (((w.alloc (.cells #[.int .i64 a.v.kd, .int .i64 a.v.frm, .int .i64 a.v.dst, .int .i64 a.v.tm, .int .i64 a.v.ix, .int .i64 a.v.lt, .int .i64 a.v.cm, .int .i64 a.v.rd, .bool a.v.ok, .bool a.v.dn, .slice a.eo a.en a.ec, .slice a.mo a.mn a.mc, .int .i64 a.v.off, .slice a.po a.pn a.pc] 118)).alloc (.cells #[.int .i64 b.v.kd, .int .i64 b.v.frm, .int .i64 b.v.dst, .int .i64 b.v.tm, .int .i64 b.v.ix, .int .i64 b.v.lt, .int .i64 b.v.cm, .int .i64 b.v.rd, .bool b.v.ok, .bool b.v.dn, .slice b.eo b.en b.ec, .slice b.mo b.mn b.mc, .int .i64 b.v.off, .slice b.po b.pn b.pc] 118)).heap[q]? = some (.cells #[.int .i64 a.v.kd, .int .i64 a.v.frm, .int .i64 a.v.dst, .int .i64 a.v.tm, .int .i64 a.v.ix, .int .i64 a.v.lt, .int .i64 a.v.cm, .int .i64 a.v.rd, .bool a.v.ok, .bool a.v.dn, .slice a.eo a.en a.ec, .slice a.mo a.mn a.mc, .int .i64 a.v.off, .slice a.po a.pn a.pc] 118 (0, 0))) := Lib.hid (old_at _ _ _ _ (new_at _ _ _ HQ.out.symm))
  have HK2 : Hid (((w.alloc (.cells #[.int .i64 a.v.kd, .int .i64 a.v.frm, .int .i64 a.v.dst, .int .i64 a.v.tm, .int .i64 a.v.ix, .int .i64 a.v.lt, .int .i64 a.v.cm, .int .i64 a.v.rd, .bool a.v.ok, .bool a.v.dn, .slice a.eo a.en a.ec, .slice a.mo a.mn a.mc, .int .i64 a.v.off, .slice a.po a.pn a.pc] 118)).alloc (.cells #[.int .i64 b.v.kd, .int .i64 b.v.frm, .int .i64 b.v.dst, .int .i64 b.v.tm, .int .i64 b.v.ix, .int .i64 b.v.lt, .int .i64 b.v.cm, .int .i64 b.v.rd, .bool b.v.ok, .bool b.v.dn, .slice b.eo b.en b.ec, .slice b.mo b.mn b.mc, .int .i64 b.v.off, .slice b.po b.pn b.pc] 118)).heap[q + 1]? = some (.cells #[.int .i64 b.v.kd, .int .i64 b.v.frm, .int .i64 b.v.dst, .int .i64 b.v.tm, .int .i64 b.v.ix, .int .i64 b.v.lt, .int .i64 b.v.cm, .int .i64 b.v.rd, .bool b.v.ok, .bool b.v.dn, .slice b.eo b.en b.ec, .slice b.mo b.mn b.mc, .int .i64 b.v.off, .slice b.po b.pn b.pc] 118 (0, 0))) := Lib.hid (new_at _ _ _ (by simp [HQ.out]))
  unfold MsgR.agg at HA HB ⊢
  go_enter Tryz.func88, Tryz.ntmps88
  go_upto_region 1 with fail
  rw [HQ.out]
  generalize ((w.alloc (.cells #[.int .i64 a.v.kd, .int .i64 a.v.frm, .int .i64 a.v.dst, .int .i64 a.v.tm, .int .i64 a.v.ix, .int .i64 a.v.lt, .int .i64 a.v.cm, .int .i64 a.v.rd, .bool a.v.ok, .bool a.v.dn, .slice a.eo a.en a.ec, .slice a.mo a.mn a.mc, .int .i64 a.v.off, .slice a.po a.pn a.pc] 118)).alloc (.cells #[.int .i64 b.v.kd, .int .i64 b.v.frm, .int .i64 b.v.dst, .int .i64 b.v.tm, .int .i64 b.v.ix, .int .i64 b.v.lt, .int .i64 b.v.cm, .int .i64 b.v.rd, .bool b.v.ok, .bool b.v.dn, .slice b.eo b.en b.ec, .slice b.mo b.mn b.mc, .int .i64 b.v.off, .slice b.po b.pn b.pc] 118)) = w1 at HW HK1 HK2 ⊢
  generalize q + 1 = r at HK2 ⊢
  have hA := fun (p : SinceW w1.heap.size w1) => msgCells ((p.h.block _ (blk_lt HK1.out)).trans HK1.out)
  have hB := fun (p : SinceW w1.heap.size w1) => msgCells ((p.h.block _ (blk_lt HK2.out)).trans HK2.out)
  have hqw : q ≤ w1.heap.size := by have := blk_lt HK1.out; omega
  have HA1 : Hid (∀ p : SinceW w1.heap.size w1, Below q w p.w) := Lib.hid (fun p => HW.out.trans (p.h.mono hqw))
  have fa0 : ∀ p : SinceW w1.heap.size w1, p.w.cell? ⟨q, 0, none⟩ = some (.int .i64 a.v.kd) := fun p => (hA p).1
  have fa1 : ∀ p : SinceW w1.heap.size w1, p.w.cell? ⟨q, 1, none⟩ = some (.int .i64 a.v.frm) := fun p => (hA p).2.1
  have fa2 : ∀ p : SinceW w1.heap.size w1, p.w.cell? ⟨q, 2, none⟩ = some (.int .i64 a.v.dst) := fun p => (hA p).2.2.1
  have fa3 : ∀ p : SinceW w1.heap.size w1, p.w.cell? ⟨q, 3, none⟩ = some (.int .i64 a.v.tm) := fun p => (hA p).2.2.2.1
  have fa4 : ∀ p : SinceW w1.heap.size w1, p.w.cell? ⟨q, 4, none⟩ = some (.int .i64 a.v.ix) := fun p => (hA p).2.2.2.2.1
  have fa5 : ∀ p : SinceW w1.heap.size w1, p.w.cell? ⟨q, 5, none⟩ = some (.int .i64 a.v.lt) := fun p => (hA p).2.2.2.2.2.1
  have fa6 : ∀ p : SinceW w1.heap.size w1, p.w.cell? ⟨q, 6, none⟩ = some (.int .i64 a.v.cm) := fun p => (hA p).2.2.2.2.2.2.1
  have fa7 : ∀ p : SinceW w1.heap.size w1, p.w.cell? ⟨q, 7, none⟩ = some (.int .i64 a.v.rd) := fun p => (hA p).2.2.2.2.2.2.2.1
  have fa8 : ∀ p : SinceW w1.heap.size w1, p.w.cell? ⟨q, 8, none⟩ = some (.bool a.v.ok) := fun p => (hA p).2.2.2.2.2.2.2.2.1
  have fa9 : ∀ p : SinceW w1.heap.size w1, p.w.cell? ⟨q, 9, none⟩ = some (.bool a.v.dn) := fun p => (hA p).2.2.2.2.2.2.2.2.2.1
  have fa10 : ∀ p : SinceW w1.heap.size w1, p.w.cell? ⟨q, 10, none⟩ = some (.slice a.eo a.en a.ec) := fun p => (hA p).2.2.2.2.2.2.2.2.2.2.1
  have fa11 : ∀ p : SinceW w1.heap.size w1, p.w.cell? ⟨q, 11, none⟩ = some (.slice a.mo a.mn a.mc) := fun p => (hA p).2.2.2.2.2.2.2.2.2.2.2.1
  have fa12 : ∀ p : SinceW w1.heap.size w1, p.w.cell? ⟨q, 12, none⟩ = some (.int .i64 a.v.off) := fun p => (hA p).2.2.2.2.2.2.2.2.2.2.2.2.1
  have fa13 : ∀ p : SinceW w1.heap.size w1, p.w.cell? ⟨q, 13, none⟩ = some (.slice a.po a.pn a.pc) := fun p => (hA p).2.2.2.2.2.2.2.2.2.2.2.2.2
  have fb0 : ∀ p : SinceW w1.heap.size w1, p.w.cell? ⟨r, 0, none⟩ = some (.int .i64 b.v.kd) := fun p => (hB p).1
  have fb1 : ∀ p : SinceW w1.heap.size w1, p.w.cell? ⟨r, 1, none⟩ = some (.int .i64 b.v.frm) := fun p => (hB p).2.1
  have fb2 : ∀ p : SinceW w1.heap.size w1, p.w.cell? ⟨r, 2, none⟩ = some (.int .i64 b.v.dst) := fun p => (hB p).2.2.1
  have fb3 : ∀ p : SinceW w1.heap.size w1, p.w.cell? ⟨r, 3, none⟩ = some (.int .i64 b.v.tm) := fun p => (hB p).2.2.2.1
  have fb4 : ∀ p : SinceW w1.heap.size w1, p.w.cell? ⟨r, 4, none⟩ = some (.int .i64 b.v.ix) := fun p => (hB p).2.2.2.2.1
  have fb5 : ∀ p : SinceW w1.heap.size w1, p.w.cell? ⟨r, 5, none⟩ = some (.int .i64 b.v.lt) := fun p => (hB p).2.2.2.2.2.1
  have fb6 : ∀ p : SinceW w1.heap.size w1, p.w.cell? ⟨r, 6, none⟩ = some (.int .i64 b.v.cm) := fun p => (hB p).2.2.2.2.2.2.1
  have fb7 : ∀ p : SinceW w1.heap.size w1, p.w.cell? ⟨r, 7, none⟩ = some (.int .i64 b.v.rd) := fun p => (hB p).2.2.2.2.2.2.2.1
  have fb8 : ∀ p : SinceW w1.heap.size w1, p.w.cell? ⟨r, 8, none⟩ = some (.bool b.v.ok) := fun p => (hB p).2.2.2.2.2.2.2.2.1
  have fb9 : ∀ p : SinceW w1.heap.size w1, p.w.cell? ⟨r, 9, none⟩ = some (.bool b.v.dn) := fun p => (hB p).2.2.2.2.2.2.2.2.2.1
  have fb10 : ∀ p : SinceW w1.heap.size w1, p.w.cell? ⟨r, 10, none⟩ = some (.slice b.eo b.en b.ec) := fun p => (hB p).2.2.2.2.2.2.2.2.2.2.1
  have fb11 : ∀ p : SinceW w1.heap.size w1, p.w.cell? ⟨r, 11, none⟩ = some (.slice b.mo b.mn b.mc) := fun p => (hB p).2.2.2.2.2.2.2.2.2.2.2.1
  have fb12 : ∀ p : SinceW w1.heap.size w1, p.w.cell? ⟨r, 12, none⟩ = some (.int .i64 b.v.off) := fun p => (hB p).2.2.2.2.2.2.2.2.2.2.2.2.1
  have fb13 : ∀ p : SinceW w1.heap.size w1, p.w.cell? ⟨r, 13, none⟩ = some (.slice b.po b.pn b.pc) := fun p => (hB p).2.2.2.2.2.2.2.2.2.2.2.2.2
  clear hA hB
  refine wp_region_since (B := w1.heap.size) (W0 := w1) (by kernel_rfl) (by kernel_rfl) (Below.refl _ _) ?_
  iterate 2 (go_big_quiet_step (first | (go_at_call 84; exact since_call (Nat.le_refl _) (HA.out _ (HA1.out _)))))
  repeat (go_big_quiet_step (first | (go_at_call 84; exact since_call (Nat.le_refl _) (HB.out _ (HA1.out _)))))
  refine wpQuiet_nil ?_
  intro _ hw'
  obtain ⟨⟨w5, hv5⟩, rfl⟩ := hw'
  have HB5 := Lib.hid (HW.out.trans (hv5.mono hqw))
  clear fa0 fb0 fa1 fb1 fa2 fb2 fa3 fb3 fa4 fb4 fa5 fb5 fa6 fb6 fa7 fb7 fa8 fb8 fa9 fb9 fa10 fb10 fa11 fb11 fa12 fb12 fa13 fb13 hv5
  go_wp2_with fail
  go_ret
  exact ⟨rfl, by rw [HQ.out]; exact HB5.out⟩
def parSum (l : List Par) : Nat := (l.map (fun p => p.key.size + p.vl.size)).sum
/-- What SmallMsg tells. -/
def SmallM (m : MsgR) : Prop := m.en ≤ 40 ∧ dataSum m.v.es ≤ 12000 ∧ m.mn ≤ 40 ∧ m.pn ≤ 60 ∧ parSum m.v.ps ≤ 20000
def SmallMRes (m : MsgR) (w : World) (e : Ending) (w' : World) : Prop := ∃ r : Bool, e = .returned (.bool r) ∧ (r = true → SmallM m) ∧ Below w.heap.size w w'
theorem SmallM.sm {w : World} {m : MsgR} (h : SmallM m) (hi : MsgIn w m) : MsgSm m.v := by
  obtain ⟨h1, h2, h3, h4, h5⟩ := h
  have e1 := hi.es.ents.1
  have e2 := hi.ms.len
  have e3 := hi.ps.pars.1
  unfold dataSum at h2
  unfold parSum at h5
  exact ⟨by omega, by omega, by omega, by omega, by omega⟩
theorem room_two_atM (left v u : Int) {W : World} {g : Nat} {t : TypeId} (h : W.heap[g]? = some (.cells #[.int .i64 v, .int .i64 u] t (0, 0))) (h1 : -1 ≤ left) (h2 : left ≤ 9223372036854775807) (h3 : 0 ≤ v) (h4 : v ≤ 9223372036854775807) (h5 : 0 ≤ u) (h6 : u ≤ 9223372036854775807) :
    Calls Tryz.prog 113 #[.int .i64 left, .slice (some ⟨g, 0, none⟩) 2 2] W (RoomEq left (v + u) W) := by
  have hv : ∀ x ∈ [v, u], 0 ≤ x ∧ x ≤ 9223372036854775807 := by simp; omega
  have hi : IntsAt W (some ⟨g, 0, none⟩) 2 [v, u] := ⟨rfl, fun _ => ⟨g, 0, rfl, fun k x hk => by
    rw [blk_cell h]
    rcases k with _ | _ | k
    · have : x = v := by simpa using hk.symm
      subst this; rfl
    · have : x = u := by simpa using hk.symm
      subst this; rfl
    · simp at hk⟩⟩
  refine (room_any left _ 2 2 [v, u] _ hi (by omega) hv (by omega) h2).mono ?_
  rintro e w' ⟨he, hw⟩
  have := roomV_le [v, u] left (fun x hx => (hv x hx).1) h1
  refine ⟨_, he, this.1, this.2, ?_, hw⟩
  unfold roomV
  split
  · omega
  · unfold roomV roomV
    split <;> omega
set_option maxRecDepth 20000 in
set_option maxHeartbeats 4000000 in
theorem smallMsg_any {m : MsgR} {w : World} (hI : MsgIn w m) :
    Calls Tryz.prog 78 #[m.agg] w (SmallMRes m w) := by
  obtain ⟨q, hq⟩ : ∃ q, w.heap.size = q := ⟨_, rfl⟩
  have HQ := Lib.hid hq
  have HI := Lib.hid hI
  have HE : Hid (∀ W, Below q w W → EntsIn W m.eo m.en m.ec m.v.es) := Lib.hid (fun W h => ⟨(hI.es.ents.below (by rw [hq]; exact h)).mono (by rw [hq]; have := h.size; omega), hI.es.le, hI.es.nil_, hI.es.sz, hI.es.ok⟩)
  have HS0 : Hid (MB w q m (w.alloc (.cells #[.int .i64 m.v.kd, .int .i64 m.v.frm, .int .i64 m.v.dst, .int .i64 m.v.tm, .int .i64 m.v.ix, .int .i64 m.v.lt, .int .i64 m.v.cm, .int .i64 m.v.rd, .bool m.v.ok, .bool m.v.dn, .slice m.eo m.en m.ec, .slice m.mo m.mn m.mc, .int .i64 m.v.off, .slice m.po m.pn m.pc] 118))) := Lib.hid ⟨new_at _ _ _ hq.symm, (Below.refl _ _).alloc (by omega) _, hq⟩
  have hen : m.en ≤ 140737488351232 := by have := hI.es.sz; have := hI.es.le; omega
  have hmn : m.mn ≤ 140737488351232 := by have := hI.ms.sz; have := hI.ms.le; omega
  have hpn : m.pn ≤ 140737488351232 := by have := hI.ps.sz; have := hI.ps.le; omega
  have hpc : (m.pn : Int) ≤ m.pc := by have := hI.ps.le; omega
  clear hI hq
  unfold MsgR.agg
  go_enter Tryz.func78, Tryz.ntmps78
  go_upto_region 1 with fail
  rw [HQ.out]
  generalize (w.alloc (.cells #[.int .i64 m.v.kd, .int .i64 m.v.frm, .int .i64 m.v.dst, .int .i64 m.v.tm, .int .i64 m.v.ix, .int .i64 m.v.lt, .int .i64 m.v.cm, .int .i64 m.v.rd, .bool m.v.ok, .bool m.v.dn, .slice m.eo m.en m.ec, .slice m.mo m.mn m.mc, .int .i64 m.v.off, .slice m.po m.pn m.pc] 118)) = w1 at HS0 ⊢
  obtain ⟨c10, c11, -, c13⟩ := HS0.out.facts.2
  by_cases h40 : 40 < m.en
  · have hd1 : decide (40 < m.en) = true := by simpa using h40
    have hd1' : decide ((40 : Int) < (m.en : Int)) = true := by simp; omega
    go_wp2_with fail
    go_ret
    exact ⟨false, rfl, (fun h => by cases h), by rw [HQ.out]; exact HS0.out.bel⟩
  have hd1 : decide (40 < m.en) = false := by simpa using h40
  have hd1' : decide ((40 : Int) < (m.en : Int)) = false := by simp; omega
  have HSm := Lib.hid (small_any (HE.out w1 HS0.out.bel))
  go_wp2_with fail
  refine HSm.out.mono ?_
  rintro e w2 ⟨r2, rfl, hr2, hb2⟩
  have HS2 := Lib.hid (HS0.out.calm hb2)
  clear hb2 HS0 c10 c11 c13 HSm
  obtain ⟨c10, c11, -, c13⟩ := HS2.out.facts.2
  cases r2 with
  | false =>
    clear hr2
    go_wp2_with fail
    go_ret
    exact ⟨false, rfl, (fun h => by cases h), by rw [HQ.out]; exact HS2.out.bel⟩
  | true =>
  obtain ⟨-, hsum⟩ := hr2 rfl
  have HSum := Lib.hid hsum
  clear hr2 hsum
  by_cases h41 : 40 < m.mn
  · have hd2 : decide (40 < m.mn) = true := by simpa using h41
    have hd2' : decide ((40 : Int) < (m.mn : Int)) = true := by simp; omega
    go_wp2_with fail
    go_ret
    exact ⟨false, rfl, (fun h => by cases h), by rw [HQ.out]; exact HS2.out.bel⟩
  have hd2 : decide (40 < m.mn) = false := by simpa using h41
  have hd2' : decide ((40 : Int) < (m.mn : Int)) = false := by simp; omega
  by_cases h60 : 60 < m.pn
  · have hd3 : decide (60 < m.pn) = true := by simpa using h60
    have hd3' : decide ((60 : Int) < (m.pn : Int)) = true := by simp; omega
    go_wp2_with fail
    go_ret
    exact ⟨false, rfl, (fun h => by cases h), by rw [HQ.out]; exact HS2.out.bel⟩
  have hd3 : decide (60 < m.pn) = false := by simpa using h60
  have hd3' : decide ((60 : Int) < (m.pn : Int)) = false := by simp; omega
  go_wp2_with fail
  go_loopw [3, 4] (fun x i wr => ∃ (k : Nat) (R : Int), k ≤ m.pn ∧ x = .int .i64 R ∧ i = .int .i64 k ∧ -1 ≤ R ∧ R ≤ 20000 ∧ Hid (0 ≤ R → R = 20000 - ((((m.v.ps.map (fun p => p.key.size + p.vl.size)).take k).sum : Nat) : Int)) ∧ Hid (MB w q m wr)) (fun _ i _ => m.pn - (intOf i).toNat)
  case atStart => exact ⟨0, 20000, Nat.zero_le _, rfl, rfl, by omega, by omega, Lib.hid (by simp), HS2⟩
  case round =>
    obtain ⟨k, R, hk, rfl, rfl, hR1, hR2, HR, HS⟩ := hrel
    have c13 := HS.out.facts.2.2.2.2
    by_cases hlt : k < m.pn
    · have hd4 : decide (k < m.pn) = true := by simpa using hlt
      have hd4' : decide ((k : Int) < (m.pn : Int)) = true := by simp; omega
      by_cases hR0 : 0 ≤ R
      · have hd : decide (0 ≤ R) = true := by simpa using hR0
        obtain ⟨gp, o, p, hpo, hgB, hpk, -, -⟩ := ((HI.out.at_.below (by rw [HQ.out]; exact HS.out.bel)).ps).get hlt
        obtain ⟨hk1, hk2⟩ := HI.out.ps.ok p (List.mem_of_getElem? hpk)
        have HSt := Lib.hid (sum_take_succ (m.v.ps.map (fun p => p.key.size + p.vl.size)) k (p.key.size + p.vl.size) (by rw [List.getElem?_map, hpk]; rfl))
        have HPo := Lib.hid hpo
        have HPk := Lib.hid hpk
        have HC : Hid (∀ W, Below wr.heap.size wr W → W.cell? ⟨q, 13, none⟩ = some (.slice (some ⟨gp, o, none⟩) m.pn m.pc) ∧ W.cell? ⟨gp, o + k * 2, none⟩ = some (.string p.key) ∧ W.cell? ⟨gp, o + k * 2 + 1, none⟩ = some (.string p.vl)) := Lib.hid (fun W hb => by
          refine ⟨by rw [← HPo.out]; exact (HS.out.calm hb).facts.2.2.2.2, ?_⟩
          obtain ⟨gp', o', p', hpo', _, hpk', k0, k1⟩ := ((HI.out.at_.below (by rw [HQ.out]; exact (HS.out.calm hb).bel)).ps).get hlt
          rw [HPo.out] at hpo'
          injection hpo' with hpo'
          injection hpo' with e1 e2
          subst e1 e2
          rw [HPk.out] at hpk'
          injection hpk' with hpk'
          subst hpk'
          exact ⟨k0, k1⟩)
        have hx1 : (0 : Int) ≤ k := by omega
        have hx2 : (k : Int) < m.pn := by omega
        have hrr : Below wr.heap.size wr wr := Below.refl _ _
        rw [hpo] at c13
        clear hpo hpk
        go_wp2_with fail
        clear c13
        go_region_held3 (fun W => W.cell? ⟨q, 13, none⟩ = some (.slice (some ⟨gp, o, none⟩) m.pn m.pc) ∧ W.cell? ⟨gp, o + k * 2, none⟩ = some (.string p.key) ∧ W.cell? ⟨gp, o + k * 2 + 1, none⟩ = some (.string p.vl))
          ((refine HC.out _ ?_; (repeat (with_reducible (first | assumption | refine Below.drew ?_ | refine Below.alloc ?_ ?_ _))); all_goals (first | omega | (simp <;> omega))))
          ((go_at_call 113; refine (room_two_atM R (p.key.size : Int) (p.vl.size : Int) (by first | exact new_at _ _ _ (by simp) | exact old_at _ _ _ _ (new_at _ _ _ (by simp))) hR1 (by omega) (by omega) (by omega) (by omega) (by omega)).mono ?_; rintro e' w5 ⟨y, rfl, hy1, hy2, hy3, rfl⟩; have HY := Lib.hid hy3; clear hy3))
        all_goals (
          go_wp2_with fail
          go_roundw
          case rel => exact ⟨k + 1, y, by omega, rfl, by go_num, hy1, by omega, Lib.hid (fun h0 => by have := HY.out h0; have := HR.out hR0; rw [HSt.out]; omega), Lib.hid (HS.out.calm (by (repeat (with_reducible (first | assumption | refine Below.drew ?_ | refine Below.alloc ?_ ?_ _))); all_goals (first | omega | (simp <;> omega))))⟩
          case measure => simp [intOf] <;> omega)
      · have hd : decide (0 ≤ R) = false := by simpa using hR0
        go_wp2_with fail
        all_goals (go_ret; exact ⟨false, rfl, (fun h => by cases h), by rw [HQ.out]; exact HS.out.bel⟩)
    · obtain rfl : k = m.pn := by omega
      have hd4 : decide (m.pn < m.pn) = false := by simp
      have hd4' : decide ((m.pn : Int) < (m.pn : Int)) = false := by simp
      have hfull : ((m.v.ps.map (fun p => p.key.size + p.vl.size)).take m.pn).sum = parSum m.v.ps := by
        unfold parSum
        rw [List.take_of_length_le (by rw [List.length_map, HI.out.ps.pars.1]; omega)]
      have HFu := Lib.hid hfull
      clear hfull
      by_cases hR0 : 0 ≤ R
      · have hd : decide (0 ≤ R) = true := by simpa using hR0
        go_wp2_with fail
        all_goals (go_ret; exact ⟨true, rfl, (fun _ => ⟨by omega, HSum.out, by omega, by omega, by have := HR.out hR0; rw [HFu.out] at this; omega⟩), by rw [HQ.out]; exact HS.out.bel⟩)
      · have hd : decide (0 ≤ R) = false := by simpa using hR0
        go_wp2_with fail
        all_goals (go_ret; exact ⟨false, rfl, (fun h => by cases h), by rw [HQ.out]; exact HS.out.bel⟩)
end
/-! ### The walk of arboretumlaw26.alive. -/
section
open Go.RowKit
set_option linter.unusedVariables false
set_option linter.unusedSimpArgs false
theorem own_caps {w : World} {base : Nat} {t : TypeId} {s n c n' : Nat} {ao : Option Addr} {xs : List Value} (h : w.ownsRow base t s (.slice ao n c) n' xs) : n ≤ c ∧ c ≤ 9223372036854775807 := by
  rcases h.2 with ⟨hv, _⟩ | ⟨g, cap, cur, hv, _, _, hnc, hm, _⟩
  · injection hv with _ h1 h2; subst h1 h2; omega
  · injection hv with _ h1 h2
    subst h1 h2
    unfold maxLen at hm
    omega
theorem MsgOwn.at_ {W : World} {base : Nat} {m : MsgR} (h : MsgOwn W base m) (hok : MsgOk m.v) : MsgAt W m := by
  refine ⟨ents_own h.es, ⟨h.ml, hok.2.2.2.2.2.2.2.2.2.2.1.1, fun hn => ?_⟩, pars_own h.ps, own_caps h.es, own_caps h.ms, own_caps h.ps⟩
  obtain ⟨g, cap, hv, hb, hlt⟩ := h.ms.form hn
  injection hv with hv _ _
  refine ⟨g, 0, hv, hlt, fun k v hk => ?_⟩
  have hm := h.ms
  rw [hv] at hm
  rw [Nat.zero_add, hm.cellAt k (by have := (List.getElem?_eq_some_iff.1 hk).1; have := h.ml; omega), List.getElem?_map, hk]
  rfl
def m0V : MsgV := ⟨3, 1, 2, 4, 0, 0, 0, 0, true, false, [⟨1, 4, 0, ⟨#[]⟩⟩], [], 0, [⟨⟨#[107]⟩, ⟨#[]⟩⟩]⟩
theorem m0_get : (getMsgV (putMsgB m0V)).2 = 0 := by decide +kernel
theorem mm_get : (getMsgV [109]).2 = 5 := by decide +kernel
theorem m0_ok : MsgOk m0V := by
  unfold MsgOk m0V I64
  dsimp only
  refine ⟨by omega, by omega, by omega, by omega, by omega, by omega, by omega, by omega, by omega, ⟨?_, by simp⟩, ⟨by simp, by simp⟩, ⟨?_, by simp⟩⟩
  · intro e he
    obtain rfl : e = ⟨1, 4, 0, ⟨#[]⟩⟩ := by simpa using he
    unfold EntOk
    exact ⟨by decide, by decide, by decide, by decide⟩
  · intro p hp
    obtain rfl : p = ⟨⟨#[107]⟩, ⟨#[]⟩⟩ := by simpa using hp
    exact ⟨by decide, by decide⟩
theorem m0_sm : MsgSm m0V := ⟨by decide, by decide, by decide, by decide, by decide⟩
def m0R (eb pb : Nat) : MsgR := ⟨m0V, some ⟨eb, 0, none⟩, 1, 1, none, 0, 0, some ⟨pb, 0, none⟩, 1, 1⟩
theorem m0_at {W : World} {eb pb : Nat} (h1 : W.heap[eb]? = some (.cells #[.int .i64 1, .int .i64 4, .int .i64 0, .string ⟨#[]⟩] 51 (0, 0))) (h2 : W.heap[pb]? = some (.cells #[.string ⟨#[107]⟩, .string ⟨#[]⟩] 202 (0, 0))) : MsgAt W (m0R eb pb) := by
  refine ⟨⟨rfl, fun _ => ⟨eb, 0, rfl, blk_lt h1, fun k e hk => ?_⟩⟩, ⟨rfl, (fun v hv => by cases hv), fun h => absurd h (by show ¬ 0 < 0; omega)⟩, ⟨rfl, fun _ => ⟨pb, 0, rfl, blk_lt h2, fun k e hk => ?_⟩⟩, (by show 1 ≤ 1 ∧ 1 ≤ _; omega), (by show 0 ≤ 0 ∧ 0 ≤ _; omega), (by show 1 ≤ 1 ∧ 1 ≤ _; omega)⟩
  · rcases k with _ | k
    · obtain rfl : (⟨1, 4, 0, ⟨#[]⟩⟩ : Ent) = e := by simpa [m0R, m0V] using hk
      refine ⟨?_, ?_, ?_, ?_⟩ <;> rw [blk_cell h1] <;> rfl
    · simp [m0R, m0V] at hk
  · rcases k with _ | k
    · obtain rfl : (⟨⟨#[107]⟩, ⟨#[]⟩⟩ : Par) = e := by simpa [m0R, m0V] using hk
      refine ⟨?_, ?_⟩ <;> rw [blk_cell h2] <;> rfl
    · simp [m0R, m0V] at hk
set_option maxRecDepth 20000 in
set_option maxHeartbeats 4000000 in
theorem aliveM_any (w : World) : Calls Tryz.prog 79 #[] w fun e w' => e = .returned (.bool true) ∧ Below w.heap.size w w' := by
  have HG : Hid (∀ W, Calls Tryz.prog 85 #[.string ⟨(putMsgB m0V).toArray⟩] W fun e w' => ∃ m : MsgR, e = .returned (.tuple #[m.agg, .int .i64 0]) ∧ m.v = m0V ∧ MsgOwn w' W.heap.size m ∧ Below W.heap.size W w') := Lib.hid (fun W => by
    refine (mget_any ⟨(putMsgB m0V).toArray⟩ W (by have := putMsg_small m0_sm; show (putMsgB m0V).length ≤ _; omega)).mono ?_
    rw [bytes_mk, m0_get, getMsg_put m0V m0_ok m0_get]
    exact fun e w' h => h)
  have HM : Hid (∀ W, Calls Tryz.prog 85 #[.string ⟨#[109]⟩] W fun e w' => ∃ m : MsgR, e = .returned (.tuple #[m.agg, .int .i64 5]) ∧ Below W.heap.size W w') := Lib.hid (fun W => by
    refine (mget_any ⟨#[109]⟩ W (by decide)).mono ?_
    have e : (ByteArray.mk #[109]).data.toList = [109] := rfl
    rw [e, mm_get]
    rintro e w' ⟨m, rfl, -, -, hb⟩
    exact ⟨m, rfl, hb⟩)
  obtain ⟨S, hS⟩ : ∃ S, S = putMsgB m0V := ⟨_, rfl⟩
  have HP : Hid (∀ W eb pb, MsgAt W (m0R eb pb) → Calls Tryz.prog 83 #[.agg #[.int .i64 3, .int .i64 1, .int .i64 2, .int .i64 4, .int .i64 0, .int .i64 0, .int .i64 0, .int .i64 0, .bool true, .bool false, .slice (some ⟨eb, 0, none⟩) 1 1, .slice none 0 0, .int .i64 0, .slice (some ⟨pb, 0, none⟩) 1 1]] W fun e w' => e = .returned (.string ⟨S.toArray⟩) ∧ Below W.heap.size W w') := Lib.hid (fun W eb pb h => by rw [hS]; exact mput_any (m := m0R eb pb) h m0_ok m0_sm)
  have HV : Hid (∀ W eb pb, MsgAt W (m0R eb pb) → Calls Tryz.prog 89 #[.agg #[.int .i64 3, .int .i64 1, .int .i64 2, .int .i64 4, .int .i64 0, .int .i64 0, .int .i64 0, .int .i64 0, .bool true, .bool false, .slice (some ⟨eb, 0, none⟩) 1 1, .slice none 0 0, .int .i64 0, .slice (some ⟨pb, 0, none⟩) 1 1]] W fun e w' => e = .returned (.bool true) ∧ Below W.heap.size W w') := Lib.hid (fun W eb pb h => by
    have h2 := mvalid_any (m := m0R eb pb) h m0_ok m0_sm
    have e : ((getMsgV (putMsgB (m0R eb pb).v)).2 == 0) = true := by
      show ((getMsgV (putMsgB m0V)).2 == 0) = true
      rw [m0_get]; rfl
    rw [e] at h2
    exact h2)
  have HSa : Hid (∀ W eb pb (x : MsgR), x.v = m0V → MsgAt W x → MsgAt W (m0R eb pb) → Calls Tryz.prog 88 #[x.agg, .agg #[.int .i64 3, .int .i64 1, .int .i64 2, .int .i64 4, .int .i64 0, .int .i64 0, .int .i64 0, .int .i64 0, .bool true, .bool false, .slice (some ⟨eb, 0, none⟩) 1 1, .slice none 0 0, .int .i64 0, .slice (some ⟨pb, 0, none⟩) 1 1]] W fun e w' => e = .returned (.bool true) ∧ Below W.heap.size W w') := Lib.hid (fun W eb pb x hx h1 h2 => rsameMsg_yes (b := m0R eb pb) h1 h2 hx (by rw [hx]; exact m0_ok) (by rw [hx]; exact m0_sm))
  rw [← hS] at HG
  clear hS
  obtain ⟨eb, heb⟩ : ∃ eb, w.heap.size = eb := ⟨_, rfl⟩
  have HEb := Lib.hid heb
  have HB1 : Hid (Below eb w (((w.alloc (.cells #[.int .i64 1, .int .i64 4, .int .i64 0, .string ⟨#[]⟩] 51)).alloc (.cells #[.string ⟨#[107]⟩, .string ⟨#[]⟩] 202)).alloc (.cells #[.int .i64 3, .int .i64 1, .int .i64 2, .int .i64 4, .int .i64 0, .int .i64 0, .int .i64 0, .int .i64 0, .bool true, .bool false, .slice (some ⟨eb, 0, none⟩) 1 1, .slice none 0 0, .int .i64 0, .slice (some ⟨eb + 1, 0, none⟩) 1 1] 118))) := Lib.hid ((((Below.refl _ _).alloc (by omega) _).alloc (by simp; omega) _).alloc (by simp; omega) _)
  have HK1 : Hid ((((w.alloc (.cells #[.int .i64 1, .int .i64 4, .int .i64 0, .string ⟨#[]⟩] 51)).alloc (.cells #[.string ⟨#[107]⟩, .string ⟨#[]⟩] 202)).alloc (.cells #[.int .i64 3, .int .i64 1, .int .i64 2, .int .i64 4, .int .i64 0, .int .i64 0, .int .i64 0, .int .i64 0, .bool true, .bool false, .slice (some ⟨eb, 0, none⟩) 1 1, .slice none 0 0, .int .i64 0, .slice (some ⟨eb + 1, 0, none⟩) 1 1] 118)).heap[eb]? = some (.cells #[.int .i64 1, .int .i64 4, .int .i64 0, .string ⟨#[]⟩] 51 (0, 0))) := Lib.hid (old_at _ _ _ _ (old_at _ _ _ _ (new_at _ _ _ heb.symm)))
  have HK2 : Hid ((((w.alloc (.cells #[.int .i64 1, .int .i64 4, .int .i64 0, .string ⟨#[]⟩] 51)).alloc (.cells #[.string ⟨#[107]⟩, .string ⟨#[]⟩] 202)).alloc (.cells #[.int .i64 3, .int .i64 1, .int .i64 2, .int .i64 4, .int .i64 0, .int .i64 0, .int .i64 0, .int .i64 0, .bool true, .bool false, .slice (some ⟨eb, 0, none⟩) 1 1, .slice none 0 0, .int .i64 0, .slice (some ⟨eb + 1, 0, none⟩) 1 1] 118)).heap[eb + 1]? = some (.cells #[.string ⟨#[107]⟩, .string ⟨#[]⟩] 202 (0, 0))) := Lib.hid (old_at _ _ _ _ (new_at _ _ _ (by simp [heb])))
  have HK3 : Hid ((((w.alloc (.cells #[.int .i64 1, .int .i64 4, .int .i64 0, .string ⟨#[]⟩] 51)).alloc (.cells #[.string ⟨#[107]⟩, .string ⟨#[]⟩] 202)).alloc (.cells #[.int .i64 3, .int .i64 1, .int .i64 2, .int .i64 4, .int .i64 0, .int .i64 0, .int .i64 0, .int .i64 0, .bool true, .bool false, .slice (some ⟨eb, 0, none⟩) 1 1, .slice none 0 0, .int .i64 0, .slice (some ⟨eb + 1, 0, none⟩) 1 1] 118)).heap[eb + 1 + 1]? = some (.cells #[.int .i64 3, .int .i64 1, .int .i64 2, .int .i64 4, .int .i64 0, .int .i64 0, .int .i64 0, .int .i64 0, .bool true, .bool false, .slice (some ⟨eb, 0, none⟩) 1 1, .slice none 0 0, .int .i64 0, .slice (some ⟨eb + 1, 0, none⟩) 1 1] 118 (0, 0))) := Lib.hid (new_at _ _ _ (by simp [heb]))
  clear heb
  go_enter Tryz.func79, Tryz.ntmps79
  go_upto_region 2 with fail
  rw [HEb.out]
  generalize (((w.alloc (.cells #[.int .i64 1, .int .i64 4, .int .i64 0, .string ⟨#[]⟩] 51)).alloc (.cells #[.string ⟨#[107]⟩, .string ⟨#[]⟩] 202)).alloc (.cells #[.int .i64 3, .int .i64 1, .int .i64 2, .int .i64 4, .int .i64 0, .int .i64 0, .int .i64 0, .int .i64 0, .bool true, .bool false, .slice (some ⟨eb, 0, none⟩) 1 1, .slice none 0 0, .int .i64 0, .slice (some ⟨eb + 1, 0, none⟩) 1 1] 118)) = w1 at HB1 HK1 HK2 HK3 ⊢
  generalize eb + 1 + 1 = mb at HK3 ⊢
  generalize eb + 1 = pb at HK2 HK3 ⊢
  obtain ⟨y0, y1, y2, y3, y4, y5, y6, y7, y8, y9, y10, y11, y12, y13⟩ := msgCells HK3.out
  go_wp2_with fail
  refine (HP.out w1 eb pb (m0_at HK1.out HK2.out)).mono ?_
  rintro e w2 ⟨rfl, hb2⟩
  have HB2 := Lib.hid hb2
  clear hb2 y0 y1 y2 y3 y4 y5 y6 y7 y8 y9 y10 y11 y12 y13
  go_wp2_with fail
  refine (HG.out _).mono ?_
  rintro e w3 ⟨x, rfl, hxv, hxo, hb3⟩
  have HB3 := Lib.hid (HB2.out.trans (hb3.mono HB2.out.size))
  have HXv := Lib.hid hxv
  have HXo := Lib.hid (hxo.at_ (by rw [hxv]; exact m0_ok))
  have HXk : Hid ((w3.alloc (.cells #[.int .i64 x.v.kd, .int .i64 x.v.frm, .int .i64 x.v.dst, .int .i64 x.v.tm, .int .i64 x.v.ix, .int .i64 x.v.lt, .int .i64 x.v.cm, .int .i64 x.v.rd, .bool x.v.ok, .bool x.v.dn, .slice x.eo x.en x.ec, .slice x.mo x.mn x.mc, .int .i64 x.v.off, .slice x.po x.pn x.pc] 118)).heap[w3.heap.size]? = some (.cells #[.int .i64 x.v.kd, .int .i64 x.v.frm, .int .i64 x.v.dst, .int .i64 x.v.tm, .int .i64 x.v.ix, .int .i64 x.v.lt, .int .i64 x.v.cm, .int .i64 x.v.rd, .bool x.v.ok, .bool x.v.dn, .slice x.eo x.en x.ec, .slice x.mo x.mn x.mc, .int .i64 x.v.off, .slice x.po x.pn x.pc] 118 (0, 0))) := Lib.hid (heap_alloc_new w3 _)
  have HX3 : Hid (Below w3.heap.size w3 (w3.alloc (.cells #[.int .i64 x.v.kd, .int .i64 x.v.frm, .int .i64 x.v.dst, .int .i64 x.v.tm, .int .i64 x.v.ix, .int .i64 x.v.lt, .int .i64 x.v.cm, .int .i64 x.v.rd, .bool x.v.ok, .bool x.v.dn, .slice x.eo x.en x.ec, .slice x.mo x.mn x.mc, .int .i64 x.v.off, .slice x.po x.pn x.pc] 118))) := Lib.hid ((Below.refl _ _).alloc (Nat.le_refl _) _)
  clear hxv hxo hb3 HB2
  unfold MsgR.agg
  go_wp2_with fail
  refine (HM.out _).mono ?_
  rintro e w4 ⟨y, rfl, hb4⟩
  have hz : w1.heap.size ≤ w3.heap.size := HB3.out.size
  have b34 : Below w3.heap.size w3 (w4.alloc (.cells #[.int .i64 y.v.kd, .int .i64 y.v.frm, .int .i64 y.v.dst, .int .i64 y.v.tm, .int .i64 y.v.ix, .int .i64 y.v.lt, .int .i64 y.v.cm, .int .i64 y.v.rd, .bool y.v.ok, .bool y.v.dn, .slice y.eo y.en y.ec, .slice y.mo y.mn y.mc, .int .i64 y.v.off, .slice y.po y.pn y.pc] 118)) := (HX3.out.trans (hb4.mono (by simp))).alloc (by have := hb4.size; simp at this; omega) _
  have HB5 : Hid (Below w1.heap.size w1 (w4.alloc (.cells #[.int .i64 y.v.kd, .int .i64 y.v.frm, .int .i64 y.v.dst, .int .i64 y.v.tm, .int .i64 y.v.ix, .int .i64 y.v.lt, .int .i64 y.v.cm, .int .i64 y.v.rd, .bool y.v.ok, .bool y.v.dn, .slice y.eo y.en y.ec, .slice y.mo y.mn y.mc, .int .i64 y.v.off, .slice y.po y.pn y.pc] 118))) := Lib.hid (HB3.out.trans (b34.mono hz))
  have HXa := Lib.hid (HXo.out.below b34)
  have HXk5 : Hid ((w4.alloc (.cells #[.int .i64 y.v.kd, .int .i64 y.v.frm, .int .i64 y.v.dst, .int .i64 y.v.tm, .int .i64 y.v.ix, .int .i64 y.v.lt, .int .i64 y.v.cm, .int .i64 y.v.rd, .bool y.v.ok, .bool y.v.dn, .slice y.eo y.en y.ec, .slice y.mo y.mn y.mc, .int .i64 y.v.off, .slice y.po y.pn y.pc] 118)).heap[w3.heap.size]? = some (.cells #[.int .i64 x.v.kd, .int .i64 x.v.frm, .int .i64 x.v.dst, .int .i64 x.v.tm, .int .i64 x.v.ix, .int .i64 x.v.lt, .int .i64 x.v.cm, .int .i64 x.v.rd, .bool x.v.ok, .bool x.v.dn, .slice x.eo x.en x.ec, .slice x.mo x.mn x.mc, .int .i64 x.v.off, .slice x.po x.pn x.pc] 118 (0, 0))) := Lib.hid (old_at _ _ _ _ ((hb4.block _ (by simp)).trans HXk.out))
  obtain ⟨x0, x1, x2, x3, x4, x5, x6, x7, x8, x9, x10, x11, x12, x13⟩ := msgCells HXk5.out
  obtain ⟨y0, y1, y2, y3, y4, y5, y6, y7, y8, y9, y10, y11, y12, y13⟩ := msgCells ((HB5.out.block _ (blk_lt HK3.out)).trans HK3.out)
  have HM0 : Hid (∀ W, Below w1.heap.size w1 W → MsgAt W (m0R eb pb)) := Lib.hid (fun W hb => m0_at ((hb.block _ (blk_lt HK1.out)).trans HK1.out) ((hb.block _ (blk_lt HK2.out)).trans HK2.out))
  have HSc := Lib.hid (HSa.out _ eb pb x HXv.out HXa.out (HM0.out _ HB5.out))
  clear b34 hb4
  unfold MsgR.agg at HSc ⊢
  go_wp2_with fail
  refine HSc.out.mono ?_
  rintro e w6 ⟨rfl, hb6⟩
  have HB6 := Lib.hid (HB5.out.trans (hb6.mono HB5.out.size))
  clear x0 x1 x2 x3 x4 x5 x6 x7 x8 x9 x10 x11 x12 x13 y0 y1 y2 y3 y4 y5 y6 y7 y8 y9 y10 y11 y12 y13 hb6
  obtain ⟨y0, y1, y2, y3, y4, y5, y6, y7, y8, y9, y10, y11, y12, y13⟩ := msgCells ((HB6.out.block _ (blk_lt HK3.out)).trans HK3.out)
  go_wp2_with fail
  refine (HV.out w6 eb pb (HM0.out _ HB6.out)).mono ?_
  rintro e w7 ⟨rfl, hb7⟩
  have he1 : eb ≤ w1.heap.size := by have := blk_lt HK1.out; omega
  have HB7 := Lib.hid (HB1.out.trans ((HB6.out.trans (hb7.mono HB6.out.size)).mono he1))
  clear y0 y1 y2 y3 y4 y5 y6 y7 y8 y9 y10 y11 y12 y13 hb7
  go_wp2_with fail
  go_ret
  exact ⟨rfl, by rw [HEb.out]; exact HB7.out⟩
end
/-! ### The walk of the document's GetMsg (printed by wip/gen_refmsgg.py). -/
section
open Go.RowKit
set_option linter.unusedVariables false
set_option linter.unusedSimpArgs false
theorem unfixB_inj : ∀ (a b : List UInt8), a.length = b.length → unfixB a = unfixB b → a = b := by
  intro a
  induction a with
  | nil => intro b h _; cases b with
    | nil => rfl
    | cons c r => simp at h
  | cons c r ih =>
    intro b h hu
    cases b with
    | nil => simp at h
    | cons d s =>
      have h1 : c.toNat + 256 * unfixB r = d.toNat + 256 * unfixB s := hu
      have hc := c.toNat_lt
      have hd := d.toNat_lt
      have e1 : c = d := UInt8.toNat_inj.1 (by omega)
      rw [e1, ih s (by simpa using h) (by omega)]
theorem fix_eq_iff {C : Nat} (hC : C < 256 ^ 4) {l : List UInt8} (hl : l.length = 4) : fixB C 4 = l ↔ unfixB l = C := by
  constructor
  · intro h; rw [← h, unfix_fix, Nat.mod_eq_of_lt hC]
  · intro h
    refine unfixB_inj _ _ (by rw [fixB_len, hl]) ?_
    rw [unfix_fix, Nat.mod_eq_of_lt hC, h]
/-- The document's reader, and the two messages' blocks, along GetMsg. -/
structure RfSt (w : World) (r0 q mb : Nat) (W : World) (s : RSt) (cs : Array Value) : Prop where
  rd : RRdr W q s
  rk : W.heap[r0]? = some (.cells msgZ 118 (0, 0))
  mbk : W.heap[mb]? = some (.cells cs 118 (0, 0))
  bel : Below r0 w W
  h0 : w.heap.size = r0
  h1 : r0 < q
  h2 : q < mb
section
variable {w W W' : World} {r0 q mb : Nat} {s s' : RSt} {cs : Array Value}
theorem RfSt.sz (h : RfSt w r0 q mb W s cs) : r0 ≤ W.heap.size := by have := blk_lt h.rk; omega
theorem RfSt.calm (h : RfSt w r0 q mb W s cs) (hb : Below W.heap.size W W') : RfSt w r0 q mb W' s cs :=
  ⟨h.rd.below hb, (hb.block r0 (blk_lt h.rk)).trans h.rk, (hb.block mb (blk_lt h.mbk)).trans h.mbk, h.bel.trans (hb.mono h.sz), h.h0, h.h1, h.h2⟩
theorem RfSt.call (h : RfSt w r0 q mb W s cs) (hr : RRdr W' q s') (hg : W.grownBy W' (some q)) : RfSt w r0 q mb W' s' cs := by
  have e1 := h.h1
  have e2 := h.h2
  exact ⟨hr, (hg.block r0 (blk_lt h.rk) (fun e => by injection e with e; omega)).trans h.rk, (hg.block mb (blk_lt h.mbk) (fun e => by injection e with e; omega)).trans h.mbk, h.bel.grown hg h.sz (fun k hk => by injection hk with hk; omega), h.h0, e1, e2⟩
theorem RRdr.far {row : Option Nat} (h : RRdr W q s) (hg : W.grownBy W' row) (hne : some q ≠ row) : RRdr W' q s := by
  obtain ⟨t, h1, h2, h3⟩ := h
  exact ⟨t, h1, h2, (hg.block q (blk_lt h3) hne).trans h3⟩
theorem RfSt.grown {row : Option Nat} (h : RfSt w r0 q mb W s cs) (hg : W.grownBy W' row) (hrow : ∀ k, row = some k → mb < k) : RfSt w r0 q mb W' s cs := by
  have e1 := h.h1
  have e2 := h.h2
  have hne : ∀ k, k ≤ mb → some k ≠ row := fun k hk e => by have := hrow k e.symm; omega
  exact ⟨h.rd.far hg (hne _ (by omega)), (hg.block r0 (blk_lt h.rk) (hne _ (by omega))).trans h.rk, (hg.block mb (blk_lt h.mbk) (hne _ (Nat.le_refl _))).trans h.mbk, h.bel.grown hg h.sz (fun k hk => by have := hrow k hk; omega), h.h0, e1, e2⟩
theorem RfSt.set (h : RfSt w r0 q mb W s cs) (i : Nat) (v : Value) : RfSt w r0 q mb (W.setCell ⟨mb, i, none⟩ v) s (cs.setIfInBounds i v) := by
  have e1 := h.h1
  have e2 := h.h2
  have hg := grown_set W mb i v
  exact ⟨h.rd.far hg (fun e => by injection e with e; omega), (hg.block r0 (blk_lt h.rk) (fun e => by injection e with e; omega)).trans h.rk, blk_set h.mbk i v, h.bel.grown hg h.sz (fun k hk => by injection hk with hk; omega), h.h0, e1, e2⟩
theorem RfSt.cell (h : RfSt w r0 q mb W s cs) (i : Nat) {u : Value} (hu : cs[i]? = some u) : W.cell? ⟨mb, i, none⟩ = some u := by rw [blk_cell h.mbk]; exact hu
theorem RfSt.rvar (h : RfSt w r0 q mb W s cs) (hb : Below W.heap.size W W') : Calls Tryz.prog 119 #[.pointer (some ⟨q, 0, none⟩)] W' fun e w'' => e = .returned (.int .i64 (rVar s).1) ∧ RfSt w r0 q mb w'' (rVar s).2 cs ∧ W'.grownBy w'' (some q) := by
  refine (rrvar_any (h.calm hb).rd).mono ?_
  rintro e w'' ⟨he, hr, hg⟩
  exact ⟨he, (h.calm hb).call hr hg, hg⟩
theorem RfSt.rbool (h : RfSt w r0 q mb W s cs) : Calls Tryz.prog 195 #[.pointer (some ⟨q, 0, none⟩)] W fun e w'' => e = .returned (.bool (rBool s).1) ∧ RfSt w r0 q mb w'' (rBool s).2 cs ∧ W.grownBy w'' (some q) := by
  refine (rrbool_any h.rd).mono ?_
  rintro e w'' ⟨he, hr, hg⟩
  exact ⟨he, h.call hr hg, hg⟩
theorem RfSt.rcount (h : RfSt w r0 q mb W s cs) (m : Int) : Calls Tryz.prog 118 #[.pointer (some ⟨q, 0, none⟩), .int .i64 m] W fun e w'' => e = .returned (.int .i64 (rCount m s).1) ∧ RfSt w r0 q mb w'' (rCount m s).2 cs ∧ W.grownBy w'' (some q) := by
  refine (rrcount_any h.rd m).mono ?_
  rintro e w'' ⟨he, hr, hg⟩
  exact ⟨he, h.call hr hg, hg⟩
theorem RfSt.rtext (h : RfSt w r0 q mb W s cs) (m : Int) : Calls Tryz.prog 120 #[.pointer (some ⟨q, 0, none⟩), .int .i64 m] W fun e w'' => e = .returned (.string ⟨(rText m s).1.toArray⟩) ∧ RfSt w r0 q mb w'' (rText m s).2 cs ∧ W.grownBy w'' (some q) := by
  refine (rrtext_any h.rd m).mono ?_
  rintro e w'' ⟨he, hr, hg⟩
  exact ⟨he, h.call hr hg, hg⟩
end
set_option maxRecDepth 20000 in
set_option maxHeartbeats 16000000 in
theorem rgetMsg_any (s : ByteArray) (w : World) (hs : s.size ≤ 281474976710656) :
    Calls Tryz.prog 86 #[.string s] w fun e w' => ∃ m : MsgR, e = .returned (.tuple #[m.agg, .int .i64 (getMsgV s.data.toList).2]) ∧ m.v = (getMsgV s.data.toList).1 ∧ MsgOwn w' w.heap.size m ∧ Below w.heap.size w w' := by
  have hk0 := heap_alloc_new w (.cells #[.int .i64 0, .int .i64 0, .int .i64 0, .int .i64 0, .int .i64 0, .int .i64 0, .int .i64 0, .int .i64 0, .bool false, .bool false, .slice none 0 0, .slice none 0 0, .int .i64 0, .slice none 0 0] 118)
  have hb0 : Below w.heap.size w (w.alloc (.cells #[.int .i64 0, .int .i64 0, .int .i64 0, .int .i64 0, .int .i64 0, .int .i64 0, .int .i64 0, .int .i64 0, .bool false, .bool false, .slice none 0 0, .slice none 0 0, .int .i64 0, .slice none 0 0] 118)) := (Below.refl _ _).alloc (Nat.le_refl _) _
  have HK0 : Hid ((w.alloc (.cells #[.int .i64 0, .int .i64 0, .int .i64 0, .int .i64 0, .int .i64 0, .int .i64 0, .int .i64 0, .int .i64 0, .bool false, .bool false, .slice none 0 0, .slice none 0 0, .int .i64 0, .slice none 0 0] 118)).heap[w.heap.size]? = some (.cells msgZ 118 (0, 0))) := Lib.hid hk0
  have HB0 := Lib.hid hb0
  have HSz : Hid ((w.alloc (.cells #[.int .i64 0, .int .i64 0, .int .i64 0, .int .i64 0, .int .i64 0, .int .i64 0, .int .i64 0, .int .i64 0, .bool false, .bool false, .slice none 0 0, .slice none 0 0, .int .i64 0, .slice none 0 0] 118)).heap.size = w.heap.size + 1) := Lib.hid (by simp)
  clear hk0 hb0
  have hll : s.data.toList.length = s.size := rfl
  by_cases hd : s.data.toList.head? = some 109
  case neg =>
    have hg := getMsgV_a hd
    have HG := Lib.hid hg
    clear hg
    by_cases hs0 : s.size = 0
    · have hsE : s = ⟨#[]⟩ := ByteArray.ext (Array.eq_empty_of_size_eq_zero hs0)
      subst hsE
      go_enter Tryz.func86, Tryz.ntmps86
      go_wp2_with fail
      obtain ⟨x0, x1, x2, x3, x4, x5, x6, x7, x8, x9, x10, x11, x12, x13⟩ := msgCells HK0.out
      refine bodyPost_ret (v := .tuple #[.agg #[.int .i64 0, .int .i64 0, .int .i64 0, .int .i64 0, .int .i64 0, .int .i64 0, .int .i64 0, .int .i64 0, .bool false, .bool false, .slice none 0 0, .slice none 0 0, .int .i64 0, .slice none 0 0], .int .i64 4]) (by simp [results, Tryz.results86, go_sem, x0, x1, x2, x3, x4, x5, x6, x7, x8, x9, x10, x11, x12, x13]; try rfl) rfl ?_
      exact ⟨⟨msg00, none, 0, 0, none, 0, 0, none, 0, 0⟩, by rw [HG.out]; rfl, by rw [HG.out], MsgOwn.zero _ _, HB0.out⟩
    · have hz0 : 0 < s.size := by omega
      have hne : s.toList.isEmpty = false := by rw [ByteArray.toList_eq]; cases h : s.data.toList with
        | nil => rw [h] at hll; simp at hll; omega
        | cons a l => rfl
      have h2 : ¬ s[0].toNat = 109 := fun h => hd (by
        rw [List.head?_eq_getElem?, List.getElem?_eq_getElem (by omega)]
        exact congrArg some (UInt8.toNat_inj.1 h))
      have h4 : ((s[0].toNat : Int) != 109) = true := by simp; omega
      clear hd h2
      go_enter Tryz.func86, Tryz.ntmps86
      go_wp2_with fail
      obtain ⟨x0, x1, x2, x3, x4, x5, x6, x7, x8, x9, x10, x11, x12, x13⟩ := msgCells HK0.out
      refine bodyPost_ret (v := .tuple #[.agg #[.int .i64 0, .int .i64 0, .int .i64 0, .int .i64 0, .int .i64 0, .int .i64 0, .int .i64 0, .int .i64 0, .bool false, .bool false, .slice none 0 0, .slice none 0 0, .int .i64 0, .slice none 0 0], .int .i64 4]) (by simp [results, Tryz.results86, go_sem, x0, x1, x2, x3, x4, x5, x6, x7, x8, x9, x10, x11, x12, x13]; try rfl) rfl ?_
      exact ⟨⟨msg00, none, 0, 0, none, 0, 0, none, 0, 0⟩, by rw [HG.out]; rfl, by rw [HG.out], MsgOwn.zero _ _, HB0.out⟩
  case pos =>
    have hz0 : 0 < s.size := by
      cases h : s.data.toList with
      | nil => rw [h] at hd; simp at hd
      | cons a l => rw [h] at hll; simp at hll; omega
    have hne : s.toList.isEmpty = false := by rw [ByteArray.toList_eq]; cases h : s.data.toList with
      | nil => rw [h] at hll; simp at hll; omega
      | cons a l => rfl
    have h3 : s[0].toNat = 109 := by
      rw [List.head?_eq_getElem?, List.getElem?_eq_getElem (by omega)] at hd
      injection hd with hd
      exact congrArg UInt8.toNat hd
    have h4 : ((s[0].toNat : Int) != 109) = false := by rw [h3]; rfl
    by_cases h5 : s.size < 5
    · have hg := getMsgV_b hd (by omega)
      have HG := Lib.hid hg
      have hx : decide ((s.size : Int) < 5) = true := by simp; omega
      have hx' : decide (s.size < 5) = true := by simpa using h5
      clear hg hd h3
      go_enter Tryz.func86, Tryz.ntmps86
      go_wp2_with fail
      obtain ⟨x0, x1, x2, x3, x4, x5, x6, x7, x8, x9, x10, x11, x12, x13⟩ := msgCells HK0.out
      refine bodyPost_ret (v := .tuple #[.agg #[.int .i64 0, .int .i64 0, .int .i64 0, .int .i64 0, .int .i64 0, .int .i64 0, .int .i64 0, .int .i64 0, .bool false, .bool false, .slice none 0 0, .slice none 0 0, .int .i64 0, .slice none 0 0], .int .i64 5]) (by simp [results, Tryz.results86, go_sem, x0, x1, x2, x3, x4, x5, x6, x7, x8, x9, x10, x11, x12, x13]; try rfl) rfl ?_
      exact ⟨⟨msg00, none, 0, 0, none, 0, 0, none, 0, 0⟩, by rw [HG.out]; rfl, by rw [HG.out], MsgOwn.zero _ _, HB0.out⟩
    obtain ⟨A, hA⟩ : ∃ A, s.size = A + 4 := ⟨s.size - 4, by omega⟩
    have hx : decide ((s.size : Int) < 5) = false := by simp; omega
    have hx' : decide (s.size < 5) = false := by simpa using h5
    have hw : IntKind.i64.wrap ((s.size : Int) - 4) = (A : Int) := by rw [IntWalk.i64_in _ (by omega)]; omega
    have hA2 : (A : Int) ≤ s.size := by omega
    have hA3 : (1 : Int) ≤ A := by omega
    have hA4 : A ≤ s.size := by omega
    have hA5 : 1 ≤ A := by omega
    obtain ⟨C, hC⟩ : ∃ C, C = crc (s.data.toList.take A) := ⟨_, rfl⟩
    have hC4 : C < 256 ^ 4 := by rw [hC]; exact crc_lt _
    obtain ⟨F, hF⟩ : ∃ F : ByteArray, F = ⟨(fixB C 4).toArray⟩ := ⟨_, rfl⟩
    have hFl : F.data.toList = fixB C 4 := by rw [hF]
    have hEl : (s.extract A s.size).data.toList = s.data.toList.drop A := Lib.extract_to_end s A
    have hiff := fix_eq_iff hC4 (l := s.data.toList.drop A) (by rw [List.length_drop]; omega)
    have HCr : Hid (∀ W, Calls Tryz.prog 81 #[.string (s.extract 0 A)] W fun e w' => e = .returned (.int .i64 C) ∧ W = w') := Lib.hid (fun W => by
      have h2 := rcrc_any (s.extract 0 A) (by rw [ByteArray.size_extract]; omega) W
      rw [Lib.extract_data, List.drop_zero, Nat.sub_zero, ← hC] at h2
      exact h2)
    have HFx : Hid (∀ W, Calls Tryz.prog 80 #[.int .i64 C, .int .i64 4] W fun e w' => e = .returned (.tuple #[.string F, .int .i64 0]) ∧ Below W.heap.size W w') := Lib.hid (fun W => by
      have h2 := rfix_any C 4 W (by omega) (by omega) (by omega)
      have hfx : rfixE C 4 = (fixB C 4, 0) := by unfold rfixE; rw [if_pos hC4]
      rw [hfx] at h2
      rw [hF]
      exact h2)
    have HDh := Lib.hid hd
    have hAl : s.data.toList.length = A + 4 := by omega
    have HAl := Lib.hid hAl
    have HCC := Lib.hid hC
    clear hd hAl h3 hF
    by_cases hsum : unfixB (s.data.toList.drop A) = C
    case neg =>
      have hg := getMsgV_c HDh.out HAl.out hA5 (by rw [← HCC.out]; exact hsum)
      have HG := Lib.hid hg
      have hn1 : (F.toList == (s.extract A s.size).toList) = false := by
        rw [beq_eq_false_iff_ne, ByteArray.toList_eq, ByteArray.toList_eq, hFl, hEl]
        exact fun h => hsum (hiff.1 h)
      have hn2 : ((s.extract A s.size).toList == F.toList) = false := by
        rw [beq_eq_false_iff_ne]
        exact fun h => by rw [h] at hn1; simp at hn1
      rw [hA] at hn1 hn2
      have HK3 : Hid (∀ W, Below (w.heap.size + 1) (w.alloc (.cells #[.int .i64 0, .int .i64 0, .int .i64 0, .int .i64 0, .int .i64 0, .int .i64 0, .int .i64 0, .int .i64 0, .bool false, .bool false, .slice none 0 0, .slice none 0 0, .int .i64 0, .slice none 0 0] 118)) W → W.heap[w.heap.size]? = some (.cells msgZ 118 (0, 0)) ∧ Below w.heap.size w W) := Lib.hid (fun W hb => ⟨(hb.block _ (by omega)).trans HK0.out, HB0.out.trans (hb.mono (by omega))⟩)
      clear hg hiff hFl hEl hC4 hC
      go_enter Tryz.func86, Tryz.ntmps86
      go_wp2_with fail
      refine (HCr.out _).mono ?_
      rintro e w1 ⟨rfl, rfl⟩
      go_wp2_with fail
      refine (HFx.out _).mono ?_
      rintro e w3 ⟨rfl, hb3⟩
      rw [HSz.out] at hb3
      obtain ⟨hk3, hw3⟩ := HK3.out w3 hb3
      have HKK := Lib.hid hk3
      have HBW := Lib.hid hw3
      obtain ⟨z0, z1, z2, z3, z4, z5, z6, z7, z8, z9, z10, z11, z12, z13⟩ := msgCells hk3
      have zf := fun i => blk_frozen hk3 i
      have zf0 := zf 0
      have zf1 := zf 1
      have zf2 := zf 2
      have zf3 := zf 3
      have zf4 := zf 4
      have zf5 := zf 5
      have zf6 := zf 6
      have zf7 := zf 7
      have zf8 := zf 8
      have zf9 := zf 9
      have zf10 := zf 10
      have zf11 := zf 11
      have zf12 := zf 12
      have zf13 := zf 13
      clear zf hb3 hk3 hw3
      go_wp2_with fail
      obtain ⟨hz, hg⟩ := set14 HKK.out (.int .i64 0) (.int .i64 0) (.int .i64 0) (.int .i64 0) (.int .i64 0) (.int .i64 0) (.int .i64 0) (.int .i64 0) (.bool false) (.bool false) (.slice none 0 0) (.slice none 0 0) (.int .i64 0) (.slice none 0 0)
      have HBf := Lib.hid ((HBW.out).grown hg (HBW.out).size (fun k hk => by injection hk with hk; omega))
      have HFin : Hid True := Lib.hid trivial
      generalize (((((((((((((w3.setCell ⟨w.heap.size, 0, none⟩ (.int .i64 0)).setCell ⟨w.heap.size, 1, none⟩ (.int .i64 0)).setCell ⟨w.heap.size, 2, none⟩ (.int .i64 0)).setCell ⟨w.heap.size, 3, none⟩ (.int .i64 0)).setCell ⟨w.heap.size, 4, none⟩ (.int .i64 0)).setCell ⟨w.heap.size, 5, none⟩ (.int .i64 0)).setCell ⟨w.heap.size, 6, none⟩ (.int .i64 0)).setCell ⟨w.heap.size, 7, none⟩ (.int .i64 0)).setCell ⟨w.heap.size, 8, none⟩ (.bool false)).setCell ⟨w.heap.size, 9, none⟩ (.bool false)).setCell ⟨w.heap.size, 10, none⟩ (.slice none 0 0)).setCell ⟨w.heap.size, 11, none⟩ (.slice none 0 0)).setCell ⟨w.heap.size, 12, none⟩ (.int .i64 0)).setCell ⟨w.heap.size, 13, none⟩ (.slice none 0 0) = Wf at hz HBf HFin ⊢
      obtain ⟨x0, x1, x2, x3, x4, x5, x6, x7, x8, x9, x10, x11, x12, x13⟩ := msgCells hz
      clear hz hg
      refine bodyPost_ret (v := .tuple #[.agg #[.int .i64 0, .int .i64 0, .int .i64 0, .int .i64 0, .int .i64 0, .int .i64 0, .int .i64 0, .int .i64 0, .bool false, .bool false, .slice none 0 0, .slice none 0 0, .int .i64 0, .slice none 0 0], .int .i64 6]) (by simp [results, Tryz.results86, go_sem, x0, x1, x2, x3, x4, x5, x6, x7, x8, x9, x10, x11, x12, x13]; try rfl) rfl ?_
      exact ⟨⟨msg00, none, 0, 0, none, 0, 0, none, 0, 0⟩, by rw [HG.out]; rfl, by rw [HG.out], MsgOwn.zero _ _, HBf.out⟩
    case pos =>
      have he1 : F = s.extract A s.size := bytes_ext (by rw [hFl, hEl]; exact hiff.2 hsum)
      obtain ⟨P, hP⟩ : ∃ P, P = readMsg ((s.data.toList.take A).drop 1, 0) := ⟨_, rfl⟩
      have HBd : Hid (∀ bd : ByteArray, bd = s.extract 0 A → (bd.extract 1 bd.size).data.toList = (s.data.toList.take A).drop 1 ∧ (bd.extract 1 bd.size).size ≤ 9223372036854775807 ∧ bd.size = A) := Lib.hid (fun bd hb => by
        subst hb
        refine ⟨by rw [Lib.extract_to_end, Lib.extract_data, List.drop_zero, Nat.sub_zero], by rw [ByteArray.size_extract, ByteArray.size_extract]; omega, by rw [ByteArray.size_extract]; omega⟩)
      have HPp := Lib.hid hP
      have HSum := Lib.hid hsum
      have HFx2 : Hid (∀ W, Calls Tryz.prog 80 #[.int .i64 C, .int .i64 4] W fun e w' => e = .returned (.tuple #[.string (s.extract A (A + 4)), .int .i64 0]) ∧ Below W.heap.size W w') := Lib.hid (by
        have h := HFx.out
        rw [he1, hA] at h
        exact h)
      clear hsum hiff hP hFl hEl hC4 hC he1 HFx
      go_enter Tryz.func86, Tryz.ntmps86
      go_wp2_with fail
      refine (HCr.out _).mono ?_
      rintro e w1 ⟨rfl, rfl⟩
      go_wp2_with fail
      refine (HFx2.out _).mono ?_
      rintro e w3 ⟨rfl, hb3⟩
      rw [HSz.out] at hb3
      have HB3 := Lib.hid hb3
      obtain ⟨bd, hbd⟩ : ∃ bd, bd = s.extract 0 A := ⟨_, rfl⟩
      obtain ⟨hex, hexz, hbz⟩ := HBd.out bd hbd
      rw [← hbd]
      have hb1 : (1 : Int) ≤ bd.size := by omega
      have hb1' : 1 ≤ bd.size := by omega
      have HEx := Lib.hid hex
      have HExz := Lib.hid hexz
      clear hb3 hex hexz hbz hbd HBd HCr
      go_upto_region 11 with fail
      obtain ⟨q, hq⟩ : ∃ q, w3.heap.size = q := ⟨_, rfl⟩
      have h3s := HB3.out.size
      rw [HSz.out] at h3s
      have HS0 : Hid (RfSt w w.heap.size q (q + 1) ((w3.alloc (.cells #[.string (bd.extract 1 bd.size), .int .i64 0] 47)).alloc (.cells #[.int .i64 0, .int .i64 0, .int .i64 0, .int .i64 0, .int .i64 0, .int .i64 0, .int .i64 0, .int .i64 0, .bool false, .bool false, .slice none 0 0, .slice none 0 0, .int .i64 0, .slice none 0 0] 118)) ((s.data.toList.take A).drop 1, 0) #[.int .i64 0, .int .i64 0, .int .i64 0, .int .i64 0, .int .i64 0, .int .i64 0, .int .i64 0, .int .i64 0, .bool false, .bool false, .slice none 0 0, .slice none 0 0, .int .i64 0, .slice none 0 0]) := Lib.hid
        ⟨⟨bd.extract 1 bd.size, HEx.out, HExz.out, old_at _ _ _ _ (new_at _ _ _ hq.symm)⟩, old_at _ _ _ _ (old_at _ _ _ _ ((HB3.out.block _ (by omega)).trans HK0.out)), new_at _ _ _ (by simp [hq]), ((HB0.out.trans (HB3.out.mono (by omega))).alloc (by omega) _).alloc (by simp <;> omega) _, rfl, by omega, by omega⟩
      rw [hq]
      generalize ((w3.alloc (.cells #[.string (bd.extract 1 bd.size), .int .i64 0] 47)).alloc (.cells #[.int .i64 0, .int .i64 0, .int .i64 0, .int .i64 0, .int .i64 0, .int .i64 0, .int .i64 0, .int .i64 0, .bool false, .bool false, .slice none 0 0, .slice none 0 0, .int .i64 0, .slice none 0 0] 118)) = W1 at HS0 ⊢
      generalize q + 1 = mb at HS0 ⊢
      obtain ⟨st, hst⟩ : ∃ st : RSt, st = ((s.data.toList.take A).drop 1, 0) := ⟨_, rfl⟩
      rw [← hst] at HS0 HPp
      have HSt := Lib.hid hst
      have HS := HS0
      clear hst hq h3s HS0 HB3 HEx HExz hb1 hb1' HFx2
      obtain ⟨a1, ha1⟩ : ∃ a, a = rVar st := ⟨_, rfl⟩
      have HV := Lib.hid (HS.out.rvar (Below.refl _ _))
      rw [← ha1] at HV
      have HA1 := Lib.hid ha1
      clear ha1
      go_wp2_with fail
      refine HV.out.mono ?_
      rintro e wv1 ⟨rfl, hv, -⟩
      have c0 := hv.cell 0 rfl
      have f0 := blk_frozen hv.mbk 0
      have h9 := hv.set 0 (.int .i64 a1.1)
      simp only [List.setIfInBounds_toArray, List.set_cons_succ, List.set_cons_zero] at h9
      have HS' := Lib.hid h9
      clear hv h9 HV HS
      rename Hid (RfSt _ _ _ _ _ _ _) => HS
      obtain ⟨a2, ha2⟩ : ∃ a, a = rVar a1.2 := ⟨_, rfl⟩
      have HV := Lib.hid (HS.out.rvar (Below.refl _ _))
      rw [← ha2] at HV
      have HA2 := Lib.hid ha2
      clear ha2
      go_wp2_with fail
      clear c0 f0
      refine HV.out.mono ?_
      rintro e wv2 ⟨rfl, hv, -⟩
      have c0 := hv.cell 1 rfl
      have f0 := blk_frozen hv.mbk 1
      have h9 := hv.set 1 (.int .i64 a2.1)
      simp only [List.setIfInBounds_toArray, List.set_cons_succ, List.set_cons_zero] at h9
      have HS' := Lib.hid h9
      clear hv h9 HV HS
      rename Hid (RfSt _ _ _ _ _ _ _) => HS
      obtain ⟨a3, ha3⟩ : ∃ a, a = rVar a2.2 := ⟨_, rfl⟩
      have HV := Lib.hid (HS.out.rvar (Below.refl _ _))
      rw [← ha3] at HV
      have HA3 := Lib.hid ha3
      clear ha3
      go_wp2_with fail
      clear c0 f0
      refine HV.out.mono ?_
      rintro e wv3 ⟨rfl, hv, -⟩
      have c0 := hv.cell 2 rfl
      have f0 := blk_frozen hv.mbk 2
      have h9 := hv.set 2 (.int .i64 a3.1)
      simp only [List.setIfInBounds_toArray, List.set_cons_succ, List.set_cons_zero] at h9
      have HS' := Lib.hid h9
      clear hv h9 HV HS
      rename Hid (RfSt _ _ _ _ _ _ _) => HS
      obtain ⟨a4, ha4⟩ : ∃ a, a = rVar a3.2 := ⟨_, rfl⟩
      have HV := Lib.hid (HS.out.rvar (Below.refl _ _))
      rw [← ha4] at HV
      have HA4 := Lib.hid ha4
      clear ha4
      go_wp2_with fail
      clear c0 f0
      refine HV.out.mono ?_
      rintro e wv4 ⟨rfl, hv, -⟩
      have c0 := hv.cell 3 rfl
      have f0 := blk_frozen hv.mbk 3
      have h9 := hv.set 3 (.int .i64 a4.1)
      simp only [List.setIfInBounds_toArray, List.set_cons_succ, List.set_cons_zero] at h9
      have HS' := Lib.hid h9
      clear hv h9 HV HS
      rename Hid (RfSt _ _ _ _ _ _ _) => HS
      obtain ⟨a5, ha5⟩ : ∃ a, a = rVar a4.2 := ⟨_, rfl⟩
      have HV := Lib.hid (HS.out.rvar (Below.refl _ _))
      rw [← ha5] at HV
      have HA5 := Lib.hid ha5
      clear ha5
      go_wp2_with fail
      clear c0 f0
      refine HV.out.mono ?_
      rintro e wv5 ⟨rfl, hv, -⟩
      have c0 := hv.cell 4 rfl
      have f0 := blk_frozen hv.mbk 4
      have h9 := hv.set 4 (.int .i64 a5.1)
      simp only [List.setIfInBounds_toArray, List.set_cons_succ, List.set_cons_zero] at h9
      have HS' := Lib.hid h9
      clear hv h9 HV HS
      rename Hid (RfSt _ _ _ _ _ _ _) => HS
      obtain ⟨a6, ha6⟩ : ∃ a, a = rVar a5.2 := ⟨_, rfl⟩
      have HV := Lib.hid (HS.out.rvar (Below.refl _ _))
      rw [← ha6] at HV
      have HA6 := Lib.hid ha6
      clear ha6
      go_wp2_with fail
      clear c0 f0
      refine HV.out.mono ?_
      rintro e wv6 ⟨rfl, hv, -⟩
      have c0 := hv.cell 5 rfl
      have f0 := blk_frozen hv.mbk 5
      have h9 := hv.set 5 (.int .i64 a6.1)
      simp only [List.setIfInBounds_toArray, List.set_cons_succ, List.set_cons_zero] at h9
      have HS' := Lib.hid h9
      clear hv h9 HV HS
      rename Hid (RfSt _ _ _ _ _ _ _) => HS
      obtain ⟨a7, ha7⟩ : ∃ a, a = rVar a6.2 := ⟨_, rfl⟩
      have HV := Lib.hid (HS.out.rvar (Below.refl _ _))
      rw [← ha7] at HV
      have HA7 := Lib.hid ha7
      clear ha7
      go_wp2_with fail
      clear c0 f0
      refine HV.out.mono ?_
      rintro e wv7 ⟨rfl, hv, -⟩
      have c0 := hv.cell 6 rfl
      have f0 := blk_frozen hv.mbk 6
      have h9 := hv.set 6 (.int .i64 a7.1)
      simp only [List.setIfInBounds_toArray, List.set_cons_succ, List.set_cons_zero] at h9
      have HS' := Lib.hid h9
      clear hv h9 HV HS
      rename Hid (RfSt _ _ _ _ _ _ _) => HS
      obtain ⟨a8, ha8⟩ : ∃ a, a = rVar a7.2 := ⟨_, rfl⟩
      have HV := Lib.hid (HS.out.rvar (Below.refl _ _))
      rw [← ha8] at HV
      have HA8 := Lib.hid ha8
      clear ha8
      go_wp2_with fail
      clear c0 f0
      refine HV.out.mono ?_
      rintro e wv8 ⟨rfl, hv, -⟩
      have c0 := hv.cell 7 rfl
      have f0 := blk_frozen hv.mbk 7
      have h9 := hv.set 7 (.int .i64 a8.1)
      simp only [List.setIfInBounds_toArray, List.set_cons_succ, List.set_cons_zero] at h9
      have HS' := Lib.hid h9
      clear hv h9 HV HS
      rename Hid (RfSt _ _ _ _ _ _ _) => HS
      obtain ⟨q1, hq1⟩ : ∃ a, a = rBool a8.2 := ⟨_, rfl⟩
      have HV := Lib.hid HS.out.rbool
      rw [← hq1] at HV
      have HQ1 := Lib.hid hq1
      clear hq1
      go_wp2_with fail
      clear c0 f0
      refine HV.out.mono ?_
      rintro e wb1 ⟨rfl, hv, -⟩
      have c0 := hv.cell 8 rfl
      have f0 := blk_frozen hv.mbk 8
      have h9 := hv.set 8 (.bool q1.1)
      simp only [List.setIfInBounds_toArray, List.set_cons_succ, List.set_cons_zero] at h9
      have HS' := Lib.hid h9
      clear hv h9 HV HS
      rename Hid (RfSt _ _ _ _ _ _ _) => HS
      obtain ⟨q2, hq2⟩ : ∃ a, a = rBool q1.2 := ⟨_, rfl⟩
      have HV := Lib.hid HS.out.rbool
      rw [← hq2] at HV
      have HQ2 := Lib.hid hq2
      clear hq2
      go_wp2_with fail
      clear c0 f0
      refine HV.out.mono ?_
      rintro e wb2 ⟨rfl, hv, -⟩
      have c0 := hv.cell 9 rfl
      have f0 := blk_frozen hv.mbk 9
      have h9 := hv.set 9 (.bool q2.1)
      simp only [List.setIfInBounds_toArray, List.set_cons_succ, List.set_cons_zero] at h9
      have HS' := Lib.hid h9
      clear hv h9 HV HS
      rename Hid (RfSt _ _ _ _ _ _ _) => HS
      obtain ⟨pr, hpr⟩ : ∃ pr, pr = getAll q2.2 := ⟨_, rfl⟩
      have HG4 := Lib.hid (rget16_any HS.out.rd)
      unfold RGetRes at HG4
      rw [← hpr] at HG4
      have HPr := Lib.hid hpr
      clear hpr
      go_wp2_with fail
      clear c0 f0
      refine HG4.out.mono ?_
      rintro e w5 ⟨aoE, NE, cE, rfl, hoE, hlE, R5, hg5⟩
      have h5 := HS.out.call R5 hg5
      have c10 := h5.cell 10 rfl
      have f10 := blk_frozen h5.mbk 10
      have h6 := h5.set 10 (.slice aoE NE cE)
      simp only [List.setIfInBounds_toArray, List.set_cons_succ, List.set_cons_zero] at h6
      have HE6 : Hid ((w5.setCell ⟨mb, 10, none⟩ (.slice aoE NE cE)).ownsRow (mb + 1) 51 4 (.slice aoE NE cE) NE (entCells pr.1)) := Lib.hid (own_far (own_lowM hoE (by have := blk_lt HS.out.mbk; omega)) (grown_set _ _ _ _) (by omega))
      have HC6 := Lib.hid (h6.rcount 9)
      have hq9 := rCount_range 9 pr.2 (by decide)
      obtain ⟨qc, hqc⟩ : ∃ q, q = rCount 9 pr.2 := ⟨_, rfl⟩
      rw [← hqc] at HC6 hq9
      obtain ⟨n, hn⟩ : ∃ n : Nat, qc.1 = n := ⟨qc.1.toNat, by omega⟩
      rw [hn] at HC6
      have HQ9 := Lib.hid hqc
      have HN9 := Lib.hid hn
      have hn9 : n ≤ 9 := by omega
      clear h5 h6 hoE R5 hg5 hqc hn HS HG4 hq9
      go_wp2_with fail
      refine HC6.out.mono ?_
      rintro e w7 ⟨rfl, h7, hg7⟩
      have HS7 := Lib.hid h7
      have hbm : q < mb + 1 := by have := h7.h2; omega
      have HE7 := Lib.hid (own_far HE6.out hg7 hbm)
      clear h7 hg7 HC6 HE6 c10 f10
      obtain ⟨i0, hi, hz0, hz1, hz2⟩ := info_parts ptrInfoM
      have HI := Lib.hid (And.intro hi (And.intro hz0 (And.intro hz1 hz2)))
      clear hi hz0 hz1 hz2
      go_wp2_with fail
      go_loopw [10] (fun i wr => ∃ (k : Nat) (acc : List Int) (ao : Option Addr) (c : Nat) (sr : RSt), k ≤ n ∧ i = .int .i64 k ∧ Hid (RfSt w w.heap.size q mb wr sr #[.int .i64 a1.1, .int .i64 a2.1, .int .i64 a3.1, .int .i64 a4.1, .int .i64 a5.1, .int .i64 a6.1, .int .i64 a7.1, .int .i64 a8.1, .bool q1.1, .bool q2.1, .slice aoE NE cE, .slice ao k c, .int .i64 0, .slice none 0 0]) ∧ Hid (wr.ownsRow (mb + 1) 3 1 (.slice ao k c) k (acc.map (Value.int .i64))) ∧ Hid (acc.length = k) ∧ Hid (getMs (n - k) sr acc = getMs n qc.2 []) ∧ Hid (wr.ownsRow (mb + 1) 51 4 (.slice aoE NE cE) NE (entCells pr.1))) (fun i _ => n - (intOf i).toNat)
      case atStart => exact ⟨0, [], none, 0, qc.2, Nat.zero_le _, rfl, HS7, Lib.hid (World.ownsRow_nil _ _ _ _), rfl, rfl, HE7⟩
      case round =>
        obtain ⟨k, acc, ao, c, sr, hk, rfl, HS, HO, HLn, HG, HE⟩ := hrel
        by_cases hlt : k < n
        · have hd2 : decide (k < n) = true := by simpa using hlt
          have hd2' : decide ((k : Int) < (n : Int)) = true := by simp; omega
          have hG := HG.out
          rw [show n - k = (n - (k + 1)) + 1 from by omega, getMs] at hG
          have HG' := Lib.hid hG
          obtain ⟨a, ha⟩ : ∃ a, a = rVar sr := ⟨_, rfl⟩
          rw [← ha] at HG'
          have HV : Hid (∀ W', Below wr.heap.size wr W' → Calls Tryz.prog 119 #[.pointer (some ⟨q, 0, none⟩)] W' fun e w'' => e = .returned (.int .i64 a.1) ∧ RfSt w w.heap.size q mb w'' a.2 #[.int .i64 a1.1, .int .i64 a2.1, .int .i64 a3.1, .int .i64 a4.1, .int .i64 a5.1, .int .i64 a6.1, .int .i64 a7.1, .int .i64 a8.1, .bool q1.1, .bool q2.1, .slice aoE NE cE, .slice ao k c, .int .i64 0, .slice none 0 0] ∧ W'.grownBy w'' (some q)) := Lib.hid (by rw [ha]; exact fun W' hb => HS.out.rvar hb)
          have c11 := HS.out.cell 11 rfl
          clear hG ha
          go_wp2_with fail
          go_region_law (first
            | (refine step_append_lies _ (by rfl) (.tmp 91) (.tmp 94) 23 (by rfl) (mb + 1) 3 i0 _ 1 8 Tryz.underlying23 HI.out.1 HI.out.2.1 HI.out.2.2.1 HI.out.2.2.2 (by rfl) (by omega) (.slice ao k c) k (acc.map (Value.int .i64)) (by rfl) (own_below HO2.out ((Below.refl _ w2).alloc (Nat.le_refl _) _)) ⟨w2.heap.size, 0, none⟩ 1 1 [.int .i64 a.1] (by rfl) (by rfl) (World.news_of_block (new_at _ _ _ rfl)) (by simp [Value.oneCell']) (by omega) (by unfold maxLen; omega) (by omega) (by have := blk_lt H2.out.mbk; simp; omega) _ rfl ?_; intro g cap3 w3 hown3 hg3 hat3 hlt3; have HS3 := Lib.hid ((H2.out.calm ((Below.refl _ w2).alloc (Nat.le_refl _) (.cells #[.int .i64 a.1] 3))).grown hg3 (fun k' hk' => by have := (HO2.out.lt k' hk').1; omega)); have hcc := HS3.out.cell 11 rfl; have hff := blk_frozen HS3.out.mbk 11; have HO3 := Lib.hid hown3; have HE3 := Lib.hid ((own_below HE2.out ((Below.refl _ w2).alloc (Nat.le_refl _) (.cells #[.int .i64 a.1] 3))).kept hg3 (own_ne2 HE2.out HO2.out (by decide))); clear hown3 hg3 hat3 hlt3)
            | (go_simp; go_at_call 119; refine (HV.out _ (by repeat (with_reducible (first | exact Below.refl _ _ | refine Below.drew ?_)))).mono ?_; rintro e' w2 ⟨rfl, h2, hg2⟩; have hc2 := h2.cell 11 rfl; have hc2a : ∀ o, (w2.alloc o).cell? ⟨mb, 11, none⟩ = some (.slice ao k c) := fun o => (h2.calm ((Below.refl _ w2).alloc (Nat.le_refl _) o)).cell 11 rfl; have HO2 := Lib.hid (own_far (own_below HO.out (by repeat (with_reducible (first | exact Below.refl _ _ | refine Below.drew ?_)))) hg2 hbm); have HE2 := Lib.hid (own_far (own_below HE.out (by repeat (with_reducible (first | exact Below.refl _ _ | refine Below.drew ?_)))) hg2 hbm); have H2 := Lib.hid h2; clear h2 hg2))
          all_goals (
            have h8 := HS3.out.set 11 (.slice (some ⟨g, 0, none⟩) (k + 1) cap3)
            simp only [List.setIfInBounds_toArray, List.set_cons_succ, List.set_cons_zero] at h8
            have HS8 := Lib.hid h8
            have HO8 := Lib.hid (own_far HO3.out (grown_set w3 mb 11 (.slice (some ⟨g, 0, none⟩) (k + 1) cap3)) (by omega))
            have HE8 := Lib.hid (own_far HE3.out (grown_set w3 mb 11 (.slice (some ⟨g, 0, none⟩) (k + 1) cap3)) (by omega))
            clear h8
            go_wp2_with fail
            go_roundw
            case rel => exact ⟨k + 1, acc ++ [a.1], some ⟨g, 0, none⟩, cap3, a.2, by omega, by go_num, HS8, Lib.hid (by rw [List.map_append]; exact HO8.out), Lib.hid (by rw [List.length_append, HLn.out]; rfl), HG', HE8⟩
            case measure => simp [intOf] <;> omega)
        · obtain rfl : k = n := by omega
          have hd2 : decide (k < k) = false := by simp
          have hd2' : decide ((k : Int) < (k : Int)) = false := by simp
          have hG := HG.out
          rw [Nat.sub_self, getMs] at hG
          have HG' := Lib.hid hG
          have HV := Lib.hid (HS.out.rvar (Below.refl _ _))
          obtain ⟨fo, hfo⟩ : ∃ a, a = rVar sr := ⟨_, rfl⟩
          rw [← hfo] at HV
          have HFo := Lib.hid hfo
          clear hG hfo
          go_wp2_with fail
          refine HV.out.mono ?_
          rintro e w8 ⟨rfl, h8, hg8⟩
          have c12 := h8.cell 12 rfl
          have f12 := blk_frozen h8.mbk 12
          have h9 := h8.set 12 (.int .i64 fo.1)
          simp only [List.setIfInBounds_toArray, List.set_cons_succ, List.set_cons_zero] at h9
          have HE9 := Lib.hid (own_far (own_far HE.out hg8 hbm) (grown_set w8 mb 12 (.int .i64 fo.1)) (by omega))
          have HM9 := Lib.hid (own_far (own_far HO.out hg8 hbm) (grown_set w8 mb 12 (.int .i64 fo.1)) (by omega))
          have HC9 := Lib.hid (h9.rcount 50)
          have hq5 := rCount_range 50 fo.2 (by decide)
          obtain ⟨qp, hqp⟩ : ∃ q, q = rCount 50 fo.2 := ⟨_, rfl⟩
          rw [← hqp] at HC9 hq5
          obtain ⟨np, hnp⟩ : ∃ n : Nat, qp.1 = n := ⟨qp.1.toNat, by omega⟩
          rw [hnp] at HC9
          have HQp := Lib.hid hqp
          have HNp := Lib.hid hnp
          have hn5 : np ≤ 50 := by omega
          clear h8 h9 hg8 hq5 hqp hnp HV HS HO HE
          go_wp2_with fail
          refine HC9.out.mono ?_
          rintro e w10 ⟨rfl, h10, hg10⟩
          have HS10 := Lib.hid h10
          have HE10 := Lib.hid (own_far HE9.out hg10 hbm)
          have HM10 := Lib.hid (own_far HM9.out hg10 hbm)
          clear h10 hg10 HC9 HE9 HM9 c12 f12
          obtain ⟨i1, hi, hz0, hz1, hz2⟩ := info_parts parInfoM
          have HIp := Lib.hid (And.intro hi (And.intro hz0 (And.intro hz1 hz2)))
          clear hi hz0 hz1 hz2
          have HRM : Hid (∀ (es : List Ent) (ms : List Int) (off : Int) (ps : List Par) (sr : RSt), readTail q2.2 = ((es, ms, off, ps), sr) → P = (⟨a1.1, a2.1, a3.1, a4.1, a5.1, a6.1, a7.1, a8.1, q1.1, q2.1, es, ms, off, ps⟩, sr)) := Lib.hid (fun es ms off ps sr h => by
            rw [HPp.out]
            have e0 : readMsg st = (⟨a1.1, a2.1, a3.1, a4.1, a5.1, a6.1, a7.1, a8.1, q1.1, q2.1, (readTail q2.2).1.1, (readTail q2.2).1.2.1, (readTail q2.2).1.2.2.1, (readTail q2.2).1.2.2.2⟩, (readTail q2.2).2) := by
              rw [HQ2.out, HQ1.out, HA8.out, HA7.out, HA6.out, HA5.out, HA4.out, HA3.out, HA2.out, HA1.out]
              rfl
            rw [e0, h])
          have HTl : Hid (∀ (ps : List Par) (sr : RSt), getPairs np qp.2 [] = (ps, sr) → readTail q2.2 = ((pr.1, acc, fo.1, ps), sr)) := Lib.hid (fun ps sr h => by
            unfold readTail
            dsimp only
            rw [← HPr.out, ← HQ9.out, HN9.out, Int.toNat_natCast, ← HG'.out]
            dsimp only
            rw [← HFo.out, ← HQp.out, HNp.out, Int.toNat_natCast, h])
          clear HG' HFo HQp HNp HQ9 HN9 HPr HQ1 HQ2 HA1 HA2 HA3 HA4 HA5 HA6 HA7 HA8
          go_wp2_with fail
          go_loopw [11] (fun i wr => ∃ (j : Nat) (acp : List Par) (po : Option Addr) (d : Nat) (sr : RSt), j ≤ np ∧ i = .int .i64 j ∧ Hid (RfSt w w.heap.size q mb wr sr #[.int .i64 a1.1, .int .i64 a2.1, .int .i64 a3.1, .int .i64 a4.1, .int .i64 a5.1, .int .i64 a6.1, .int .i64 a7.1, .int .i64 a8.1, .bool q1.1, .bool q2.1, .slice aoE NE cE, .slice ao k c, .int .i64 fo.1, .slice po j d]) ∧ Hid (wr.ownsRow (mb + 1) 202 2 (.slice po j d) j (parCells acp)) ∧ Hid (acp.length = j) ∧ Hid (getPairs (np - j) sr acp = getPairs np qp.2 []) ∧ Hid (wr.ownsRow (mb + 1) 51 4 (.slice aoE NE cE) NE (entCells pr.1)) ∧ Hid (wr.ownsRow (mb + 1) 3 1 (.slice ao k c) k (acc.map (Value.int .i64)))) (fun i _ => np - (intOf i).toNat)
          case atStart => exact ⟨0, [], none, 0, qp.2, Nat.zero_le _, rfl, HS10, Lib.hid (World.ownsRow_nil _ _ _ _), rfl, rfl, HE10, HM10⟩
          case round =>
            obtain ⟨j, acp, po, d, sr, hj, rfl, HS, HO, HLp, HGp, HE, HM⟩ := hrel
            obtain ⟨rs, hrs1, hrs2, hrs3⟩ := HS.out.rd
            have ce : wr.cell? ⟨q, 1, none⟩ = some (.int .i64 sr.2) := by rw [blk_cell hrs3]; rfl
            clear hrs1 hrs2 hrs3
            by_cases hlt : j < np
            · have hd2 : decide (j < np) = true := by simpa using hlt
              have hd2' : decide ((j : Int) < (np : Int)) = true := by simp; omega
              by_cases hs0 : sr.2 = 0
              · rw [hs0] at ce
                have hG := HGp.out
                rw [show np - j = (np - (j + 1)) + 1 from by omega, getPairs] at hG
                have hl1 := rText_len 41 sr
                obtain ⟨t1, ht1⟩ : ∃ a, a = rText 41 sr := ⟨_, rfl⟩
                have hl2 := rText_len 2000 t1.2
                obtain ⟨t2, ht2⟩ : ∃ a, a = rText 2000 t1.2 := ⟨_, rfl⟩
                have hgp : getPair sr = (⟨⟨t1.1.toArray⟩, ⟨t2.1.toArray⟩⟩, t2.2) := by unfold getPair; rw [ht2, ht1]
                rw [hgp] at hG
                have HG' := Lib.hid hG
                rw [← ht1] at hl1
                rw [← ht2] at hl2
                have HT1 := Lib.hid (HS.out.rtext 41)
                have HT2 : Hid (∀ w3, RfSt w w.heap.size q mb w3 t1.2 #[.int .i64 a1.1, .int .i64 a2.1, .int .i64 a3.1, .int .i64 a4.1, .int .i64 a5.1, .int .i64 a6.1, .int .i64 a7.1, .int .i64 a8.1, .bool q1.1, .bool q2.1, .slice aoE NE cE, .slice ao k c, .int .i64 fo.1, .slice po j d] → Calls Tryz.prog 120 #[.pointer (some ⟨q, 0, none⟩), .int .i64 2000] w3 fun e w'' => e = .returned (.string ⟨t2.1.toArray⟩) ∧ RfSt w w.heap.size q mb w'' t2.2 #[.int .i64 a1.1, .int .i64 a2.1, .int .i64 a3.1, .int .i64 a4.1, .int .i64 a5.1, .int .i64 a6.1, .int .i64 a7.1, .int .i64 a8.1, .bool q1.1, .bool q2.1, .slice aoE NE cE, .slice ao k c, .int .i64 fo.1, .slice po j d] ∧ w3.grownBy w'' (some q)) := Lib.hid (by rw [ht2]; exact fun w3 h3 => h3.rtext 2000)
                rw [← ht1] at HT1
                clear hG ht1 ht2 hgp hs0
                go_wp2_with fail
                refine HT1.out.mono ?_
                rintro e w2 ⟨rfl, h2, hg2⟩
                have HO2 := Lib.hid (own_far HO.out hg2 hbm)
                have HE2 := Lib.hid (own_far HE.out hg2 hbm)
                have HM2 := Lib.hid (own_far HM.out hg2 hbm)
                have HT3 := Lib.hid (HT2.out w2 h2)
                clear HT1 HT2 h2 hg2 ce
                go_wp2_with fail
                refine HT3.out.mono ?_
                rintro e w5 ⟨rfl, h5, hg5⟩
                have HO5 := Lib.hid (own_far HO2.out hg5 hbm)
                have HE5 := Lib.hid (own_far HE2.out hg5 hbm)
                have HM5 := Lib.hid (own_far HM2.out hg5 hbm)
                have c13 := h5.cell 13 rfl
                have c13a : ∀ o, (w5.alloc o).cell? ⟨mb, 13, none⟩ = some (.slice po j d) := fun o => (h5.calm ((Below.refl _ w5).alloc (Nat.le_refl _) o)).cell 13 rfl
                have H5 := Lib.hid h5
                have hz5 : mb + 1 ≤ w5.heap.size := by have := blk_lt h5.mbk; omega
                clear h5 hg5 HT3 HO2 HE2 HM2
                go_wp2_with (at_builtin; refine wpList_append_new rfl (.tmp 119) (.tmp 123) 116 rfl (mb + 1) 202 i1 _ 2 32 Tryz.underlying116 HIp.out.1 HIp.out.2.1 HIp.out.2.2.1 HIp.out.2.2.2 rfl (by omega) _ j _ rfl HO5.out hz5 [.string ⟨t1.1.toArray⟩, .string ⟨t2.1.toArray⟩] 1 rfl rfl rfl (by simp [Value.oneCell']) (by omega) (by omega) ?_; intro v6 w6 hown6 hg6 hb6 hs6 hat6; obtain ⟨g6, cap6, hv6, _⟩ := hat6; subst hv6; have hf6 : Hid (RfSt w w.heap.size q mb w6 t2.2 #[.int .i64 a1.1, .int .i64 a2.1, .int .i64 a3.1, .int .i64 a4.1, .int .i64 a5.1, .int .i64 a6.1, .int .i64 a7.1, .int .i64 a8.1, .bool q1.1, .bool q2.1, .slice aoE NE cE, .slice ao k c, .int .i64 fo.1, .slice po j d]) := Lib.hid (H5.out.grown hg6 (fun k' hk' => by have := (HO5.out.lt k' hk').1; omega)); have HO6 := Lib.hid hown6; have HE6 := Lib.hid (HE5.out.kept hg6 (own_ne2 HE5.out HO5.out (by decide))); have HM6 := Lib.hid (HM5.out.kept hg6 (own_ne2 HM5.out HO5.out (by decide))); have hcc := hf6.out.cell 13 rfl; have hff := blk_frozen hf6.out.mbk 13; clear hown6 hg6 hb6)
                have h8 := hf6.out.set 13 (.slice (some ⟨g6, 0, none⟩) (j + 1) cap6)
                simp only [List.setIfInBounds_toArray, List.set_cons_succ, List.set_cons_zero] at h8
                have HS8 := Lib.hid h8
                have HO8 := Lib.hid (own_far HO6.out (grown_set w6 mb 13 (.slice (some ⟨g6, 0, none⟩) (j + 1) cap6)) (by omega))
                have HE8 := Lib.hid (own_far HE6.out (grown_set w6 mb 13 (.slice (some ⟨g6, 0, none⟩) (j + 1) cap6)) (by omega))
                have HM8 := Lib.hid (own_far HM6.out (grown_set w6 mb 13 (.slice (some ⟨g6, 0, none⟩) (j + 1) cap6)) (by omega))
                clear h8
                go_roundw
                case rel => exact ⟨j + 1, acp ++ [⟨⟨t1.1.toArray⟩, ⟨t2.1.toArray⟩⟩], some ⟨g6, 0, none⟩, cap6, t2.2, by omega, by go_num, HS8, Lib.hid (by rw [parCells_append]; exact HO8.out), Lib.hid (by rw [List.length_append, HLp.out]; rfl), HG', HE8, HM8⟩
                case measure => simp [intOf] <;> omega
              · have hd3 : (sr.2 == 0) = false := by simpa using hs0
                have hoff := getPairs_off (np - j) sr acp hs0
                rw [HGp.out] at hoff
                have hP2 : P.2 = sr := by
                  rw [HRM.out _ _ _ _ _ (HTl.out _ _ (show getPairs np qp.2 [] = ((getPairs np qp.2 []).1, sr) from by rw [← hoff]))]
                have hre : rEnd sr ≠ 0 := by unfold rEnd; rw [if_pos hs0]; exact hs0
                obtain ⟨gE, hgE⟩ : ∃ g, g = rEnd sr := ⟨_, rfl⟩
                have hgv := getMsgV_d HDh.out HAl.out hA5 (by rw [HSum.out, HCC.out]) (by rw [← HSt.out, ← HPp.out, hP2]; exact hre)
                rw [← HSt.out, ← HPp.out, hP2, ← hgE] at hgv
                rw [← hgE] at hre
                have HG := Lib.hid hgv
                have HEn := Lib.hid (rrend_any HS.out.rd)
                rw [← hgE] at HEn
                have hd4 : (gE != 0) = true := by simpa using hre
                clear hoff hP2 hgv hgE hs0 hre
                go_wp2_with fail
                refine HEn.out.mono ?_
                rintro e w9 ⟨rfl, rfl⟩
                obtain ⟨z0, z1, z2, z3, z4, z5, z6, z7, z8, z9, z10, z11, z12, z13⟩ := msgCells HS.out.rk
                have zf := fun i => blk_frozen HS.out.rk i
                have zf0 := zf 0
                have zf1 := zf 1
                have zf2 := zf 2
                have zf3 := zf 3
                have zf4 := zf 4
                have zf5 := zf 5
                have zf6 := zf 6
                have zf7 := zf 7
                have zf8 := zf 8
                have zf9 := zf 9
                have zf10 := zf 10
                have zf11 := zf 11
                have zf12 := zf 12
                have zf13 := zf 13
                clear zf
                go_wp2_with fail
                obtain ⟨hz, hg⟩ := set14 HS.out.rk (.int .i64 0) (.int .i64 0) (.int .i64 0) (.int .i64 0) (.int .i64 0) (.int .i64 0) (.int .i64 0) (.int .i64 0) (.bool false) (.bool false) (.slice none 0 0) (.slice none 0 0) (.int .i64 0) (.slice none 0 0)
                have HBf := Lib.hid ((HS.out.bel).grown hg (HS.out.bel).size (fun k hk => by injection hk with hk; omega))
                have HFin : Hid True := Lib.hid trivial
                generalize (((((((((((((wr.setCell ⟨w.heap.size, 0, none⟩ (.int .i64 0)).setCell ⟨w.heap.size, 1, none⟩ (.int .i64 0)).setCell ⟨w.heap.size, 2, none⟩ (.int .i64 0)).setCell ⟨w.heap.size, 3, none⟩ (.int .i64 0)).setCell ⟨w.heap.size, 4, none⟩ (.int .i64 0)).setCell ⟨w.heap.size, 5, none⟩ (.int .i64 0)).setCell ⟨w.heap.size, 6, none⟩ (.int .i64 0)).setCell ⟨w.heap.size, 7, none⟩ (.int .i64 0)).setCell ⟨w.heap.size, 8, none⟩ (.bool false)).setCell ⟨w.heap.size, 9, none⟩ (.bool false)).setCell ⟨w.heap.size, 10, none⟩ (.slice none 0 0)).setCell ⟨w.heap.size, 11, none⟩ (.slice none 0 0)).setCell ⟨w.heap.size, 12, none⟩ (.int .i64 0)).setCell ⟨w.heap.size, 13, none⟩ (.slice none 0 0) = Wf at hz HBf HFin ⊢
                obtain ⟨x0, x1, x2, x3, x4, x5, x6, x7, x8, x9, x10, x11, x12, x13⟩ := msgCells hz
                clear hz hg
                refine bodyPost_ret (v := .tuple #[.agg #[.int .i64 0, .int .i64 0, .int .i64 0, .int .i64 0, .int .i64 0, .int .i64 0, .int .i64 0, .int .i64 0, .bool false, .bool false, .slice none 0 0, .slice none 0 0, .int .i64 0, .slice none 0 0], .int .i64 gE]) (by simp [results, Tryz.results86, go_sem, x0, x1, x2, x3, x4, x5, x6, x7, x8, x9, x10, x11, x12, x13]; try rfl) rfl ?_
                exact ⟨⟨msg00, none, 0, 0, none, 0, 0, none, 0, 0⟩, by rw [HG.out]; rfl, by rw [HG.out], MsgOwn.zero _ _, HBf.out⟩
            · obtain rfl : j = np := by omega
              have hd2 : decide (j < j) = false := by simp
              have hd2' : decide ((j : Int) < (j : Int)) = false := by simp
              have hG := HGp.out
              rw [Nat.sub_self, getPairs] at hG
              have hP2 := HRM.out _ _ _ _ _ (HTl.out _ _ hG.symm)
              obtain ⟨gE, hgE⟩ : ∃ g, g = rEnd sr := ⟨_, rfl⟩
              have HEn := Lib.hid (rrend_any HS.out.rd)
              rw [← hgE] at HEn
              by_cases hre : gE = 0
              · subst hre
                have hgv := getMsgV_e HDh.out HAl.out hA5 (by rw [HSum.out, HCC.out]) (by rw [← HSt.out, ← HPp.out, hP2]; exact hgE.symm)
                rw [← HSt.out, ← HPp.out, hP2] at hgv
                have HG := Lib.hid hgv
                obtain ⟨m, hm⟩ : ∃ m : MsgR, m = ⟨⟨a1.1, a2.1, a3.1, a4.1, a5.1, a6.1, a7.1, a8.1, q1.1, q2.1, pr.1, acc, fo.1, acp⟩, aoE, NE, cE, ao, k, c, po, j, d⟩ := ⟨_, rfl⟩
                have hmo : MsgOwn wr (mb + 1) m := by rw [hm]; exact ⟨HE.out, HM.out, HO.out, hlE, HLn.out, HLp.out⟩
                have HMm := Lib.hid hm
                have HMo := Lib.hid hmo
                clear hG hP2 hgv hgE hm hmo
                go_wp2_with fail
                refine HEn.out.mono ?_
                rintro e w9 ⟨rfl, rfl⟩
                obtain ⟨y0, y1, y2, y3, y4, y5, y6, y7, y8, y9, y10, y11, y12, y13⟩ := msgCells HS.out.mbk
                obtain ⟨z0, z1, z2, z3, z4, z5, z6, z7, z8, z9, z10, z11, z12, z13⟩ := msgCells HS.out.rk
                have zf := fun i => blk_frozen HS.out.rk i
                have zf0 := zf 0
                have zf1 := zf 1
                have zf2 := zf 2
                have zf3 := zf 3
                have zf4 := zf 4
                have zf5 := zf 5
                have zf6 := zf 6
                have zf7 := zf 7
                have zf8 := zf 8
                have zf9 := zf 9
                have zf10 := zf 10
                have zf11 := zf 11
                have zf12 := zf 12
                have zf13 := zf 13
                clear zf
                go_wp2_with fail
                have e1 := HS.out.h1
                have e2 := HS.out.h2
                obtain ⟨hz, hg⟩ := set14 HS.out.rk (.int .i64 a1.1) (.int .i64 a2.1) (.int .i64 a3.1) (.int .i64 a4.1) (.int .i64 a5.1) (.int .i64 a6.1) (.int .i64 a7.1) (.int .i64 a8.1) (.bool q1.1) (.bool q2.1) (.slice aoE NE cE) (.slice ao k c) (.int .i64 fo.1) (.slice po j d)
                have HBf := Lib.hid ((HS.out.bel).grown hg (HS.out.bel).size (fun k hk => by injection hk with hk; omega))
                have HFin := Lib.hid ((HMo.out.far hg (by omega)).low (show w.heap.size ≤ mb + 1 by omega))
                generalize (((((((((((((wr.setCell ⟨w.heap.size, 0, none⟩ (.int .i64 a1.1)).setCell ⟨w.heap.size, 1, none⟩ (.int .i64 a2.1)).setCell ⟨w.heap.size, 2, none⟩ (.int .i64 a3.1)).setCell ⟨w.heap.size, 3, none⟩ (.int .i64 a4.1)).setCell ⟨w.heap.size, 4, none⟩ (.int .i64 a5.1)).setCell ⟨w.heap.size, 5, none⟩ (.int .i64 a6.1)).setCell ⟨w.heap.size, 6, none⟩ (.int .i64 a7.1)).setCell ⟨w.heap.size, 7, none⟩ (.int .i64 a8.1)).setCell ⟨w.heap.size, 8, none⟩ (.bool q1.1)).setCell ⟨w.heap.size, 9, none⟩ (.bool q2.1)).setCell ⟨w.heap.size, 10, none⟩ (.slice aoE NE cE)).setCell ⟨w.heap.size, 11, none⟩ (.slice ao k c)).setCell ⟨w.heap.size, 12, none⟩ (.int .i64 fo.1)).setCell ⟨w.heap.size, 13, none⟩ (.slice po j d) = Wf at hz HBf HFin ⊢
                obtain ⟨x0, x1, x2, x3, x4, x5, x6, x7, x8, x9, x10, x11, x12, x13⟩ := msgCells hz
                clear hz hg
                refine bodyPost_ret (v := .tuple #[.agg #[.int .i64 a1.1, .int .i64 a2.1, .int .i64 a3.1, .int .i64 a4.1, .int .i64 a5.1, .int .i64 a6.1, .int .i64 a7.1, .int .i64 a8.1, .bool q1.1, .bool q2.1, .slice aoE NE cE, .slice ao k c, .int .i64 fo.1, .slice po j d], .int .i64 0]) (by simp [results, Tryz.results86, go_sem, x0, x1, x2, x3, x4, x5, x6, x7, x8, x9, x10, x11, x12, x13]; try rfl) rfl ?_
                exact ⟨m, by rw [HG.out, HMm.out]; rfl, by rw [HG.out, HMm.out], HFin.out, HBf.out⟩
              · have hgv := getMsgV_d HDh.out HAl.out hA5 (by rw [HSum.out, HCC.out]) (by rw [← HSt.out, ← HPp.out, hP2]; rw [← hgE]; exact hre)
                rw [← HSt.out, ← HPp.out, hP2] at hgv
                dsimp only at hgv
                rw [← hgE] at hgv
                have HG := Lib.hid hgv
                have hd4 : (gE != 0) = true := by simpa using hre
                clear hG hP2 hgv hgE hre
                go_wp2_with fail
                refine HEn.out.mono ?_
                rintro e w9 ⟨rfl, rfl⟩
                obtain ⟨z0, z1, z2, z3, z4, z5, z6, z7, z8, z9, z10, z11, z12, z13⟩ := msgCells HS.out.rk
                have zf := fun i => blk_frozen HS.out.rk i
                have zf0 := zf 0
                have zf1 := zf 1
                have zf2 := zf 2
                have zf3 := zf 3
                have zf4 := zf 4
                have zf5 := zf 5
                have zf6 := zf 6
                have zf7 := zf 7
                have zf8 := zf 8
                have zf9 := zf 9
                have zf10 := zf 10
                have zf11 := zf 11
                have zf12 := zf 12
                have zf13 := zf 13
                clear zf
                go_wp2_with fail
                obtain ⟨hz, hg⟩ := set14 HS.out.rk (.int .i64 0) (.int .i64 0) (.int .i64 0) (.int .i64 0) (.int .i64 0) (.int .i64 0) (.int .i64 0) (.int .i64 0) (.bool false) (.bool false) (.slice none 0 0) (.slice none 0 0) (.int .i64 0) (.slice none 0 0)
                have HBf := Lib.hid ((HS.out.bel).grown hg (HS.out.bel).size (fun k hk => by injection hk with hk; omega))
                have HFin : Hid True := Lib.hid trivial
                generalize (((((((((((((wr.setCell ⟨w.heap.size, 0, none⟩ (.int .i64 0)).setCell ⟨w.heap.size, 1, none⟩ (.int .i64 0)).setCell ⟨w.heap.size, 2, none⟩ (.int .i64 0)).setCell ⟨w.heap.size, 3, none⟩ (.int .i64 0)).setCell ⟨w.heap.size, 4, none⟩ (.int .i64 0)).setCell ⟨w.heap.size, 5, none⟩ (.int .i64 0)).setCell ⟨w.heap.size, 6, none⟩ (.int .i64 0)).setCell ⟨w.heap.size, 7, none⟩ (.int .i64 0)).setCell ⟨w.heap.size, 8, none⟩ (.bool false)).setCell ⟨w.heap.size, 9, none⟩ (.bool false)).setCell ⟨w.heap.size, 10, none⟩ (.slice none 0 0)).setCell ⟨w.heap.size, 11, none⟩ (.slice none 0 0)).setCell ⟨w.heap.size, 12, none⟩ (.int .i64 0)).setCell ⟨w.heap.size, 13, none⟩ (.slice none 0 0) = Wf at hz HBf HFin ⊢
                obtain ⟨x0, x1, x2, x3, x4, x5, x6, x7, x8, x9, x10, x11, x12, x13⟩ := msgCells hz
                clear hz hg
                refine bodyPost_ret (v := .tuple #[.agg #[.int .i64 0, .int .i64 0, .int .i64 0, .int .i64 0, .int .i64 0, .int .i64 0, .int .i64 0, .int .i64 0, .bool false, .bool false, .slice none 0 0, .slice none 0 0, .int .i64 0, .slice none 0 0], .int .i64 gE]) (by simp [results, Tryz.results86, go_sem, x0, x1, x2, x3, x4, x5, x6, x7, x8, x9, x10, x11, x12, x13]; try rfl) rfl ?_
                exact ⟨⟨msg00, none, 0, 0, none, 0, 0, none, 0, 0⟩, by rw [HG.out]; rfl, by rw [HG.out], MsgOwn.zero _ _, HBf.out⟩
end
end Go.Proofs.YtmdidmllaldbaaaGreat
