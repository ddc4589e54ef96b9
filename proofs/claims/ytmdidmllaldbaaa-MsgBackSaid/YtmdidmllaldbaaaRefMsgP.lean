/- The walks of the document's PutMsg and SameMsg. -/
import Derived.Test.YtmdidmllaldbaaaMsgPut
import Derived.Test.YtmdidmllaldbaaaRefEntP
import Derived.Test.YtmdidmllaldbaaaRefCrc
import Derived.Test.YtmdidmllaldbaaaRefFix
import Derived.Test.YtmdidmllaldbaaaRefVar
import Derived.Test.YtmdidmllaldbaaaSince
import Derived.Deep.RegionHeld3
import Derived.Deep.DeepCutAuto
namespace Go.Proofs.Ytmdidmllaldbaaa
open Go.RowKit
set_option linter.unusedVariables false
theorem rboolM_any (v : Bool) (w : World) : Calls Try.prog 37 #[.bool v] w fun e w' => e = .returned (.string ⟨(boolM v).toArray⟩) ∧ w = w' := by
  cases v with
  | false =>
    go_enter Try.func37, Try.ntmps37
    go_wp2
    go_ret
    exact ⟨rfl, rfl⟩
  | true =>
    go_enter Try.func37, Try.ntmps37
    go_wp2
    go_ret
    exact ⟨rfl, rfl⟩
theorem rvar_rowM {w : World} {g : Nat} {cs : Array Value} {t : TypeId} (vs : List Int) (n : Nat) (h : w.heap[g]? = some (.cells cs t (0, 0))) (hcs : cs = (vs.map (Value.int .i64)).toArray) (hl : vs.length = n) (hn : n ≤ 1000) (hv : ∀ v ∈ vs, -9223372036854775808 ≤ v ∧ v ≤ 9223372036854775807) :
    Calls Try.prog 36 #[.slice (some ⟨g, 0, none⟩) n n] w fun e w' => e = .returned (.string ⟨(vars vs).toArray⟩) ∧ Below w.heap.size w w' := by
  subst hcs
  refine rvars_any (some ⟨g, 0, none⟩) n n vs w hl (by omega) (fun k hk => ⟨g, 0, rfl, blk_lt h, ?_⟩) hv
  rw [Nat.zero_add, blk_cell h]
  have hk2 : k < vs.length := by omega
  simp [hk2, List.getD]
/-- The message's block, along PutMsg. -/
structure MB (w : World) (q : Nat) (m : MsgR) (W : World) : Prop where
  blk : W.heap[q]? = some (.cells #[.int .i64 m.v.kd, .int .i64 m.v.frm, .int .i64 m.v.dst, .int .i64 m.v.tm, .int .i64 m.v.ix, .int .i64 m.v.lt, .int .i64 m.v.cm, .int .i64 m.v.rd, .bool m.v.ok, .bool m.v.dn, .slice m.eo m.en m.ec, .slice m.mo m.mn m.mc, .int .i64 m.v.off, .slice m.po m.pn m.pc] 26 (0, 0))
  bel : Below q w W
  wq : w.heap.size = q
theorem MB.calm {w : World} {q : Nat} {m : MsgR} {W W' : World} (h : MB w q m W) (hb : Below W.heap.size W W') : MB w q m W' :=
  ⟨(hb.block q (blk_lt h.blk)).trans h.blk, h.bel.trans (hb.mono (by have := h.bel.size; have := h.wq; omega)), h.wq⟩
theorem MB.facts {w : World} {q : Nat} {m : MsgR} {W : World} (h : MB w q m W) :
    (W.cell? ⟨q, 0, none⟩ = some (.int .i64 m.v.kd) ∧ W.cell? ⟨q, 1, none⟩ = some (.int .i64 m.v.frm) ∧ W.cell? ⟨q, 2, none⟩ = some (.int .i64 m.v.dst) ∧ W.cell? ⟨q, 3, none⟩ = some (.int .i64 m.v.tm) ∧ W.cell? ⟨q, 4, none⟩ = some (.int .i64 m.v.ix) ∧ W.cell? ⟨q, 5, none⟩ = some (.int .i64 m.v.lt) ∧ W.cell? ⟨q, 6, none⟩ = some (.int .i64 m.v.cm) ∧ W.cell? ⟨q, 7, none⟩ = some (.int .i64 m.v.rd) ∧ W.cell? ⟨q, 8, none⟩ = some (.bool m.v.ok) ∧ W.cell? ⟨q, 9, none⟩ = some (.bool m.v.dn)) ∧
    (W.cell? ⟨q, 10, none⟩ = some (.slice m.eo m.en m.ec) ∧ W.cell? ⟨q, 11, none⟩ = some (.slice m.mo m.mn m.mc) ∧ W.cell? ⟨q, 12, none⟩ = some (.int .i64 m.v.off) ∧ W.cell? ⟨q, 13, none⟩ = some (.slice m.po m.pn m.pc)) := by
  refine ⟨⟨?_, ?_, ?_, ?_, ?_, ?_, ?_, ?_, ?_, ?_⟩, ?_, ?_, ?_, ?_⟩ <;> rw [blk_cell h.blk] <;> rfl
set_option maxRecDepth 20000 in
set_option maxHeartbeats 8000000 in
theorem rputMsg_any {m : MsgR} {w : World} (hM : MsgAt w m) (hok : MsgOk m.v) (hs : MsgSm m.v) :
    Calls Try.prog 26 #[m.agg] w fun e w' => e = .returned (.string ⟨(putMsgB m.v).toArray⟩) ∧ Below w.heap.size w w' := by
  obtain ⟨q, hq⟩ : ∃ q, w.heap.size = q := ⟨_, rfl⟩
  have HQ := Lib.hid hq
  have HM : Hid (∀ W, Below q w W → MsgAt W m) := Lib.hid (fun W hb => hM.below (by rw [hq]; exact hb))
  have HOk := Lib.hid hok
  have HSm := Lib.hid hs
  have HS0 : Hid (MB w q m (w.alloc (.cells #[.int .i64 m.v.kd, .int .i64 m.v.frm, .int .i64 m.v.dst, .int .i64 m.v.tm, .int .i64 m.v.ix, .int .i64 m.v.lt, .int .i64 m.v.cm, .int .i64 m.v.rd, .bool m.v.ok, .bool m.v.dn, .slice m.eo m.en m.ec, .slice m.mo m.mn m.mc, .int .i64 m.v.off, .slice m.po m.pn m.pc] 26))) := Lib.hid ⟨new_at _ _ _ hq.symm, (Below.refl _ _).alloc (by omega) _, hq⟩
  have hpnl : m.v.ps.length = m.pn := hM.ps.1
  have henl : m.v.es.length = m.en := hM.es.1
  have hmnl : m.v.ms.length = m.mn := hM.ms.1
  have hpc : (m.pn : Int) ≤ m.pc := by have := hM.pc.1; omega
  have hpl : m.pn ≤ 1000 := by have := hs.pl; omega
  have hel : m.en ≤ 1000 := by have := hs.el; omega
  have hml : m.mn ≤ 1000 := by have := hs.ml; omega
  have HPn := Lib.hid hpnl
  clear hM hok hs hq henl hmnl hpnl
  unfold MsgR.agg
  go_enter Try.func26, Try.ntmps26
  go_upto_region 1 with fail
  rw [HQ.out]
  generalize (w.alloc (.cells #[.int .i64 m.v.kd, .int .i64 m.v.frm, .int .i64 m.v.dst, .int .i64 m.v.tm, .int .i64 m.v.ix, .int .i64 m.v.lt, .int .i64 m.v.cm, .int .i64 m.v.rd, .bool m.v.ok, .bool m.v.dn, .slice m.eo m.en m.ec, .slice m.mo m.mn m.mc, .int .i64 m.v.off, .slice m.po m.pn m.pc] 26)) = w1 at HS0 ⊢
  obtain ⟨P3, hP3⟩ : ∃ P, P = mh1 m.v ++ (boolM m.v.ok ++ boolM m.v.dn) := ⟨_, rfl⟩
  have HP3 := Lib.hid hP3
  clear hP3
  go_cut [3] (fun s W => s = .string ⟨P3.toArray⟩ ∧ Hid (MB w q m W))
  case first =>
    obtain ⟨i1, i2, i3, i4, i5, i6, i7, i8, i9, -⟩ := HOk.out
    obtain ⟨V, hV⟩ : ∃ V, V = vars [m.v.kd, m.v.frm, m.v.dst, m.v.tm, m.v.ix, m.v.lt, m.v.cm, m.v.rd] := ⟨_, rfl⟩
    obtain ⟨b1, e1⟩ : ∃ b1, b1 = boolM m.v.ok := ⟨_, rfl⟩
    obtain ⟨b2, e2⟩ : ∃ b2, b2 = boolM m.v.dn := ⟨_, rfl⟩
    obtain ⟨P1, hP1⟩ : ∃ P, P = [109] ++ V := ⟨_, rfl⟩
    obtain ⟨P2, hP2⟩ : ∃ P, P = P1 ++ b1 := ⟨_, rfl⟩
    have hm1 : mh1 m.v = P1 := by rw [hP1, hV]; rfl
    have hl1 := (mhd_room HSm.out).1
    rw [hm1] at hl1
    have hp3 : P3 = P2 ++ b2 := by rw [HP3.out, hP2, hm1, e1, e2, List.append_assoc]
    have hb1 : b1.length = 1 := by rw [e1]; exact boolM_len _
    have hb2 : b2.length = 1 := by rw [e2]; exact boolM_len _
    have hcat1 : ∀ W : World, (Op.stringOp .add ⟨#[109]⟩ ⟨V.toArray⟩).run Try.prog W = .ok (.string ⟨P1.toArray⟩) W := fun W => by rw [hP1]; exact cat_run [109] _ W (by rw [hP1, List.length_append] at hl1; omega)
    have hcat2 : ∀ W : World, (Op.stringOp .add ⟨P1.toArray⟩ ⟨b1.toArray⟩).run Try.prog W = .ok (.string ⟨P2.toArray⟩) W := fun W => by rw [hP2]; exact cat_run _ _ W (by omega)
    have hcat3 : ∀ W : World, (Op.stringOp .add ⟨P2.toArray⟩ ⟨b2.toArray⟩).run Try.prog W = .ok (.string ⟨P3.toArray⟩) W := fun W => by rw [hp3]; exact cat_run _ _ W (by rw [hP2, List.length_append]; omega)
    have HB1 : Hid (∀ W, Calls Try.prog 37 #[.bool m.v.ok] W fun e w' => e = .returned (.string ⟨b1.toArray⟩) ∧ W = w') := Lib.hid (fun W => by rw [e1]; exact rboolM_any _ W)
    have HB2 : Hid (∀ W, Calls Try.prog 37 #[.bool m.v.dn] W fun e w' => e = .returned (.string ⟨b2.toArray⟩) ∧ W = w') := Lib.hid (fun W => by rw [e2]; exact rboolM_any _ W)
    have HVr : Hid (∀ (W : World) (g : Nat) (cs : Array Value) (t : TypeId), W.heap[g]? = some (.cells cs t (0, 0)) → cs = ([m.v.kd, m.v.frm, m.v.dst, m.v.tm, m.v.ix, m.v.lt, m.v.cm, m.v.rd].map (Value.int .i64)).toArray → Calls Try.prog 36 #[.slice (some ⟨g, 0, none⟩) 8 8] W fun e w' => e = .returned (.string ⟨V.toArray⟩) ∧ Below W.heap.size W w') :=
      Lib.hid (fun W g cs t h hc => by
        rw [hV]
        exact rvar_rowM _ 8 h hc rfl (by omega) (by
          intro v hv
          simp only [List.mem_cons, List.not_mem_nil, or_false] at hv
          rcases hv with rfl | rfl | rfl | rfl | rfl | rfl | rfl | rfl
          · exact i1
          · exact i2
          · exact i3
          · exact i4
          · exact i5
          · exact i6
          · exact i7
          · exact i8))
    have hr1 : Below w1.heap.size w1 w1 := Below.refl _ _
    have HC : Hid (∀ W, Below w1.heap.size w1 W → W.cell? ⟨q, 0, none⟩ = some (.int .i64 m.v.kd) ∧ W.cell? ⟨q, 1, none⟩ = some (.int .i64 m.v.frm) ∧ W.cell? ⟨q, 2, none⟩ = some (.int .i64 m.v.dst) ∧ W.cell? ⟨q, 3, none⟩ = some (.int .i64 m.v.tm) ∧ W.cell? ⟨q, 4, none⟩ = some (.int .i64 m.v.ix) ∧ W.cell? ⟨q, 5, none⟩ = some (.int .i64 m.v.lt) ∧ W.cell? ⟨q, 6, none⟩ = some (.int .i64 m.v.cm) ∧ W.cell? ⟨q, 7, none⟩ = some (.int .i64 m.v.rd) ∧ W.cell? ⟨q, 8, none⟩ = some (.bool m.v.ok) ∧ W.cell? ⟨q, 9, none⟩ = some (.bool m.v.dn)) := Lib.hid (fun W hb => (HS0.out.calm hb).facts.1)
    clear i1 i2 i3 i4 i5 i6 i7 i8 i9 hV e1 e2 hP1 hP2 hm1 hl1 hp3 hb1 hb2
    go_region_held3 (fun W => W.cell? ⟨q, 0, none⟩ = some (.int .i64 m.v.kd) ∧ W.cell? ⟨q, 1, none⟩ = some (.int .i64 m.v.frm) ∧ W.cell? ⟨q, 2, none⟩ = some (.int .i64 m.v.dst) ∧ W.cell? ⟨q, 3, none⟩ = some (.int .i64 m.v.tm) ∧ W.cell? ⟨q, 4, none⟩ = some (.int .i64 m.v.ix) ∧ W.cell? ⟨q, 5, none⟩ = some (.int .i64 m.v.lt) ∧ W.cell? ⟨q, 6, none⟩ = some (.int .i64 m.v.cm) ∧ W.cell? ⟨q, 7, none⟩ = some (.int .i64 m.v.rd) ∧ W.cell? ⟨q, 8, none⟩ = some (.bool m.v.ok) ∧ W.cell? ⟨q, 9, none⟩ = some (.bool m.v.dn))
      ((refine HC.out _ ?_; (repeat (with_reducible (first | assumption | refine Below.drew ?_ | refine Below.alloc ?_ ?_ _))); all_goals (first | omega | (simp <;> omega))))
      (first
        | (go_at_call 37; ((first | refine (HB1.out _).mono ?_ | refine (HB2.out _).mono ?_); rintro e6 w6 ⟨rfl, rfl⟩))
        | (go_at_call 36; ((refine (HVr.out _ _ _ _ (by (repeat (first | exact new_at _ _ _ (by simp) | refine old_at _ _ _ _ ?_))) rfl).mono ?_); rintro e5 w5 ⟨rfl, hb5⟩; have hv5 : Below w1.heap.size w1 w5 := (by (refine Below.trans ?_ (hb5.mono ?_)); (repeat (with_reducible (first | assumption | refine Below.drew ?_ | refine Below.alloc ?_ ?_ _))); all_goals (first | omega | (simp <;> omega))); clear hb5)))
    all_goals (
      clear hcat1 hcat2 hcat3
      go_wp2_with fail
      go_meet
      exact ⟨rfl, Lib.hid (HS0.out.calm (by (repeat (with_reducible (first | assumption | refine Below.drew ?_ | refine Below.alloc ?_ ?_ _))); all_goals (first | omega | (simp <;> omega))))⟩)
  case rest =>
    rename World => w2
    obtain ⟨rfl, HS2⟩ := hcut
    clear HS0
    obtain ⟨S0, hS0⟩ : ∃ S, S = mhd m.v ++ pairsB (m.v.ps.take 0) := ⟨_, rfl⟩
    have HS0 := Lib.hid hS0
    clear hS0
    go_upto_region 2 with fail
    go_cut [3] (fun s W => s = .string ⟨S0.toArray⟩ ∧ Hid (MB w q m W))
    case first =>
      obtain ⟨b4, e4⟩ : ∃ b, b = putB m.v.es := ⟨_, rfl⟩
      obtain ⟨b6, e6⟩ : ∃ b, b = memB m.v.ms := ⟨_, rfl⟩
      obtain ⟨X, hX⟩ : ∃ b, b = vars [m.v.off, (m.pn : Int)] := ⟨_, rfl⟩
      obtain ⟨P4, hP4⟩ : ∃ P, P = P3 ++ b4 := ⟨_, rfl⟩
      obtain ⟨P5, hP5⟩ : ∃ P, P = P4 ++ b6 := ⟨_, rfl⟩
      have hS : S0 = P5 ++ X := by
        rw [HS0.out, hP5, hP4, HP3.out, e4, e6, hX]
        unfold mhd mh2 mh3
        rw [HPn.out]
        simp [pairsB]
      have hlen := (mhd_room HSm.out).2.2.2
      have hS1 : S0.length ≤ 10300000 := by rw [HS0.out]; simpa [pairsB] using hlen
      have hl5 : P5.length + X.length = S0.length := by rw [hS, List.length_append]
      have hl4 : P4.length + b6.length = P5.length := by rw [hP5, List.length_append]
      have hl3 : P3.length + b4.length = P4.length := by rw [hP4, List.length_append]
      have hcat1 : ∀ W : World, (Op.stringOp .add ⟨P3.toArray⟩ ⟨b4.toArray⟩).run Try.prog W = .ok (.string ⟨P4.toArray⟩) W := fun W => by rw [hP4]; exact cat_run _ _ W (by omega)
      have hcat2 : ∀ W : World, (Op.stringOp .add ⟨P4.toArray⟩ ⟨b6.toArray⟩).run Try.prog W = .ok (.string ⟨P5.toArray⟩) W := fun W => by rw [hP5]; exact cat_run _ _ W (by omega)
      have hcat3 : ∀ W : World, (Op.stringOp .add ⟨P5.toArray⟩ ⟨X.toArray⟩).run Try.prog W = .ok (.string ⟨S0.toArray⟩) W := fun W => by rw [hS]; exact cat_run _ _ W (by omega)
      have HPu : Hid (∀ W, Below w2.heap.size w2 W → Calls Try.prog 38 #[.slice m.eo m.en m.ec] W fun e w' => e = .returned (.string ⟨b4.toArray⟩) ∧ Below W.heap.size W w') := Lib.hid (fun W hb => by rw [e4]; exact rput16_any (HM.out W (HS2.out.calm hb).bel).es HOk.out.2.2.2.2.2.2.2.2.2.1.1 (by omega) (by have := HSm.out.ed; omega))
      have HPm : Hid (∀ W, Below w2.heap.size w2 W → Calls Try.prog 39 #[.slice m.mo m.mn m.mc] W fun e w' => e = .returned (.string ⟨b6.toArray⟩) ∧ Below W.heap.size W w') := Lib.hid (fun W hb => by rw [e6]; exact rputMembers16_any (HM.out W (HS2.out.calm hb).bel).ms (by omega))
      have HVr : Hid (∀ (W : World) (g : Nat) (cs : Array Value) (t : TypeId), W.heap[g]? = some (.cells cs t (0, 0)) → cs = ([m.v.off, (m.pn : Int)].map (Value.int .i64)).toArray → Calls Try.prog 36 #[.slice (some ⟨g, 0, none⟩) 2 2] W fun e w' => e = .returned (.string ⟨X.toArray⟩) ∧ Below W.heap.size W w') :=
        Lib.hid (fun W g cs t h hc => by
          rw [hX]
          exact rvar_rowM _ 2 h hc rfl (by omega) (by
            intro v hv
            simp only [List.mem_cons, List.not_mem_nil, or_false] at hv
            rcases hv with rfl | rfl
            · exact HOk.out.2.2.2.2.2.2.2.2.1
            · omega))
      have hr1 : Below w2.heap.size w2 w2 := Below.refl _ _
      have HC : Hid (∀ W, Below w2.heap.size w2 W → W.cell? ⟨q, 10, none⟩ = some (.slice m.eo m.en m.ec) ∧ W.cell? ⟨q, 11, none⟩ = some (.slice m.mo m.mn m.mc) ∧ W.cell? ⟨q, 12, none⟩ = some (.int .i64 m.v.off) ∧ W.cell? ⟨q, 13, none⟩ = some (.slice m.po m.pn m.pc)) := Lib.hid (fun W hb => (HS2.out.calm hb).facts.2)
      clear e4 e6 hX hP4 hP5 hS hlen hS1 hl5 hl4 hl3
      go_region_held3 (fun W => W.cell? ⟨q, 10, none⟩ = some (.slice m.eo m.en m.ec) ∧ W.cell? ⟨q, 11, none⟩ = some (.slice m.mo m.mn m.mc) ∧ W.cell? ⟨q, 12, none⟩ = some (.int .i64 m.v.off) ∧ W.cell? ⟨q, 13, none⟩ = some (.slice m.po m.pn m.pc))
        ((refine HC.out _ ?_; (repeat (with_reducible (first | assumption | refine Below.drew ?_ | refine Below.alloc ?_ ?_ _))); all_goals (first | omega | (simp <;> omega))))
        (first
          | (go_at_call 38; ((refine (HPu.out _ (by (repeat (with_reducible (first | assumption | refine Below.drew ?_ | refine Below.alloc ?_ ?_ _))); all_goals (first | omega | (simp <;> omega)))).mono ?_); rintro e6 w6 ⟨rfl, hb6⟩; have hv6 : Below w2.heap.size w2 w6 := (by (refine Below.trans ?_ (hb6.mono ?_)); (repeat (with_reducible (first | assumption | refine Below.drew ?_ | refine Below.alloc ?_ ?_ _))); all_goals (first | omega | (simp <;> omega))); have hs6 := hv6.size; have ht6 := hb6.size; (try simp at ht6); have hbz6 := hb6))
          | (go_at_call 39; ((refine (HPm.out _ (by (repeat (with_reducible (first | assumption | refine Below.drew ?_ | refine Below.alloc ?_ ?_ _))); all_goals (first | omega | (simp <;> omega)))).mono ?_); rintro e7 w7 ⟨rfl, hb7⟩; have hv7 : Below w2.heap.size w2 w7 := (by (refine Below.trans ?_ (hb7.mono ?_)); (repeat (with_reducible (first | assumption | refine Below.drew ?_ | refine Below.alloc ?_ ?_ _))); all_goals (first | omega | (simp <;> omega))); have hs7 := hv7.size; have ht7 := hb7.size; (try simp at ht7); have hbz7 := hb7))
          | (go_at_call 36; ((first | refine (HVr.out _ _ _ _ (new_at _ _ _ rfl) rfl).mono ?_ | refine (HVr.out _ _ _ _ ((Below.block hbz7 _ (by simp)).trans (new_at _ _ _ rfl)) rfl).mono ?_ | refine (HVr.out _ _ _ _ ((Below.block hbz7 _ (by first | omega | (simp; done) | (simp; omega))).trans ((Below.block hbz6 _ (by first | omega | (simp; done) | (simp; omega))).trans (new_at _ _ _ rfl))) rfl).mono ?_); rintro e5 w5 ⟨rfl, hb5⟩; have hv5 : Below w2.heap.size w2 w5 := (by (refine Below.trans ?_ (hb5.mono ?_)); (repeat (with_reducible (first | assumption | refine Below.drew ?_ | refine Below.alloc ?_ ?_ _))); all_goals (first | omega | (simp <;> omega))); have hs5 := hv5.size; clear hb5)))
      all_goals (
        clear hcat1 hcat2 hcat3
        go_wp2_with fail
        go_meet
        exact ⟨rfl, Lib.hid (HS2.out.calm (by (repeat (with_reducible (first | assumption | refine Below.drew ?_ | refine Below.alloc ?_ ?_ _))); all_goals (first | omega | (simp <;> omega))))⟩)
    case rest =>
      rename World => w3
      obtain ⟨rfl, HS3⟩ := hcut
      clear HS2 HP3
      go_wp2_with fail
      go_loopw [3, 4] (fun s i wr => ∃ (k : Nat) (S : List UInt8), k ≤ m.pn ∧ i = .int .i64 k ∧ s = .string ⟨S.toArray⟩ ∧ Hid (S = mhd m.v ++ pairsB (m.v.ps.take k)) ∧ Hid (MB w q m wr)) (fun _ i _ => m.pn - (intOf i).toNat)
      case atStart => exact ⟨0, S0, Nat.zero_le _, rfl, rfl, HS0, HS3⟩
      case round =>
        obtain ⟨k, S, hk, rfl, rfl, HSk, HS⟩ := hrel
        have c13 := HS.out.facts.2.2.2.2
        by_cases hlt : k < m.pn
        · have hd1 : decide (k < m.pn) = true := by simpa using hlt
          have hd1' : decide ((k : Int) < (m.pn : Int)) = true := by simp; omega
          obtain ⟨gp, o, p, hpo, hgB, hpk, -, -⟩ := (HM.out wr HS.out.bel).ps.get hlt
          have HPo := Lib.hid hpo
          have hx1 : (0 : Int) ≤ k := by omega
          have hx2 : (k : Int) < m.pn := by omega
          have hroom := msgB_room HSm.out (k + 1)
          have hnext : mhd m.v ++ pairsB (m.v.ps.take (k + 1)) = S ++ pairB p := by rw [pairsB_take_succ _ _ _ hpk, ← List.append_assoc, ← HSk.out]
          rw [hnext] at hroom
          have hsum : p.key.size + p.vl.size ≤ 10000000 := by
            have := le_sum (m.v.ps.map (fun p => p.key.size + p.vl.size)) (p.key.size + p.vl.size) (List.mem_map.2 ⟨p, List.mem_of_getElem? hpk, rfl⟩)
            have := HSm.out.pd
            omega
          obtain ⟨K, hK⟩ : ∃ K, K = textB p.key.data.toList := ⟨_, rfl⟩
          obtain ⟨X, hX⟩ : ∃ K, K = textB p.vl.data.toList := ⟨_, rfl⟩
          obtain ⟨Q1, hQ1⟩ : ∃ Q, Q = S ++ K := ⟨_, rfl⟩
          obtain ⟨Q2, hQ2⟩ : ∃ Q, Q = Q1 ++ X := ⟨_, rfl⟩
          have hQ : S ++ pairB p = Q2 := by rw [hQ2, hQ1, hK, hX]; unfold pairB; rw [List.append_assoc]
          rw [hQ] at hroom hnext
          have hl2 : Q1.length + X.length = Q2.length := by rw [hQ2, List.length_append]
          have hl1 : S.length + K.length = Q1.length := by rw [hQ1, List.length_append]
          have hcat1 : ∀ W : World, (Op.stringOp .add ⟨S.toArray⟩ ⟨K.toArray⟩).run Try.prog W = .ok (.string ⟨Q1.toArray⟩) W := fun W => by rw [hQ1]; exact cat_run _ _ W (by omega)
          have hcat2 : ∀ W : World, (Op.stringOp .add ⟨Q1.toArray⟩ ⟨X.toArray⟩).run Try.prog W = .ok (.string ⟨Q2.toArray⟩) W := fun W => by rw [hQ2]; exact cat_run _ _ W (by omega)
          have HT1 : Hid (∀ W, Calls Try.prog 40 #[.string p.key] W fun e w' => e = .returned (.string ⟨K.toArray⟩) ∧ Below W.heap.size W w') := Lib.hid (fun W => by rw [hK]; exact rtext_any p.key (by omega) W)
          have HT2 : Hid (∀ W, Calls Try.prog 40 #[.string p.vl] W fun e w' => e = .returned (.string ⟨X.toArray⟩) ∧ Below W.heap.size W w') := Lib.hid (fun W => by rw [hX]; exact rtext_any p.vl (by omega) W)
          have HNx := Lib.hid hnext
          have HPk := Lib.hid hpk
          have hm13 : ∀ r : SinceW wr.heap.size wr, r.w.cell? ⟨q, 13, none⟩ = some (.slice (some ⟨gp, o, none⟩) m.pn m.pc) := fun r => by rw [← HPo.out]; exact (HS.out.calm r.h).facts.2.2.2.2
          have hp0 : ∀ r : SinceW wr.heap.size wr, r.w.cell? ⟨gp, o + k * 2, none⟩ = some (.string p.key) ∧ r.w.cell? ⟨gp, o + k * 2 + 1, none⟩ = some (.string p.vl) := fun r => by
            obtain ⟨gp', o', p', hpo', _, hpk', k0, k1⟩ := (HM.out r.w (HS.out.calm r.h).bel).ps.get hlt
            rw [HPo.out] at hpo'
            injection hpo' with hpo'
            injection hpo' with e1 e2
            subst e1 e2
            rw [HPk.out] at hpk'
            injection hpk' with hpk'
            subst hpk'
            exact ⟨k0, k1⟩
          have hk0 : ∀ r : SinceW wr.heap.size wr, r.w.cell? ⟨gp, o + k * 2, none⟩ = some (.string p.key) := fun r => (hp0 r).1
          have hk1 : ∀ r : SinceW wr.heap.size wr, r.w.cell? ⟨gp, o + k * 2 + 1, none⟩ = some (.string p.vl) := fun r => (hp0 r).2
          clear hpo hpk hroom hnext hK hX hQ1 hQ2 hQ hl2 hl1 hsum hp0
          rw [HPo.out] at c13
          go_wp2_with fail
          refine wp_region_since (B := wr.heap.size) (W0 := wr) (by kernel_rfl) (by kernel_rfl) (Below.refl _ _) ?_
          repeat (go_big_quiet_step (first
            | (go_at_call 40; first | exact since_call (Nat.le_refl _) (HT1.out _) | exact since_call (Nat.le_refl _) (HT2.out _))))
          refine wpQuiet_nil ?_
          intro _ hw'
          obtain ⟨⟨w5, hv5⟩, rfl⟩ := hw'
          have HV5 := Lib.hid hv5
          clear hm13 hk0 hk1 hv5 hcat1 hcat2 c13
          go_wp2_with fail
          go_roundw
          case rel => exact ⟨k + 1, Q2, by omega, by go_num, rfl, Lib.hid HNx.out.symm, Lib.hid (HS.out.calm HV5.out)⟩
          case measure => simp [intOf] <;> omega
        · obtain rfl : k = m.pn := by omega
          have hd1 : decide (m.pn < m.pn) = false := by simp
          have hd1' : decide ((m.pn : Int) < (m.pn : Int)) = false := by simp
          have hall : S = msgB m.v := by rw [HSk.out, msgB_parts, List.take_of_length_le (by rw [HPn.out]; omega)]
          have hlen := msgB_room HSm.out m.pn
          rw [← HSk.out] at hlen
          have HLm := Lib.hid hall
          clear hall
          go_wp2_with fail
          refine (rcrc_any ⟨S.toArray⟩ (by show S.length ≤ _; omega) _).mono ?_
          rintro e w8 ⟨rfl, rfl⟩
          go_wp2_with fail
          refine (rfix_any (crc S) 4 _ (by have := crc_lt S; omega) (by omega) (by omega)).mono ?_
          have hfx : rfixE (crc S) 4 = (fixB (crc S) 4, 0) := by
            have h := crc_lt S
            unfold rfixE
            rw [if_pos h]
          rw [hfx]
          rintro e w9 ⟨rfl, hb9⟩
          have HB9 := Lib.hid (HS.out.calm hb9).bel
          obtain ⟨F, hF⟩ : ∃ F, F = fixB (crc S) 4 := ⟨_, rfl⟩
          have HF := Lib.hid hF
          rw [← hF]
          have hcat : ∀ W : World, (Op.stringOp .add ⟨S.toArray⟩ ⟨F.toArray⟩).run Try.prog W = .ok (.string ⟨(putMsgB m.v).toArray⟩) W := fun W => by rw [HF.out, HLm.out]; exact cat_run _ _ W (by have h := fixB_len (crc (msgB m.v)) 4; rw [h, ← HLm.out]; omega)
          clear hF hfx hb9
          go_wp2_with fail
          go_ret
          exact ⟨rfl, by rw [HQ.out]; exact HB9.out⟩
end Go.Proofs.Ytmdidmllaldbaaa
