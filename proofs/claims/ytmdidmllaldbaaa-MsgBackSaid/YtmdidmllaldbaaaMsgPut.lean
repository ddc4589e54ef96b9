/- The walk of msg.Put. -/
import Derived.Test.YtmdidmllaldbaaaMsgM
import Derived.Test.YtmdidmllaldbaaaEntW
import Derived.Test.YtmdidmllaldbaaaCrc
import Derived.Test.YtmdidmllaldbaaaFix
import Derived.Test.YtmdidmllaldbaaaBuild2
import Derived.Deep.RegionHeld3
import Derived.Deep.DeepCutAuto
namespace Go.Proofs.Ytmdidmllaldbaaa
open Go.RowKit
set_option linter.unusedVariables false
theorem nboolM_any (v : Bool) (w : World) : Calls Try.prog 14 #[.bool v] w fun e w' => e = .returned (.string ⟨(boolM v).toArray⟩) ∧ w = w' := by
  cases v with
  | false =>
    go_enter Try.func14, Try.ntmps14
    go_wp2
    go_ret
    exact ⟨rfl, rfl⟩
  | true =>
    go_enter Try.func14, Try.ntmps14
    go_wp2
    go_ret
    exact ⟨rfl, rfl⟩
theorem crc_row {w : World} {g : Nat} {t : TypeId} (s : ByteArray) (h : w.heap[g]? = some (.cells #[.string s] t (0, 0))) (hs : s.size ≤ 9223372036854775807) :
    Calls Try.prog 19 #[.slice (some ⟨g, 0, none⟩) 1 1] w fun e w' => e = .returned (.int .i64 (crc s.data.toList)) ∧ w = w' := by
  refine (crc_any (some ⟨g, 0, none⟩) 1 1 [s] w rfl (by omega) (fun k hk => ⟨⟨g, 0, none⟩, rfl, ?_⟩) (by simpa using hs)).mono ?_
  · obtain rfl : k = 0 := by omega
    rw [add_lit, blk_cell h]
    rfl
  · rintro e w' ⟨rfl, rfl⟩
    refine ⟨?_, rfl⟩
    have h2 := crcAll_flatten [s.data.toList] 4294967295
    have h3 := crcS_lt s.data.toList 4294967295 (by omega)
    simp only [List.flatten_cons, List.flatten_nil, List.append_nil] at h2
    unfold crc
    simp only [List.map_cons, List.map_nil]
    rw [h2, Int.ofNat_sub (by omega)]
    rfl
/-- The bytes of a message, part by part. -/
def mh1 (m : MsgV) : List UInt8 := [109] ++ vars [m.kd, m.frm, m.dst, m.tm, m.ix, m.lt, m.cm, m.rd]
def mh2 (m : MsgV) : List UInt8 := ((boolM m.ok ++ boolM m.dn) ++ putB m.es) ++ memB m.ms
def mh3 (m : MsgV) : List UInt8 := vars [m.off, m.ps.length]
def mhd (m : MsgV) : List UInt8 := (mh1 m ++ mh2 m) ++ mh3 m
theorem msgB_parts (m : MsgV) : msgB m = mhd m ++ pairsB m.ps := by
  unfold msgB msgT mhd mh1 mh2 mh3
  simp [vars]
theorem pairB_len (p : Par) : (pairB p).length ≤ 20 + (p.key.size + p.vl.size) := by
  have h : pairB p = textsB [p.key, p.vl] := by simp [pairB, textsB]
  rw [h]
  have := textsB_len [p.key, p.vl]
  simp at this
  omega
theorem pairsB_len (l : List Par) : (pairsB l).length ≤ 20 * l.length + (l.map (fun p => p.key.size + p.vl.size)).sum := by
  induction l with
  | nil => simp [pairsB]
  | cons p r ih =>
    have h2 : (pairsB (p :: r)).length = (pairB p).length + (pairsB r).length := by simp [pairsB]
    have := pairB_len p
    rw [h2, List.length_cons, List.map_cons, List.sum_cons]
    omega
theorem pairsB_take_succ (l : List Par) (k : Nat) (p : Par) (h : l[k]? = some p) : pairsB (l.take (k + 1)) = pairsB (l.take k) ++ pairB p := by
  have : l.take (k + 1) = l.take k ++ [p] := by rw [List.take_add_one, h]; rfl
  rw [this]
  simp [pairsB]
theorem pairsB_room (l : List Par) (k : Nat) : (pairsB (l.take k)).length ≤ 20 * l.length + (l.map (fun p => p.key.size + p.vl.size)).sum := by
  have h1 := pairsB_len (l.take k)
  have h2 : (l.take k).length ≤ l.length := by rw [List.length_take]; omega
  have h3 : ((l.take k).map (fun p => p.key.size + p.vl.size)).sum ≤ (l.map (fun p => p.key.size + p.vl.size)).sum := by
    have e : (l.map (fun p => p.key.size + p.vl.size)).sum = ((l.take k).map (fun p => p.key.size + p.vl.size)).sum + ((l.drop k).map (fun p => p.key.size + p.vl.size)).sum := by
      rw [← List.sum_append_nat, ← List.map_append, List.take_append_drop]
    omega
  omega
theorem boolM_len (v : Bool) : (boolM v).length = 1 := by cases v <;> rfl
theorem putB_room (l : List Ent) (h1 : l.length ≤ 1000) (h2 : (l.map (·.dt.size)).sum ≤ 10000000) : (putB l).length ≤ 10100000 := by
  have := entsB_len l
  have := var1_len (l.length : Int)
  unfold putB
  rw [List.length_append]
  omega
theorem memB_room (l : List Int) (h1 : l.length ≤ 1000) : (memB l).length ≤ 11000 := by
  have := vars_len l
  have := var1_len (l.length : Int)
  unfold memB
  rw [List.length_append]
  omega
theorem mhd_room {m : MsgV} (h : MsgSm m) : (mh1 m).length ≤ 100 ∧ (mh2 m).length ≤ 10200000 ∧ (mh3 m).length ≤ 100 ∧ (mhd m).length ≤ 10300000 := by
  have a := putB_room m.es h.el h.ed
  have b := memB_room m.ms h.ml
  have c := vars_len [m.kd, m.frm, m.dst, m.tm, m.ix, m.lt, m.cm, m.rd]
  have d := vars_len [m.off, (m.ps.length : Int)]
  have e := boolM_len m.ok
  have f := boolM_len m.dn
  unfold mhd mh1 mh2 mh3
  simp only [List.length_append] at *
  simp at c d ⊢
  omega
theorem msgB_room {m : MsgV} (h : MsgSm m) (k : Nat) : (mhd m ++ pairsB (m.ps.take k)).length ≤ 20400000 := by
  have h1 := (mhd_room h).2.2.2
  have h2 := pairsB_room m.ps k
  have := h.pl
  have := h.pd
  rw [List.length_append]
  omega
/-- The message's block and the builder, along Put. -/
structure PutSt (w : World) (q B : Nat) (m : MsgR) (W : World) (l : List UInt8) : Prop where
  blk : W.heap[q]? = some (.cells #[.int .i64 m.v.kd, .int .i64 m.v.frm, .int .i64 m.v.dst, .int .i64 m.v.tm, .int .i64 m.v.ix, .int .i64 m.v.lt, .int .i64 m.v.cm, .int .i64 m.v.rd, .bool m.v.ok, .bool m.v.dn, .slice m.eo m.en m.ec, .slice m.mo m.mn m.mc, .int .i64 m.v.off, .slice m.po m.pn m.pc] 26 (0, 0))
  bld : Bld W B B l
  bel : Below q w W
  qB : q < B
  wq : w.heap.size = q
theorem PutSt.sz {w : World} {q B : Nat} {m : MsgR} {W : World} {l : List UInt8} (h : PutSt w q B m W l) : B ≤ W.heap.size := Nat.le_of_lt h.bld.lt
theorem PutSt.calm {w : World} {q B : Nat} {m : MsgR} {W W' : World} {l : List UInt8} (h : PutSt w q B m W l) (hb : Below W.heap.size W W') : PutSt w q B m W' l :=
  ⟨(hb.block q (blk_lt h.blk)).trans h.blk, h.bld.below hb, h.bel.trans (hb.mono (by have := h.bel.size; have := h.wq; omega)), h.qB, h.wq⟩
theorem PutSt.write {w : World} {q B : Nat} {m : MsgR} {W : World} {l : List UInt8} (h : PutSt w q B m W l) (s : ByteArray) (hl : l.length + s.size ≤ 140737488355328) :
    Calls Try.prog 12 #[.pointer (some ⟨B, 0, none⟩), .string s] W fun e W' => e = .returned (.tuple #[.int .i64 s.size, .nilIface]) ∧ PutSt w q B m W' (l ++ s.data.toList) := by
  refine (writeString_any h.bld s hl h.sz).mono ?_
  rintro e W' ⟨rfl, h1, h2, _, _⟩
  exact ⟨rfl, ⟨(h2.block q h.qB).trans h.blk, h1, h.bel.trans (h2.mono (by have := h.qB; omega)), h.qB, h.wq⟩⟩
theorem PutSt.facts {w : World} {q B : Nat} {m : MsgR} {W : World} {l : List UInt8} (h : PutSt w q B m W l) :
    (W.cell? ⟨q, 0, none⟩ = some (.int .i64 m.v.kd) ∧ W.cell? ⟨q, 1, none⟩ = some (.int .i64 m.v.frm) ∧ W.cell? ⟨q, 2, none⟩ = some (.int .i64 m.v.dst) ∧ W.cell? ⟨q, 3, none⟩ = some (.int .i64 m.v.tm) ∧ W.cell? ⟨q, 4, none⟩ = some (.int .i64 m.v.ix) ∧ W.cell? ⟨q, 5, none⟩ = some (.int .i64 m.v.lt) ∧ W.cell? ⟨q, 6, none⟩ = some (.int .i64 m.v.cm) ∧ W.cell? ⟨q, 7, none⟩ = some (.int .i64 m.v.rd)) ∧
    (W.cell? ⟨q, 8, none⟩ = some (.bool m.v.ok) ∧ W.cell? ⟨q, 9, none⟩ = some (.bool m.v.dn) ∧ W.cell? ⟨q, 10, none⟩ = some (.slice m.eo m.en m.ec) ∧ W.cell? ⟨q, 11, none⟩ = some (.slice m.mo m.mn m.mc)) ∧
    W.cell? ⟨q, 12, none⟩ = some (.int .i64 m.v.off) ∧ W.cell? ⟨q, 13, none⟩ = some (.slice m.po m.pn m.pc) := by
  refine ⟨⟨?_, ?_, ?_, ?_, ?_, ?_, ?_, ?_⟩, ⟨?_, ?_, ?_, ?_⟩, ?_, ?_⟩ <;> rw [blk_cell h.blk] <;> rfl
set_option maxRecDepth 20000 in
set_option maxHeartbeats 8000000 in
theorem mput_any {m : MsgR} {w : World} (hM : MsgAt w m) (hok : MsgOk m.v) (hs : MsgSm m.v) :
    Calls Try.prog 6 #[m.agg] w fun e w' => e = .returned (.string ⟨(putMsgB m.v).toArray⟩) ∧ Below w.heap.size w w' := by
  obtain ⟨q, hq⟩ : ∃ q, w.heap.size = q := ⟨_, rfl⟩
  have HQ := Lib.hid hq
  have HM : Hid (∀ W, Below q w W → MsgAt W m) := Lib.hid (fun W hb => hM.below (by rw [hq]; exact hb))
  have HOk := Lib.hid hok
  have HSm := Lib.hid hs
  have HS0 : Hid (PutSt w q (q + 1) m ((w.alloc (.cells #[.int .i64 m.v.kd, .int .i64 m.v.frm, .int .i64 m.v.dst, .int .i64 m.v.tm, .int .i64 m.v.ix, .int .i64 m.v.lt, .int .i64 m.v.cm, .int .i64 m.v.rd, .bool m.v.ok, .bool m.v.dn, .slice m.eo m.en m.ec, .slice m.mo m.mn m.mc, .int .i64 m.v.off, .slice m.po m.pn m.pc] 26)).alloc (.cells #[.pointer none, .slice none 0 0] 44)) []) := Lib.hid (by
    have hz : (w.alloc (.cells #[.int .i64 m.v.kd, .int .i64 m.v.frm, .int .i64 m.v.dst, .int .i64 m.v.tm, .int .i64 m.v.ix, .int .i64 m.v.lt, .int .i64 m.v.cm, .int .i64 m.v.rd, .bool m.v.ok, .bool m.v.dn, .slice m.eo m.en m.ec, .slice m.mo m.mn m.mc, .int .i64 m.v.off, .slice m.po m.pn m.pc] 26)).heap.size = q + 1 := by simp [hq]
    have hb := Bld.fresh (w.alloc (.cells #[.int .i64 m.v.kd, .int .i64 m.v.frm, .int .i64 m.v.dst, .int .i64 m.v.tm, .int .i64 m.v.ix, .int .i64 m.v.lt, .int .i64 m.v.cm, .int .i64 m.v.rd, .bool m.v.ok, .bool m.v.dn, .slice m.eo m.en m.ec, .slice m.mo m.mn m.mc, .int .i64 m.v.off, .slice m.po m.pn m.pc] 26)) (q + 1) (by omega)
    rw [hz] at hb
    exact ⟨old_at _ _ _ _ (new_at _ _ _ hq.symm), hb, ((Below.refl _ _).alloc (by omega) _).alloc (by simp; omega) _, by omega, hq⟩)
  have henl : m.v.es.length = m.en := hM.es.1
  have hpnl : m.v.ps.length = m.pn := hM.ps.1
  have hmnl : m.v.ms.length = m.mn := hM.ms.1
  have hpc : m.pn ≤ m.pc := hM.pc.1
  have hpl : m.pn ≤ 1000 := by have := hs.pl; omega
  have hel : m.en ≤ 1000 := by have := hs.el; omega
  have hml : m.mn ≤ 1000 := by have := hs.ml; omega
  have HPn := Lib.hid hpnl
  clear hM hok hs hq henl hmnl hpnl
  unfold MsgR.agg
  go_enter Try.func6, Try.ntmps6
  go_upto_region 2 with fail
  rw [HQ.out]
  generalize ((w.alloc (.cells #[.int .i64 m.v.kd, .int .i64 m.v.frm, .int .i64 m.v.dst, .int .i64 m.v.tm, .int .i64 m.v.ix, .int .i64 m.v.lt, .int .i64 m.v.cm, .int .i64 m.v.rd, .bool m.v.ok, .bool m.v.dn, .slice m.eo m.en m.ec, .slice m.mo m.mn m.mc, .int .i64 m.v.off, .slice m.po m.pn m.pc] 26)).alloc (.cells #[.pointer none, .slice none 0 0] 44)) = W1 at HS0 ⊢
  generalize q + 1 = B at HS0 ⊢
  obtain ⟨⟨c0, c1, c2, c3, c4, c5, c6, c7⟩, -, -⟩ := HS0.out.facts
  obtain ⟨i1, i2, i3, i4, i5, i6, i7, i8, i9, -⟩ := HOk.out
  have hcat : ∀ W : World, (Op.stringOp .add ⟨#[109]⟩ ⟨(vars [m.v.kd, m.v.frm, m.v.dst, m.v.tm, m.v.ix, m.v.lt, m.v.cm, m.v.rd]).toArray⟩).run Try.prog W = .ok (.string ⟨(mh1 m.v).toArray⟩) W := fun W => cat_run [109] _ W (by have h := (mhd_room HSm.out).1; unfold mh1 at h; rw [List.length_append] at h; omega)
  go_wp2_with fail
  refine (var_row [m.v.kd, m.v.frm, m.v.dst, m.v.tm, m.v.ix, m.v.lt, m.v.cm, m.v.rd] 8 (new_at _ _ _ rfl) rfl rfl (by omega) (by
    intro v hv
    simp only [List.mem_cons, List.not_mem_nil, or_false] at hv
    rcases hv with rfl | rfl | rfl | rfl | rfl | rfl | rfl | rfl
    · exact i1
    · exact i2
    · exact i3
    · exact i4
    · exact i5
    · exact i6
    · exact i7
    · exact i8)).mono ?_
  rintro e w2 ⟨rfl, hb2⟩
  have HS2 := Lib.hid (HS0.out.calm (((Below.refl _ W1).alloc (Nat.le_refl _) _).trans (hb2.mono (by simp))))
  clear hb2 c0 c1 c2 c3 c4 c5 c6 c7 i1 i2 i3 i4 i5 i6 i7 i8 HS0
  go_wp2_with fail
  refine (HS2.out.write ⟨(mh1 m.v).toArray⟩ (by have h := (mhd_room HSm.out).1; show 0 + (mh1 m.v).length ≤ _; omega)).mono ?_
  rintro e w3 ⟨rfl, h3⟩
  rw [bytes_mk, List.nil_append] at h3
  have HS3 := Lib.hid h3
  clear h3 HS2 hcat
  go_upto_region 3 with fail
  go_cut [] (fun W => Hid (PutSt w q B m W (mh1 m.v ++ mh2 m.v)))
  case first =>
    obtain ⟨b1, e1⟩ : ∃ b1, b1 = boolM m.v.ok := ⟨_, rfl⟩
    obtain ⟨b2, e2⟩ : ∃ b2, b2 = boolM m.v.dn := ⟨_, rfl⟩
    obtain ⟨b3, e3⟩ : ∃ b3, b3 = boolM m.v.ok ++ boolM m.v.dn := ⟨_, rfl⟩
    obtain ⟨b4, e4⟩ : ∃ b4, b4 = putB m.v.es := ⟨_, rfl⟩
    obtain ⟨b5, e5⟩ : ∃ b5, b5 = (boolM m.v.ok ++ boolM m.v.dn) ++ putB m.v.es := ⟨_, rfl⟩
    obtain ⟨b6, e6⟩ : ∃ b6, b6 = memB m.v.ms := ⟨_, rfl⟩
    obtain ⟨b7, e7⟩ : ∃ b7, b7 = mh2 m.v := ⟨_, rfl⟩
    have hcat1 : ∀ W : World, (Op.stringOp .add ⟨b1.toArray⟩ ⟨b2.toArray⟩).run Try.prog W = .ok (.string ⟨b3.toArray⟩) W := fun W => by rw [e1, e2, e3]; exact cat_run _ _ W (by rw [boolM_len, boolM_len]; omega)
    have hcat2 : ∀ W : World, (Op.stringOp .add ⟨b3.toArray⟩ ⟨b4.toArray⟩).run Try.prog W = .ok (.string ⟨b5.toArray⟩) W := fun W => by rw [e3, e4, e5]; exact cat_run _ _ W (by have := putB_room _ HSm.out.el HSm.out.ed; rw [List.length_append, boolM_len, boolM_len]; omega)
    have hcat3 : ∀ W : World, (Op.stringOp .add ⟨b5.toArray⟩ ⟨b6.toArray⟩).run Try.prog W = .ok (.string ⟨b7.toArray⟩) W := fun W => by rw [e5, e6, e7]; exact cat_run _ _ W (by have h := (mhd_room HSm.out).2.1; unfold mh2 at h; rw [List.length_append] at h; omega)
    have E1 := Lib.hid e1
    have E2 := Lib.hid e2
    have E4 := Lib.hid e4
    have E6 := Lib.hid e6
    have E7 := Lib.hid e7
    clear e1 e2 e3 e4 e5 e6 e7
    have hr3 : Below w3.heap.size w3 w3 := Below.refl _ _
    have HC : Hid (∀ W, Below w3.heap.size w3 W → W.cell? ⟨q, 8, none⟩ = some (.bool m.v.ok) ∧ W.cell? ⟨q, 9, none⟩ = some (.bool m.v.dn) ∧ W.cell? ⟨q, 10, none⟩ = some (.slice m.eo m.en m.ec) ∧ W.cell? ⟨q, 11, none⟩ = some (.slice m.mo m.mn m.mc)) := Lib.hid (fun W hb => (HS3.out.calm hb).facts.2.1)
    have HB1 : Hid (∀ W, Calls Try.prog 14 #[.bool m.v.ok] W fun e w' => e = .returned (.string ⟨b1.toArray⟩) ∧ W = w') := Lib.hid (fun W => by rw [E1.out]; exact nboolM_any _ W)
    have HB2 : Hid (∀ W, Calls Try.prog 14 #[.bool m.v.dn] W fun e w' => e = .returned (.string ⟨b2.toArray⟩) ∧ W = w') := Lib.hid (fun W => by rw [E2.out]; exact nboolM_any _ W)
    have HPu : Hid (∀ W, Below w3.heap.size w3 W → Calls Try.prog 15 #[.slice m.eo m.en m.ec] W fun e w' => e = .returned (.string ⟨b4.toArray⟩) ∧ Below W.heap.size W w') := Lib.hid (fun W hb => by rw [E4.out]; exact put_any (HM.out W (HS3.out.calm hb).bel).es HOk.out.2.2.2.2.2.2.2.2.2.1.1 (by omega) (by have := HSm.out.ed; omega))
    have HPm : Hid (∀ W, Below w3.heap.size w3 W → Calls Try.prog 16 #[.slice m.mo m.mn m.mc] W fun e w' => e = .returned (.string ⟨b6.toArray⟩) ∧ Below W.heap.size W w') := Lib.hid (fun W hb => by rw [E6.out]; exact putMembers_any (HM.out W (HS3.out.calm hb).bel).ms (by omega))
    have HWr : Hid (∀ W, Below w3.heap.size w3 W → Calls Try.prog 12 #[.pointer (some ⟨B, 0, none⟩), .string ⟨b7.toArray⟩] W fun e W' => e = .returned (.tuple #[.int .i64 (ByteArray.mk b7.toArray).size, .nilIface]) ∧ PutSt w q B m W' (mh1 m.v ++ mh2 m.v)) := Lib.hid (fun W hb => by rw [E7.out]; exact (HS3.out.calm hb).write ⟨(mh2 m.v).toArray⟩ (by have h := (mhd_room HSm.out).1; have h2 := (mhd_room HSm.out).2.1; show _ + (mh2 m.v).length ≤ _; omega))
    go_region_held3 (fun W => W.cell? ⟨q, 8, none⟩ = some (.bool m.v.ok) ∧ W.cell? ⟨q, 9, none⟩ = some (.bool m.v.dn) ∧ W.cell? ⟨q, 10, none⟩ = some (.slice m.eo m.en m.ec) ∧ W.cell? ⟨q, 11, none⟩ = some (.slice m.mo m.mn m.mc))
      ((first | exact HS9.out.facts.2.1 | (refine HC.out _ ?_; (repeat (with_reducible (first | assumption | refine Below.drew ?_))))))
      (first
        | (go_at_call 14; ((first | refine (HB1.out _).mono ?_ | refine (HB2.out _).mono ?_); rintro e6 w6 ⟨rfl, rfl⟩))
        | (go_at_call 15; ((refine (HPu.out _ (by repeat (with_reducible (first | assumption | refine Below.drew ?_)))).mono ?_); rintro e7 w7 ⟨rfl, hb7⟩; have hv7 : Below w3.heap.size w3 w7 := (by refine Below.trans (b := _) ?_ hb7; (repeat (with_reducible (first | assumption | refine Below.drew ?_)))); clear hb7))
        | (go_at_call 16; ((refine (HPm.out _ (by repeat (with_reducible (first | assumption | refine Below.drew ?_)))).mono ?_); rintro e8 w8 ⟨rfl, hb8⟩; have hv8 : Below w3.heap.size w3 w8 := (by refine Below.trans (b := _) ?_ (hb8.mono ?_); (repeat (with_reducible (first | assumption | refine Below.drew ?_))); exact hv7.size); clear hb8))
        | (go_at_call 12; ((refine (HWr.out _ (by repeat (with_reducible (first | assumption | refine Below.drew ?_)))).mono ?_); rintro e9 w9 ⟨rfl, hp9⟩; have HS9 := Lib.hid hp9; clear hp9)))
    all_goals (
      clear hcat1 hcat2 hcat3
      go_wp2_with fail
      go_meet
      exact Lib.hid (HS9.out.calm (by repeat (with_reducible (first | exact Below.refl _ _ | refine Below.drew ?_)))))
  case rest =>
    rename World => w4
    have HS4 := hcut
    obtain ⟨-, -, c12, c13⟩ := HS4.out.facts
    clear hcut HS3
    go_wp2_with fail
    refine (var_row [m.v.off, (m.pn : Int)] 2 (new_at _ _ _ rfl) rfl rfl (by omega) (by
      intro v hv
      simp only [List.mem_cons, List.not_mem_nil, or_false] at hv
      rcases hv with rfl | rfl
      · exact i9
      · omega)).mono ?_
    rintro e w5 ⟨rfl, hb5⟩
    have HS5 := Lib.hid (HS4.out.calm (((Below.refl _ w4).alloc (Nat.le_refl _) _).trans (hb5.mono (by simp))))
    clear hb5 c12 c13 HS4 i9
    go_wp2_with fail
    refine (HS5.out.write ⟨(vars [m.v.off, (m.pn : Int)]).toArray⟩ (by have h := mhd_room HSm.out; have h2 := vars_len [m.v.off, (m.pn : Int)]; rw [List.length_append]; show _ + (vars [m.v.off, (m.pn : Int)]).length ≤ _; simp at h2; omega)).mono ?_
    rintro e w6 ⟨rfl, h6⟩
    have HS6 : Hid (PutSt w q B m w6 (mhd m.v ++ pairsB (m.v.ps.take 0))) := Lib.hid (by
      rw [bytes_mk] at h6
      have e : mhd m.v ++ pairsB (m.v.ps.take 0) = mh1 m.v ++ mh2 m.v ++ vars [m.v.off, (m.pn : Int)] := by unfold mhd mh3; rw [HPn.out]; simp [pairsB]
      rw [e]; exact h6)
    obtain ⟨-, -, -, c13⟩ := HS6.out.facts
    clear h6 HS5
    go_wp2_with fail
    go_loopw [55] (fun i wr => ∃ k : Nat, k ≤ m.pn ∧ i = .int .i64 k ∧ Hid (PutSt w q B m wr (mhd m.v ++ pairsB (m.v.ps.take k)))) (fun i _ => m.pn - (intOf i).toNat)
    case atStart => exact ⟨0, Nat.zero_le _, rfl, HS6⟩
    case round =>
      obtain ⟨k, hk, rfl, HS⟩ := hrel
      by_cases hlt : k < m.pn
      · have hd1 : decide (k < m.pn) = true := by simpa using hlt
        have hd1' : decide ((k : Int) < (m.pn : Int)) = true := by simp; omega
        obtain ⟨gp, o, p, hpo, hgB, hpk, p0, p1⟩ := (HM.out wr HS.out.bel).ps.get hlt
        have HPo := Lib.hid hpo
        rw [hpo]
        have hx1 : (0 : Int) ≤ k := by omega
        have hx2 : (k : Int) < m.pn := by omega
        have hx3 : (m.pn : Int) ≤ m.pc := by omega
        have hpok := HOk.out.2.2.2.2.2.2.2.2.2.2.2.1 p (List.mem_of_getElem? hpk)
        have hlen : (mhd m.v ++ pairsB (m.v.ps.take k)).length + (textsB [p.key, p.vl]).length ≤ 140737488355328 := by
          have h1 := msgB_room HSm.out (k + 1)
          rw [pairsB_take_succ _ _ _ hpk, ← List.append_assoc, List.length_append] at h1
          have e : textsB [p.key, p.vl] = pairB p := by simp [textsB, pairB]
          rw [e]; omega
        have hsum : p.key.size + p.vl.size ≤ 17592186044416 := by
          have := le_sum (m.v.ps.map (fun p => p.key.size + p.vl.size)) (p.key.size + p.vl.size) (List.mem_map.2 ⟨p, List.mem_of_getElem? hpk, rfl⟩)
          have := HSm.out.pd
          omega
        have HPk := Lib.hid hpk
        have HLen := Lib.hid hlen
        clear hpo hpk hlen hpok
        go_wp2_with fail
        refine (text_row [p.key, p.vl] 2 (new_at _ _ _ (by simp)) rfl rfl (by omega) (by simp; omega)).mono ?_
        rintro e w7 ⟨rfl, hb7⟩
        have HS7 := Lib.hid (HS.out.calm ((((Below.refl _ wr).alloc (Nat.le_refl _) _).alloc (by simp) _).trans (hb7.mono (by simp; omega))))
        clear hb7 p0 p1
        go_wp2_with fail
        refine (HS7.out.write ⟨(textsB [p.key, p.vl]).toArray⟩ HLen.out).mono ?_
        rintro e w8 ⟨rfl, h8⟩
        have HS8 : Hid (PutSt w q B m w8 (mhd m.v ++ pairsB (m.v.ps.take (k + 1)))) := Lib.hid (by
          rw [bytes_mk] at h8
          rw [pairsB_take_succ _ _ _ HPk.out, ← List.append_assoc]
          have e : textsB [p.key, p.vl] = pairB p := by simp [textsB, pairB]
          rw [e] at h8
          exact h8)
        clear h8 HS7 HS
        go_wp2_with fail
        go_roundw
        case rel => exact ⟨k + 1, by omega, by go_num, HS8⟩
        case measure => simp [intOf] <;> omega
      · obtain rfl : k = m.pn := by omega
        have hd1 : decide (m.pn < m.pn) = false := by simp
        have hd1' : decide ((m.pn : Int) < (m.pn : Int)) = false := by simp
        have hall : mhd m.v ++ pairsB (m.v.ps.take m.pn) = msgB m.v := by rw [msgB_parts, List.take_of_length_le (by rw [HPn.out]; omega)]
        have h := HS.out
        rw [hall] at h
        have hlen := msgB_room HSm.out m.pn
        rw [hall] at hlen
        have hne : msgB m.v ≠ [] := by unfold msgB; simp
        obtain ⟨g, cap, hst, hBg⟩ := StrAt.ofBld h.bld hne
        obtain ⟨L, hL⟩ : ∃ L, L = msgB m.v := ⟨_, rfl⟩
        rw [← hL] at hst hlen hne
        have HLm := Lib.hid hL
        have HSt := Lib.hid hst
        have HBel := Lib.hid h.bel
        have hqg : q ≤ g := by have := h.qB; omega
        have HNe := Lib.hid hne
        clear h hst hne hall hL
        go_wp2_with fail
        refine (string_again (B := q) HSt.out HNe.out hqg (by omega)).mono ?_
        rintro e w7 ⟨rfl, hb7, hst7⟩
        have HB7 := Lib.hid (HBel.out.trans hb7)
        have HSt7 := Lib.hid hst7
        have hq7 : q ≤ w7.heap.size := by have := HB7.out.size; have := HQ.out; omega
        clear hb7 hst7 HSt HBel
        go_wp2_with fail
        refine (crc_row ⟨L.toArray⟩ (new_at _ _ _ rfl) (by show L.length ≤ _; omega)).mono ?_
        rintro e w8 ⟨rfl, rfl⟩
        have HB8 := Lib.hid (HB7.out.alloc hq7 (.cells #[.string ⟨L.toArray⟩] 9))
        have HSt8 := Lib.hid (HSt7.out.below ((Below.refl _ w7).alloc (Nat.le_refl _) (.cells #[.string ⟨L.toArray⟩] 9)))
        go_wp2_with fail
        refine (fix_good (crc L) 4 _ (by omega) (by omega) (crc_lt _)).mono ?_
        rintro e w9 ⟨rfl, hb9⟩
        have HB9 := Lib.hid (HB8.out.trans (hb9.mono (by simp; omega)))
        have HSt9 := Lib.hid (HSt8.out.below hb9)
        clear hb9
        go_wp2_with fail
        refine (string_again (B := q) HSt9.out HNe.out hqg (by omega)).mono ?_
        rintro e w10 ⟨rfl, hb10, -⟩
        obtain ⟨F, hF⟩ : ∃ F, F = fixB (crc L) 4 := ⟨_, rfl⟩
        have HF := Lib.hid hF
        rw [← hF]
        have hcat : ∀ W : World, (Op.stringOp .add ⟨L.toArray⟩ ⟨F.toArray⟩).run Try.prog W = .ok (.string ⟨(putMsgB m.v).toArray⟩) W := fun W => by rw [HF.out, HLm.out]; exact cat_run _ _ W (by have h := fixB_len (crc (msgB m.v)) 4; rw [h, ← HLm.out]; omega)
        clear hF
        go_wp2_with fail
        go_ret
        exact ⟨rfl, by rw [HQ.out]; exact HB9.out.trans hb10⟩
end Go.Proofs.Ytmdidmllaldbaaa
