/- The walks of msg.Valid, of the document's SameMsg, of arboretumlaw20.SmallMsg. -/
import Derived.Test.YtmdidmllaldbaaaMsgGet
import Derived.Test.YtmdidmllaldbaaaRefMsgP
import Derived.Test.YtmdidmllaldbaaaSmallE
import Derived.Deep.RegionHeld3
import Derived.Deep.QuietTactic
import Derived.BigQuiet
namespace Go.Proofs.Ytmdidmllaldbaaa
open Go.RowKit
set_option linter.unusedVariables false
set_option linter.unusedSimpArgs false
theorem putMsg_small {m : MsgV} (h : MsgSm m) : (putMsgB m).length ≤ 20400010 := by
  have h1 := msgB_room h m.ps.length
  rw [List.take_length, ← msgB_parts] at h1
  have := (putMsgB_parts m).1
  omega
set_option maxRecDepth 20000 in
set_option maxHeartbeats 4000000 in
theorem mvalid_any {m : MsgR} {w : World} (hM : MsgAt w m) (hok : MsgOk m.v) (hs : MsgSm m.v) :
    Calls Try.prog 8 #[m.agg] w fun e w' => e = .returned (.bool ((getMsgV (putMsgB m.v)).2 == 0)) ∧ Below w.heap.size w w' := by
  have hb0 : Below w.heap.size w (w.alloc (.cells #[.int .i64 m.v.kd, .int .i64 m.v.frm, .int .i64 m.v.dst, .int .i64 m.v.tm, .int .i64 m.v.ix, .int .i64 m.v.lt, .int .i64 m.v.cm, .int .i64 m.v.rd, .bool m.v.ok, .bool m.v.dn, .slice m.eo m.en m.ec, .slice m.mo m.mn m.mc, .int .i64 m.v.off, .slice m.po m.pn m.pc] 26)) := (Below.refl _ _).alloc (Nat.le_refl _) _
  have HP := Lib.hid (mput_any (hM.below hb0) hok hs)
  have HB0 := Lib.hid hb0
  have hsz := putMsg_small hs
  have HG := Lib.hid (fun W => mget_any ⟨(putMsgB m.v).toArray⟩ W (by show (putMsgB m.v).length ≤ _; omega))
  obtain ⟨g, hg⟩ : ∃ g, g = (getMsgV (putMsgB m.v)).2 := ⟨_, rfl⟩
  rw [bytes_mk, ← hg] at HG
  rw [← hg]
  clear hb0 hsz hg hM hok hs
  unfold MsgR.agg at HP ⊢
  go_enter Try.func8, Try.ntmps8
  go_wp2_with fail
  refine HP.out.mono ?_
  rintro e w1 ⟨rfl, hb1⟩
  go_wp2_with fail
  refine (HG.out _).mono ?_
  rintro e w2 ⟨m2, rfl, -, -, hb2⟩
  have HB2 := Lib.hid ((HB0.out.trans (hb1.mono (by simp))).trans (hb2.mono (Nat.le_trans HB0.out.size hb1.size)))
  clear hb1 hb2
  unfold MsgR.agg
  go_wp2_with fail
  go_ret
  exact ⟨rfl, HB2.out.alloc HB2.out.size _⟩
set_option maxRecDepth 20000 in
set_option maxHeartbeats 4000000 in
theorem rsameMsg_yes {a b : MsgR} {w : World} (ha : MsgAt w a) (hb : MsgAt w b) (hv : a.v = b.v) (hok : MsgOk a.v) (hs : MsgSm a.v) :
    Calls Try.prog 9 #[a.agg, b.agg] w fun e w' => e = .returned (.bool true) ∧ Below w.heap.size w w' := by
  obtain ⟨q, hq⟩ : ∃ q, w.heap.size = q := ⟨_, rfl⟩
  have HQ := Lib.hid hq
  have HA : Hid (∀ W, Below q w W → Calls Try.prog 26 #[a.agg] W fun e w' => e = .returned (.string ⟨(putMsgB a.v).toArray⟩) ∧ Below W.heap.size W w') := Lib.hid (fun W h => rputMsg_any (ha.below (by rw [hq]; exact h)) hok hs)
  have HB : Hid (∀ W, Below q w W → Calls Try.prog 26 #[b.agg] W fun e w' => e = .returned (.string ⟨(putMsgB a.v).toArray⟩) ∧ Below W.heap.size W w') := Lib.hid (fun W h => by rw [hv]; exact rputMsg_any (hb.below (by rw [hq]; exact h)) (by rw [← hv]; exact hok) (by rw [← hv]; exact hs))
  obtain ⟨S, hS⟩ : ∃ S, S = putMsgB a.v := ⟨_, rfl⟩
  rw [← hS] at HA HB
  clear ha hb hv hok hs hS hq
  have HW : Hid (Below q w ((w.alloc (.cells #[.int .i64 a.v.kd, .int .i64 a.v.frm, .int .i64 a.v.dst, .int .i64 a.v.tm, .int .i64 a.v.ix, .int .i64 a.v.lt, .int .i64 a.v.cm, .int .i64 a.v.rd, .bool a.v.ok, .bool a.v.dn, .slice a.eo a.en a.ec, .slice a.mo a.mn a.mc, .int .i64 a.v.off, .slice a.po a.pn a.pc] 26)).alloc (.cells #[.int .i64 b.v.kd, .int .i64 b.v.frm, .int .i64 b.v.dst, .int .i64 b.v.tm, .int .i64 b.v.ix, .int .i64 b.v.lt, .int .i64 b.v.cm, .int .i64 b.v.rd, .bool b.v.ok, .bool b.v.dn, .slice b.eo b.en b.ec, .slice b.mo b.mn b.mc, .int .i64 b.v.off, .slice b.po b.pn b.pc] 26))) := Lib.hid (((Below.refl _ _).alloc (by rw [HQ.out]; omega) _).alloc (by simp; have := HQ.out; omega) _)
  have HK1 : Hid (((w.alloc (.cells #[.int .i64 a.v.kd, .int .i64 a.v.frm, .int .i64 a.v.dst, .int .i64 a.v.tm, .int .i64 a.v.ix, .int .i64 a.v.lt, .int .i64 a.v.cm, .int .i64 a.v.rd, .bool a.v.ok, .bool a.v.dn, .slice a.eo a.en a.ec, .slice a.mo a.mn a.mc, .int .i64 a.v.off, .slice a.po a.pn a.pc] 26)).alloc (.cells #[.int .i64 b.v.kd, .int .i64 b.v.frm, .int .i64 b.v.dst, .int .i64 b.v.tm, .int .i64 b.v.ix, .int .i64 b.v.lt, .int .i64 b.v.cm, .int .i64 b.v.rd, .bool b.v.ok, .bool b.v.dn, .slice b.eo b.en b.ec, .slice b.mo b.mn b.mc, .int .i64 b.v.off, .slice b.po b.pn b.pc] 26)).heap[q]? = some (.cells #[.int .i64 a.v.kd, .int .i64 a.v.frm, .int .i64 a.v.dst, .int .i64 a.v.tm, .int .i64 a.v.ix, .int .i64 a.v.lt, .int .i64 a.v.cm, .int .i64 a.v.rd, .bool a.v.ok, .bool a.v.dn, .slice a.eo a.en a.ec, .slice a.mo a.mn a.mc, .int .i64 a.v.off, .slice a.po a.pn a.pc] 26 (0, 0))) := Lib.hid (old_at _ _ _ _ (new_at _ _ _ HQ.out.symm))
  have HK2 : Hid (((w.alloc (.cells #[.int .i64 a.v.kd, .int .i64 a.v.frm, .int .i64 a.v.dst, .int .i64 a.v.tm, .int .i64 a.v.ix, .int .i64 a.v.lt, .int .i64 a.v.cm, .int .i64 a.v.rd, .bool a.v.ok, .bool a.v.dn, .slice a.eo a.en a.ec, .slice a.mo a.mn a.mc, .int .i64 a.v.off, .slice a.po a.pn a.pc] 26)).alloc (.cells #[.int .i64 b.v.kd, .int .i64 b.v.frm, .int .i64 b.v.dst, .int .i64 b.v.tm, .int .i64 b.v.ix, .int .i64 b.v.lt, .int .i64 b.v.cm, .int .i64 b.v.rd, .bool b.v.ok, .bool b.v.dn, .slice b.eo b.en b.ec, .slice b.mo b.mn b.mc, .int .i64 b.v.off, .slice b.po b.pn b.pc] 26)).heap[q + 1]? = some (.cells #[.int .i64 b.v.kd, .int .i64 b.v.frm, .int .i64 b.v.dst, .int .i64 b.v.tm, .int .i64 b.v.ix, .int .i64 b.v.lt, .int .i64 b.v.cm, .int .i64 b.v.rd, .bool b.v.ok, .bool b.v.dn, .slice b.eo b.en b.ec, .slice b.mo b.mn b.mc, .int .i64 b.v.off, .slice b.po b.pn b.pc] 26 (0, 0))) := Lib.hid (new_at _ _ _ (by simp [HQ.out]))
  unfold MsgR.agg at HA HB ⊢
  go_enter Try.func9, Try.ntmps9
  go_upto_region 1 with fail
  rw [HQ.out]
  generalize ((w.alloc (.cells #[.int .i64 a.v.kd, .int .i64 a.v.frm, .int .i64 a.v.dst, .int .i64 a.v.tm, .int .i64 a.v.ix, .int .i64 a.v.lt, .int .i64 a.v.cm, .int .i64 a.v.rd, .bool a.v.ok, .bool a.v.dn, .slice a.eo a.en a.ec, .slice a.mo a.mn a.mc, .int .i64 a.v.off, .slice a.po a.pn a.pc] 26)).alloc (.cells #[.int .i64 b.v.kd, .int .i64 b.v.frm, .int .i64 b.v.dst, .int .i64 b.v.tm, .int .i64 b.v.ix, .int .i64 b.v.lt, .int .i64 b.v.cm, .int .i64 b.v.rd, .bool b.v.ok, .bool b.v.dn, .slice b.eo b.en b.ec, .slice b.mo b.mn b.mc, .int .i64 b.v.off, .slice b.po b.pn b.pc] 26)) = w1 at HW HK1 HK2 ⊢
  generalize q + 1 = r at HK2 ⊢
  have hA := fun (p : SinceW w1.heap.size w1) => msgCells ((p.h.block _ (blk_lt HK1.out)).trans HK1.out)
  have hB := fun (p : SinceW w1.heap.size w1) => msgCells ((p.h.block _ (blk_lt HK2.out)).trans HK2.out)
  have hqw : q ≤ w1.heap.size := by have := blk_lt HK1.out; omega
  have HA1 : Hid (∀ p : SinceW w1.heap.size w1, Below q w p.w) := Lib.hid (fun p => HW.out.trans (p.h.mono hqw))
  have fa0 : ∀ p : SinceW w1.heap.size w1, p.w.cell? ⟨q, 0, none⟩ = some (.int .i64 a.v.kd) := fun p => (hA p).1
  have fa1 : ∀ p : SinceW w1.heap.size w1, p.w.cell? ⟨q, 1, none⟩ = some (.int .i64 a.v.frm) := fun p => (hA p).2.1
  have fa2 : ∀ p : SinceW w1.heap.size w1, p.w.cell? ⟨q, 2, none⟩ = some (.int .i64 a.v.dst) := fun p => (hA p).2.2.1
  have fa3 : ∀ p : SinceW w1.heap.size w1, p.w.cell? ⟨q, 3, none⟩ = some (.int .i64 a.v.tm) := fun p => (hA p).2.2.2.1
  have fa4 : ∀ p : SinceW w1.heap.size w1, p.w.cell? ⟨q, 4, none⟩ = some (.int .i64 a.v.ix) := fun p => (hA p).2.2.2.2.1
  have fa5 : ∀ p : SinceW w1.heap.size w1, p.w.cell? ⟨q, 5, none⟩ = some (.int .i64 a.v.lt) := fun p => (hA p).2.2.2.2.2.1
  have fa6 : ∀ p : SinceW w1.heap.size w1, p.w.cell? ⟨q, 6, none⟩ = some (.int .i64 a.v.cm) := fun p => (hA p).2.2.2.2.2.2.1
  have fa7 : ∀ p : SinceW w1.heap.size w1, p.w.cell? ⟨q, 7, none⟩ = some (.int .i64 a.v.rd) := fun p => (hA p).2.2.2.2.2.2.2.1
  have fa8 : ∀ p : SinceW w1.heap.size w1, p.w.cell? ⟨q, 8, none⟩ = some (.bool a.v.ok) := fun p => (hA p).2.2.2.2.2.2.2.2.1
  have fa9 : ∀ p : SinceW w1.heap.size w1, p.w.cell? ⟨q, 9, none⟩ = some (.bool a.v.dn) := fun p => (hA p).2.2.2.2.2.2.2.2.2.1
  have fa10 : ∀ p : SinceW w1.heap.size w1, p.w.cell? ⟨q, 10, none⟩ = some (.slice a.eo a.en a.ec) := fun p => (hA p).2.2.2.2.2.2.2.2.2.2.1
  have fa11 : ∀ p : SinceW w1.heap.size w1, p.w.cell? ⟨q, 11, none⟩ = some (.slice a.mo a.mn a.mc) := fun p => (hA p).2.2.2.2.2.2.2.2.2.2.2.1
  have fa12 : ∀ p : SinceW w1.heap.size w1, p.w.cell? ⟨q, 12, none⟩ = some (.int .i64 a.v.off) := fun p => (hA p).2.2.2.2.2.2.2.2.2.2.2.2.1
  have fa13 : ∀ p : SinceW w1.heap.size w1, p.w.cell? ⟨q, 13, none⟩ = some (.slice a.po a.pn a.pc) := fun p => (hA p).2.2.2.2.2.2.2.2.2.2.2.2.2
  have fb0 : ∀ p : SinceW w1.heap.size w1, p.w.cell? ⟨r, 0, none⟩ = some (.int .i64 b.v.kd) := fun p => (hB p).1
  have fb1 : ∀ p : SinceW w1.heap.size w1, p.w.cell? ⟨r, 1, none⟩ = some (.int .i64 b.v.frm) := fun p => (hB p).2.1
  have fb2 : ∀ p : SinceW w1.heap.size w1, p.w.cell? ⟨r, 2, none⟩ = some (.int .i64 b.v.dst) := fun p => (hB p).2.2.1
  have fb3 : ∀ p : SinceW w1.heap.size w1, p.w.cell? ⟨r, 3, none⟩ = some (.int .i64 b.v.tm) := fun p => (hB p).2.2.2.1
  have fb4 : ∀ p : SinceW w1.heap.size w1, p.w.cell? ⟨r, 4, none⟩ = some (.int .i64 b.v.ix) := fun p => (hB p).2.2.2.2.1
  have fb5 : ∀ p : SinceW w1.heap.size w1, p.w.cell? ⟨r, 5, none⟩ = some (.int .i64 b.v.lt) := fun p => (hB p).2.2.2.2.2.1
  have fb6 : ∀ p : SinceW w1.heap.size w1, p.w.cell? ⟨r, 6, none⟩ = some (.int .i64 b.v.cm) := fun p => (hB p).2.2.2.2.2.2.1
  have fb7 : ∀ p : SinceW w1.heap.size w1, p.w.cell? ⟨r, 7, none⟩ = some (.int .i64 b.v.rd) := fun p => (hB p).2.2.2.2.2.2.2.1
  have fb8 : ∀ p : SinceW w1.heap.size w1, p.w.cell? ⟨r, 8, none⟩ = some (.bool b.v.ok) := fun p => (hB p).2.2.2.2.2.2.2.2.1
  have fb9 : ∀ p : SinceW w1.heap.size w1, p.w.cell? ⟨r, 9, none⟩ = some (.bool b.v.dn) := fun p => (hB p).2.2.2.2.2.2.2.2.2.1
  have fb10 : ∀ p : SinceW w1.heap.size w1, p.w.cell? ⟨r, 10, none⟩ = some (.slice b.eo b.en b.ec) := fun p => (hB p).2.2.2.2.2.2.2.2.2.2.1
  have fb11 : ∀ p : SinceW w1.heap.size w1, p.w.cell? ⟨r, 11, none⟩ = some (.slice b.mo b.mn b.mc) := fun p => (hB p).2.2.2.2.2.2.2.2.2.2.2.1
  have fb12 : ∀ p : SinceW w1.heap.size w1, p.w.cell? ⟨r, 12, none⟩ = some (.int .i64 b.v.off) := fun p => (hB p).2.2.2.2.2.2.2.2.2.2.2.2.1
  have fb13 : ∀ p : SinceW w1.heap.size w1, p.w.cell? ⟨r, 13, none⟩ = some (.slice b.po b.pn b.pc) := fun p => (hB p).2.2.2.2.2.2.2.2.2.2.2.2.2
  clear hA hB
  refine wp_region_since (B := w1.heap.size) (W0 := w1) (by kernel_rfl) (by kernel_rfl) (Below.refl _ _) ?_
  iterate 2 (go_big_quiet_step (first | (go_at_call 26; exact since_call (Nat.le_refl _) (HA.out _ (HA1.out _)))))
  repeat (go_big_quiet_step (first | (go_at_call 26; exact since_call (Nat.le_refl _) (HB.out _ (HA1.out _)))))
  refine wpQuiet_nil ?_
  intro _ hw'
  obtain ⟨⟨w5, hv5⟩, rfl⟩ := hw'
  have HB5 := Lib.hid (HW.out.trans (hv5.mono hqw))
  clear fa0 fb0 fa1 fb1 fa2 fb2 fa3 fb3 fa4 fb4 fa5 fb5 fa6 fb6 fa7 fb7 fa8 fb8 fa9 fb9 fa10 fb10 fa11 fb11 fa12 fb12 fa13 fb13 hv5
  go_wp2_with fail
  go_ret
  exact ⟨rfl, by rw [HQ.out]; exact HB5.out⟩
def parSum (l : List Par) : Nat := (l.map (fun p => p.key.size + p.vl.size)).sum
/-- What SmallMsg tells. -/
def SmallM (m : MsgR) : Prop := m.en ≤ 40 ∧ dataSum m.v.es ≤ 12000 ∧ m.mn ≤ 40 ∧ m.pn ≤ 60 ∧ parSum m.v.ps ≤ 20000
def SmallMRes (m : MsgR) (w : World) (e : Ending) (w' : World) : Prop := ∃ r : Bool, e = .returned (.bool r) ∧ (r = true → SmallM m) ∧ Below w.heap.size w w'
theorem SmallM.sm {w : World} {m : MsgR} (h : SmallM m) (hi : MsgIn w m) : MsgSm m.v := by
  obtain ⟨h1, h2, h3, h4, h5⟩ := h
  have e1 := hi.es.ents.1
  have e2 := hi.ms.len
  have e3 := hi.ps.pars.1
  unfold dataSum at h2
  unfold parSum at h5
  exact ⟨by omega, by omega, by omega, by omega, by omega⟩
theorem room_two_atM (left v u : Int) {W : World} {g : Nat} {t : TypeId} (h : W.heap[g]? = some (.cells #[.int .i64 v, .int .i64 u] t (0, 0))) (h1 : -1 ≤ left) (h2 : left ≤ 9223372036854775807) (h3 : 0 ≤ v) (h4 : v ≤ 9223372036854775807) (h5 : 0 ≤ u) (h6 : u ≤ 9223372036854775807) :
    Calls Try.prog 11 #[.int .i64 left, .slice (some ⟨g, 0, none⟩) 2 2] W (RoomEq left (v + u) W) := by
  have hv : ∀ x ∈ [v, u], 0 ≤ x ∧ x ≤ 9223372036854775807 := by simp; omega
  have hi : IntsAt W (some ⟨g, 0, none⟩) 2 [v, u] := ⟨rfl, fun _ => ⟨g, 0, rfl, fun k x hk => by
    rw [blk_cell h]
    rcases k with _ | _ | k
    · have : x = v := by simpa using hk.symm
      subst this; rfl
    · have : x = u := by simpa using hk.symm
      subst this; rfl
    · simp at hk⟩⟩
  refine (room_any left _ 2 2 [v, u] _ hi (by omega) hv (by omega) h2).mono ?_
  rintro e w' ⟨he, hw⟩
  have := roomV_le [v, u] left (fun x hx => (hv x hx).1) h1
  refine ⟨_, he, this.1, this.2, ?_, hw⟩
  unfold roomV
  split
  · omega
  · unfold roomV roomV
    split <;> omega
set_option maxRecDepth 20000 in
set_option maxHeartbeats 4000000 in
theorem smallMsg_any {m : MsgR} {w : World} (hI : MsgIn w m) :
    Calls Try.prog 4 #[m.agg] w (SmallMRes m w) := by
  obtain ⟨q, hq⟩ : ∃ q, w.heap.size = q := ⟨_, rfl⟩
  have HQ := Lib.hid hq
  have HI := Lib.hid hI
  have HE : Hid (∀ W, Below q w W → EntsIn W m.eo m.en m.ec m.v.es) := Lib.hid (fun W h => ⟨(hI.es.ents.below (by rw [hq]; exact h)).mono (by rw [hq]; have := h.size; omega), hI.es.le, hI.es.nil_, hI.es.sz, hI.es.ok⟩)
  have HS0 : Hid (MB w q m (w.alloc (.cells #[.int .i64 m.v.kd, .int .i64 m.v.frm, .int .i64 m.v.dst, .int .i64 m.v.tm, .int .i64 m.v.ix, .int .i64 m.v.lt, .int .i64 m.v.cm, .int .i64 m.v.rd, .bool m.v.ok, .bool m.v.dn, .slice m.eo m.en m.ec, .slice m.mo m.mn m.mc, .int .i64 m.v.off, .slice m.po m.pn m.pc] 26))) := Lib.hid ⟨new_at _ _ _ hq.symm, (Below.refl _ _).alloc (by omega) _, hq⟩
  have hen : m.en ≤ 140737488351232 := by have := hI.es.sz; have := hI.es.le; omega
  have hmn : m.mn ≤ 140737488351232 := by have := hI.ms.sz; have := hI.ms.le; omega
  have hpn : m.pn ≤ 140737488351232 := by have := hI.ps.sz; have := hI.ps.le; omega
  have hpc : (m.pn : Int) ≤ m.pc := by have := hI.ps.le; omega
  clear hI hq
  unfold MsgR.agg
  go_enter Try.func4, Try.ntmps4
  go_upto_region 1 with fail
  rw [HQ.out]
  generalize (w.alloc (.cells #[.int .i64 m.v.kd, .int .i64 m.v.frm, .int .i64 m.v.dst, .int .i64 m.v.tm, .int .i64 m.v.ix, .int .i64 m.v.lt, .int .i64 m.v.cm, .int .i64 m.v.rd, .bool m.v.ok, .bool m.v.dn, .slice m.eo m.en m.ec, .slice m.mo m.mn m.mc, .int .i64 m.v.off, .slice m.po m.pn m.pc] 26)) = w1 at HS0 ⊢
  obtain ⟨c10, c11, -, c13⟩ := HS0.out.facts.2
  by_cases h40 : 40 < m.en
  · have hd1 : decide (40 < m.en) = true := by simpa using h40
    have hd1' : decide ((40 : Int) < (m.en : Int)) = true := by simp; omega
    go_wp2_with fail
    go_ret
    exact ⟨false, rfl, (fun h => by cases h), by rw [HQ.out]; exact HS0.out.bel⟩
  have hd1 : decide (40 < m.en) = false := by simpa using h40
  have hd1' : decide ((40 : Int) < (m.en : Int)) = false := by simp; omega
  have HSm := Lib.hid (small_any (HE.out w1 HS0.out.bel))
  go_wp2_with fail
  refine HSm.out.mono ?_
  rintro e w2 ⟨r2, rfl, hr2, hb2⟩
  have HS2 := Lib.hid (HS0.out.calm hb2)
  clear hb2 HS0 c10 c11 c13 HSm
  obtain ⟨c10, c11, -, c13⟩ := HS2.out.facts.2
  cases r2 with
  | false =>
    clear hr2
    go_wp2_with fail
    go_ret
    exact ⟨false, rfl, (fun h => by cases h), by rw [HQ.out]; exact HS2.out.bel⟩
  | true =>
  obtain ⟨-, hsum⟩ := hr2 rfl
  have HSum := Lib.hid hsum
  clear hr2 hsum
  by_cases h41 : 40 < m.mn
  · have hd2 : decide (40 < m.mn) = true := by simpa using h41
    have hd2' : decide ((40 : Int) < (m.mn : Int)) = true := by simp; omega
    go_wp2_with fail
    go_ret
    exact ⟨false, rfl, (fun h => by cases h), by rw [HQ.out]; exact HS2.out.bel⟩
  have hd2 : decide (40 < m.mn) = false := by simpa using h41
  have hd2' : decide ((40 : Int) < (m.mn : Int)) = false := by simp; omega
  by_cases h60 : 60 < m.pn
  · have hd3 : decide (60 < m.pn) = true := by simpa using h60
    have hd3' : decide ((60 : Int) < (m.pn : Int)) = true := by simp; omega
    go_wp2_with fail
    go_ret
    exact ⟨false, rfl, (fun h => by cases h), by rw [HQ.out]; exact HS2.out.bel⟩
  have hd3 : decide (60 < m.pn) = false := by simpa using h60
  have hd3' : decide ((60 : Int) < (m.pn : Int)) = false := by simp; omega
  go_wp2_with fail
  go_loopw [3, 4] (fun x i wr => ∃ (k : Nat) (R : Int), k ≤ m.pn ∧ x = .int .i64 R ∧ i = .int .i64 k ∧ -1 ≤ R ∧ R ≤ 20000 ∧ Hid (0 ≤ R → R = 20000 - ((((m.v.ps.map (fun p => p.key.size + p.vl.size)).take k).sum : Nat) : Int)) ∧ Hid (MB w q m wr)) (fun _ i _ => m.pn - (intOf i).toNat)
  case atStart => exact ⟨0, 20000, Nat.zero_le _, rfl, rfl, by omega, by omega, Lib.hid (by simp), HS2⟩
  case round =>
    obtain ⟨k, R, hk, rfl, rfl, hR1, hR2, HR, HS⟩ := hrel
    have c13 := HS.out.facts.2.2.2.2
    by_cases hlt : k < m.pn
    · have hd4 : decide (k < m.pn) = true := by simpa using hlt
      have hd4' : decide ((k : Int) < (m.pn : Int)) = true := by simp; omega
      by_cases hR0 : 0 ≤ R
      · have hd : decide (0 ≤ R) = true := by simpa using hR0
        obtain ⟨gp, o, p, hpo, hgB, hpk, -, -⟩ := ((HI.out.at_.below (by rw [HQ.out]; exact HS.out.bel)).ps).get hlt
        obtain ⟨hk1, hk2⟩ := HI.out.ps.ok p (List.mem_of_getElem? hpk)
        have HSt := Lib.hid (sum_take_succ (m.v.ps.map (fun p => p.key.size + p.vl.size)) k (p.key.size + p.vl.size) (by rw [List.getElem?_map, hpk]; rfl))
        have HPo := Lib.hid hpo
        have HPk := Lib.hid hpk
        have HC : Hid (∀ W, Below wr.heap.size wr W → W.cell? ⟨q, 13, none⟩ = some (.slice (some ⟨gp, o, none⟩) m.pn m.pc) ∧ W.cell? ⟨gp, o + k * 2, none⟩ = some (.string p.key) ∧ W.cell? ⟨gp, o + k * 2 + 1, none⟩ = some (.string p.vl)) := Lib.hid (fun W hb => by
          refine ⟨by rw [← HPo.out]; exact (HS.out.calm hb).facts.2.2.2.2, ?_⟩
          obtain ⟨gp', o', p', hpo', _, hpk', k0, k1⟩ := ((HI.out.at_.below (by rw [HQ.out]; exact (HS.out.calm hb).bel)).ps).get hlt
          rw [HPo.out] at hpo'
          injection hpo' with hpo'
          injection hpo' with e1 e2
          subst e1 e2
          rw [HPk.out] at hpk'
          injection hpk' with hpk'
          subst hpk'
          exact ⟨k0, k1⟩)
        have hx1 : (0 : Int) ≤ k := by omega
        have hx2 : (k : Int) < m.pn := by omega
        have hrr : Below wr.heap.size wr wr := Below.refl _ _
        rw [hpo] at c13
        clear hpo hpk
        go_wp2_with fail
        clear c13
        go_region_held3 (fun W => W.cell? ⟨q, 13, none⟩ = some (.slice (some ⟨gp, o, none⟩) m.pn m.pc) ∧ W.cell? ⟨gp, o + k * 2, none⟩ = some (.string p.key) ∧ W.cell? ⟨gp, o + k * 2 + 1, none⟩ = some (.string p.vl))
          ((refine HC.out _ ?_; (repeat (with_reducible (first | assumption | refine Below.drew ?_ | refine Below.alloc ?_ ?_ _))); all_goals (first | omega | (simp <;> omega))))
          ((go_at_call 11; refine (room_two_atM R (p.key.size : Int) (p.vl.size : Int) (by first | exact new_at _ _ _ (by simp) | exact old_at _ _ _ _ (new_at _ _ _ (by simp))) hR1 (by omega) (by omega) (by omega) (by omega) (by omega)).mono ?_; rintro e' w5 ⟨y, rfl, hy1, hy2, hy3, rfl⟩; have HY := Lib.hid hy3; clear hy3))
        all_goals (
          go_wp2_with fail
          go_roundw
          case rel => exact ⟨k + 1, y, by omega, rfl, by go_num, hy1, by omega, Lib.hid (fun h0 => by have := HY.out h0; have := HR.out hR0; rw [HSt.out]; omega), Lib.hid (HS.out.calm (by (repeat (with_reducible (first | assumption | refine Below.drew ?_ | refine Below.alloc ?_ ?_ _))); all_goals (first | omega | (simp <;> omega))))⟩
          case measure => simp [intOf] <;> omega)
      · have hd : decide (0 ≤ R) = false := by simpa using hR0
        go_wp2_with fail
        all_goals (go_ret; exact ⟨false, rfl, (fun h => by cases h), by rw [HQ.out]; exact HS.out.bel⟩)
    · obtain rfl : k = m.pn := by omega
      have hd4 : decide (m.pn < m.pn) = false := by simp
      have hd4' : decide ((m.pn : Int) < (m.pn : Int)) = false := by simp
      have hfull : ((m.v.ps.map (fun p => p.key.size + p.vl.size)).take m.pn).sum = parSum m.v.ps := by
        unfold parSum
        rw [List.take_of_length_le (by rw [List.length_map, HI.out.ps.pars.1]; omega)]
      have HFu := Lib.hid hfull
      clear hfull
      by_cases hR0 : 0 ≤ R
      · have hd : decide (0 ≤ R) = true := by simpa using hR0
        go_wp2_with fail
        all_goals (go_ret; exact ⟨true, rfl, (fun _ => ⟨by omega, HSum.out, by omega, by omega, by have := HR.out hR0; rw [HFu.out] at this; omega⟩), by rw [HQ.out]; exact HS.out.bel⟩)
      · have hd : decide (0 ≤ R) = false := by simpa using hR0
        go_wp2_with fail
        all_goals (go_ret; exact ⟨false, rfl, (fun h => by cases h), by rw [HQ.out]; exact HS.out.bel⟩)
end Go.Proofs.Ytmdidmllaldbaaa
