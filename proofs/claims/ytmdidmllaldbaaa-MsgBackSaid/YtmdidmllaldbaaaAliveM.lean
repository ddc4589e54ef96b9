/- The walk of arboretumlaw26.alive. -/
import Derived.Test.YtmdidmllaldbaaaMsgSm
namespace Go.Proofs.Ytmdidmllaldbaaa
open Go.RowKit
set_option linter.unusedVariables false
set_option linter.unusedSimpArgs false
theorem own_caps {w : World} {base : Nat} {t : TypeId} {s n c n' : Nat} {ao : Option Addr} {xs : List Value} (h : w.ownsRow base t s (.slice ao n c) n' xs) : n ≤ c ∧ c ≤ 9223372036854775807 := by
  rcases h.2 with ⟨hv, _⟩ | ⟨g, cap, cur, hv, _, _, hnc, hm, _⟩
  · injection hv with _ h1 h2; subst h1 h2; omega
  · injection hv with _ h1 h2
    subst h1 h2
    unfold maxLen at hm
    omega
theorem MsgOwn.at_ {W : World} {base : Nat} {m : MsgR} (h : MsgOwn W base m) (hok : MsgOk m.v) : MsgAt W m := by
  refine ⟨ents_own h.es, ⟨h.ml, hok.2.2.2.2.2.2.2.2.2.2.1.1, fun hn => ?_⟩, pars_own h.ps, own_caps h.es, own_caps h.ms, own_caps h.ps⟩
  obtain ⟨g, cap, hv, hb, hlt⟩ := h.ms.form hn
  injection hv with hv _ _
  refine ⟨g, 0, hv, hlt, fun k v hk => ?_⟩
  have hm := h.ms
  rw [hv] at hm
  rw [Nat.zero_add, hm.cellAt k (by have := (List.getElem?_eq_some_iff.1 hk).1; have := h.ml; omega), List.getElem?_map, hk]
  rfl
def m0V : MsgV := ⟨3, 1, 2, 4, 0, 0, 0, 0, true, false, [⟨1, 4, 0, ⟨#[]⟩⟩], [], 0, [⟨⟨#[107]⟩, ⟨#[]⟩⟩]⟩
theorem m0_get : (getMsgV (putMsgB m0V)).2 = 0 := by decide +kernel
theorem mm_get : (getMsgV [109]).2 = 5 := by decide +kernel
theorem m0_ok : MsgOk m0V := by
  unfold MsgOk m0V I64
  dsimp only
  refine ⟨by omega, by omega, by omega, by omega, by omega, by omega, by omega, by omega, by omega, ⟨?_, by simp⟩, ⟨by simp, by simp⟩, ⟨?_, by simp⟩⟩
  · intro e he
    obtain rfl : e = ⟨1, 4, 0, ⟨#[]⟩⟩ := by simpa using he
    unfold EntOk
    exact ⟨by decide, by decide, by decide, by decide⟩
  · intro p hp
    obtain rfl : p = ⟨⟨#[107]⟩, ⟨#[]⟩⟩ := by simpa using hp
    exact ⟨by decide, by decide⟩
theorem m0_sm : MsgSm m0V := ⟨by decide, by decide, by decide, by decide, by decide⟩
def m0R (eb pb : Nat) : MsgR := ⟨m0V, some ⟨eb, 0, none⟩, 1, 1, none, 0, 0, some ⟨pb, 0, none⟩, 1, 1⟩
theorem m0_at {W : World} {eb pb : Nat} (h1 : W.heap[eb]? = some (.cells #[.int .i64 1, .int .i64 4, .int .i64 0, .string ⟨#[]⟩] 41 (0, 0))) (h2 : W.heap[pb]? = some (.cells #[.string ⟨#[107]⟩, .string ⟨#[]⟩] 39 (0, 0))) : MsgAt W (m0R eb pb) := by
  refine ⟨⟨rfl, fun _ => ⟨eb, 0, rfl, blk_lt h1, fun k e hk => ?_⟩⟩, ⟨rfl, (fun v hv => by cases hv), fun h => absurd h (by show ¬ 0 < 0; omega)⟩, ⟨rfl, fun _ => ⟨pb, 0, rfl, blk_lt h2, fun k e hk => ?_⟩⟩, (by show 1 ≤ 1 ∧ 1 ≤ _; omega), (by show 0 ≤ 0 ∧ 0 ≤ _; omega), (by show 1 ≤ 1 ∧ 1 ≤ _; omega)⟩
  · rcases k with _ | k
    · obtain rfl : (⟨1, 4, 0, ⟨#[]⟩⟩ : Ent) = e := by simpa [m0R, m0V] using hk
      refine ⟨?_, ?_, ?_, ?_⟩ <;> rw [blk_cell h1] <;> rfl
    · simp [m0R, m0V] at hk
  · rcases k with _ | k
    · obtain rfl : (⟨⟨#[107]⟩, ⟨#[]⟩⟩ : Par) = e := by simpa [m0R, m0V] using hk
      refine ⟨?_, ?_⟩ <;> rw [blk_cell h2] <;> rfl
    · simp [m0R, m0V] at hk
set_option maxRecDepth 20000 in
set_option maxHeartbeats 4000000 in
theorem aliveM_any (w : World) : Calls Try.prog 5 #[] w fun e w' => e = .returned (.bool true) ∧ Below w.heap.size w w' := by
  have HG : Hid (∀ W, Calls Try.prog 7 #[.string ⟨(putMsgB m0V).toArray⟩] W fun e w' => ∃ m : MsgR, e = .returned (.tuple #[m.agg, .int .i64 0]) ∧ m.v = m0V ∧ MsgOwn w' W.heap.size m ∧ Below W.heap.size W w') := Lib.hid (fun W => by
    refine (mget_any ⟨(putMsgB m0V).toArray⟩ W (by have := putMsg_small m0_sm; show (putMsgB m0V).length ≤ _; omega)).mono ?_
    rw [bytes_mk, m0_get, getMsg_put m0V m0_ok m0_get]
    exact fun e w' h => h)
  have HM : Hid (∀ W, Calls Try.prog 7 #[.string ⟨#[109]⟩] W fun e w' => ∃ m : MsgR, e = .returned (.tuple #[m.agg, .int .i64 5]) ∧ Below W.heap.size W w') := Lib.hid (fun W => by
    refine (mget_any ⟨#[109]⟩ W (by decide)).mono ?_
    have e : (ByteArray.mk #[109]).data.toList = [109] := rfl
    rw [e, mm_get]
    rintro e w' ⟨m, rfl, -, -, hb⟩
    exact ⟨m, rfl, hb⟩)
  obtain ⟨S, hS⟩ : ∃ S, S = putMsgB m0V := ⟨_, rfl⟩
  have HP : Hid (∀ W eb pb, MsgAt W (m0R eb pb) → Calls Try.prog 6 #[.agg #[.int .i64 3, .int .i64 1, .int .i64 2, .int .i64 4, .int .i64 0, .int .i64 0, .int .i64 0, .int .i64 0, .bool true, .bool false, .slice (some ⟨eb, 0, none⟩) 1 1, .slice none 0 0, .int .i64 0, .slice (some ⟨pb, 0, none⟩) 1 1]] W fun e w' => e = .returned (.string ⟨S.toArray⟩) ∧ Below W.heap.size W w') := Lib.hid (fun W eb pb h => by rw [hS]; exact mput_any (m := m0R eb pb) h m0_ok m0_sm)
  have HV : Hid (∀ W eb pb, MsgAt W (m0R eb pb) → Calls Try.prog 8 #[.agg #[.int .i64 3, .int .i64 1, .int .i64 2, .int .i64 4, .int .i64 0, .int .i64 0, .int .i64 0, .int .i64 0, .bool true, .bool false, .slice (some ⟨eb, 0, none⟩) 1 1, .slice none 0 0, .int .i64 0, .slice (some ⟨pb, 0, none⟩) 1 1]] W fun e w' => e = .returned (.bool true) ∧ Below W.heap.size W w') := Lib.hid (fun W eb pb h => by
    have h2 := mvalid_any (m := m0R eb pb) h m0_ok m0_sm
    have e : ((getMsgV (putMsgB (m0R eb pb).v)).2 == 0) = true := by
      show ((getMsgV (putMsgB m0V)).2 == 0) = true
      rw [m0_get]; rfl
    rw [e] at h2
    exact h2)
  have HSa : Hid (∀ W eb pb (x : MsgR), x.v = m0V → MsgAt W x → MsgAt W (m0R eb pb) → Calls Try.prog 9 #[x.agg, .agg #[.int .i64 3, .int .i64 1, .int .i64 2, .int .i64 4, .int .i64 0, .int .i64 0, .int .i64 0, .int .i64 0, .bool true, .bool false, .slice (some ⟨eb, 0, none⟩) 1 1, .slice none 0 0, .int .i64 0, .slice (some ⟨pb, 0, none⟩) 1 1]] W fun e w' => e = .returned (.bool true) ∧ Below W.heap.size W w') := Lib.hid (fun W eb pb x hx h1 h2 => rsameMsg_yes (b := m0R eb pb) h1 h2 hx (by rw [hx]; exact m0_ok) (by rw [hx]; exact m0_sm))
  rw [← hS] at HG
  clear hS
  obtain ⟨eb, heb⟩ : ∃ eb, w.heap.size = eb := ⟨_, rfl⟩
  have HEb := Lib.hid heb
  have HB1 : Hid (Below eb w (((w.alloc (.cells #[.int .i64 1, .int .i64 4, .int .i64 0, .string ⟨#[]⟩] 41)).alloc (.cells #[.string ⟨#[107]⟩, .string ⟨#[]⟩] 39)).alloc (.cells #[.int .i64 3, .int .i64 1, .int .i64 2, .int .i64 4, .int .i64 0, .int .i64 0, .int .i64 0, .int .i64 0, .bool true, .bool false, .slice (some ⟨eb, 0, none⟩) 1 1, .slice none 0 0, .int .i64 0, .slice (some ⟨eb + 1, 0, none⟩) 1 1] 26))) := Lib.hid ((((Below.refl _ _).alloc (by omega) _).alloc (by simp; omega) _).alloc (by simp; omega) _)
  have HK1 : Hid ((((w.alloc (.cells #[.int .i64 1, .int .i64 4, .int .i64 0, .string ⟨#[]⟩] 41)).alloc (.cells #[.string ⟨#[107]⟩, .string ⟨#[]⟩] 39)).alloc (.cells #[.int .i64 3, .int .i64 1, .int .i64 2, .int .i64 4, .int .i64 0, .int .i64 0, .int .i64 0, .int .i64 0, .bool true, .bool false, .slice (some ⟨eb, 0, none⟩) 1 1, .slice none 0 0, .int .i64 0, .slice (some ⟨eb + 1, 0, none⟩) 1 1] 26)).heap[eb]? = some (.cells #[.int .i64 1, .int .i64 4, .int .i64 0, .string ⟨#[]⟩] 41 (0, 0))) := Lib.hid (old_at _ _ _ _ (old_at _ _ _ _ (new_at _ _ _ heb.symm)))
  have HK2 : Hid ((((w.alloc (.cells #[.int .i64 1, .int .i64 4, .int .i64 0, .string ⟨#[]⟩] 41)).alloc (.cells #[.string ⟨#[107]⟩, .string ⟨#[]⟩] 39)).alloc (.cells #[.int .i64 3, .int .i64 1, .int .i64 2, .int .i64 4, .int .i64 0, .int .i64 0, .int .i64 0, .int .i64 0, .bool true, .bool false, .slice (some ⟨eb, 0, none⟩) 1 1, .slice none 0 0, .int .i64 0, .slice (some ⟨eb + 1, 0, none⟩) 1 1] 26)).heap[eb + 1]? = some (.cells #[.string ⟨#[107]⟩, .string ⟨#[]⟩] 39 (0, 0))) := Lib.hid (old_at _ _ _ _ (new_at _ _ _ (by simp [heb])))
  have HK3 : Hid ((((w.alloc (.cells #[.int .i64 1, .int .i64 4, .int .i64 0, .string ⟨#[]⟩] 41)).alloc (.cells #[.string ⟨#[107]⟩, .string ⟨#[]⟩] 39)).alloc (.cells #[.int .i64 3, .int .i64 1, .int .i64 2, .int .i64 4, .int .i64 0, .int .i64 0, .int .i64 0, .int .i64 0, .bool true, .bool false, .slice (some ⟨eb, 0, none⟩) 1 1, .slice none 0 0, .int .i64 0, .slice (some ⟨eb + 1, 0, none⟩) 1 1] 26)).heap[eb + 1 + 1]? = some (.cells #[.int .i64 3, .int .i64 1, .int .i64 2, .int .i64 4, .int .i64 0, .int .i64 0, .int .i64 0, .int .i64 0, .bool true, .bool false, .slice (some ⟨eb, 0, none⟩) 1 1, .slice none 0 0, .int .i64 0, .slice (some ⟨eb + 1, 0, none⟩) 1 1] 26 (0, 0))) := Lib.hid (new_at _ _ _ (by simp [heb]))
  clear heb
  go_enter Try.func5, Try.ntmps5
  go_upto_region 2 with fail
  rw [HEb.out]
  generalize (((w.alloc (.cells #[.int .i64 1, .int .i64 4, .int .i64 0, .string ⟨#[]⟩] 41)).alloc (.cells #[.string ⟨#[107]⟩, .string ⟨#[]⟩] 39)).alloc (.cells #[.int .i64 3, .int .i64 1, .int .i64 2, .int .i64 4, .int .i64 0, .int .i64 0, .int .i64 0, .int .i64 0, .bool true, .bool false, .slice (some ⟨eb, 0, none⟩) 1 1, .slice none 0 0, .int .i64 0, .slice (some ⟨eb + 1, 0, none⟩) 1 1] 26)) = w1 at HB1 HK1 HK2 HK3 ⊢
  generalize eb + 1 + 1 = mb at HK3 ⊢
  generalize eb + 1 = pb at HK2 HK3 ⊢
  obtain ⟨y0, y1, y2, y3, y4, y5, y6, y7, y8, y9, y10, y11, y12, y13⟩ := msgCells HK3.out
  go_wp2_with fail
  refine (HP.out w1 eb pb (m0_at HK1.out HK2.out)).mono ?_
  rintro e w2 ⟨rfl, hb2⟩
  have HB2 := Lib.hid hb2
  clear hb2 y0 y1 y2 y3 y4 y5 y6 y7 y8 y9 y10 y11 y12 y13
  go_wp2_with fail
  refine (HG.out _).mono ?_
  rintro e w3 ⟨x, rfl, hxv, hxo, hb3⟩
  have HB3 := Lib.hid (HB2.out.trans (hb3.mono HB2.out.size))
  have HXv := Lib.hid hxv
  have HXo := Lib.hid (hxo.at_ (by rw [hxv]; exact m0_ok))
  have HXk : Hid ((w3.alloc (.cells #[.int .i64 x.v.kd, .int .i64 x.v.frm, .int .i64 x.v.dst, .int .i64 x.v.tm, .int .i64 x.v.ix, .int .i64 x.v.lt, .int .i64 x.v.cm, .int .i64 x.v.rd, .bool x.v.ok, .bool x.v.dn, .slice x.eo x.en x.ec, .slice x.mo x.mn x.mc, .int .i64 x.v.off, .slice x.po x.pn x.pc] 26)).heap[w3.heap.size]? = some (.cells #[.int .i64 x.v.kd, .int .i64 x.v.frm, .int .i64 x.v.dst, .int .i64 x.v.tm, .int .i64 x.v.ix, .int .i64 x.v.lt, .int .i64 x.v.cm, .int .i64 x.v.rd, .bool x.v.ok, .bool x.v.dn, .slice x.eo x.en x.ec, .slice x.mo x.mn x.mc, .int .i64 x.v.off, .slice x.po x.pn x.pc] 26 (0, 0))) := Lib.hid (heap_alloc_new w3 _)
  have HX3 : Hid (Below w3.heap.size w3 (w3.alloc (.cells #[.int .i64 x.v.kd, .int .i64 x.v.frm, .int .i64 x.v.dst, .int .i64 x.v.tm, .int .i64 x.v.ix, .int .i64 x.v.lt, .int .i64 x.v.cm, .int .i64 x.v.rd, .bool x.v.ok, .bool x.v.dn, .slice x.eo x.en x.ec, .slice x.mo x.mn x.mc, .int .i64 x.v.off, .slice x.po x.pn x.pc] 26))) := Lib.hid ((Below.refl _ _).alloc (Nat.le_refl _) _)
  clear hxv hxo hb3 HB2
  unfold MsgR.agg
  go_wp2_with fail
  refine (HM.out _).mono ?_
  rintro e w4 ⟨y, rfl, hb4⟩
  have hz : w1.heap.size ≤ w3.heap.size := HB3.out.size
  have b34 : Below w3.heap.size w3 (w4.alloc (.cells #[.int .i64 y.v.kd, .int .i64 y.v.frm, .int .i64 y.v.dst, .int .i64 y.v.tm, .int .i64 y.v.ix, .int .i64 y.v.lt, .int .i64 y.v.cm, .int .i64 y.v.rd, .bool y.v.ok, .bool y.v.dn, .slice y.eo y.en y.ec, .slice y.mo y.mn y.mc, .int .i64 y.v.off, .slice y.po y.pn y.pc] 26)) := (HX3.out.trans (hb4.mono (by simp))).alloc (by have := hb4.size; simp at this; omega) _
  have HB5 : Hid (Below w1.heap.size w1 (w4.alloc (.cells #[.int .i64 y.v.kd, .int .i64 y.v.frm, .int .i64 y.v.dst, .int .i64 y.v.tm, .int .i64 y.v.ix, .int .i64 y.v.lt, .int .i64 y.v.cm, .int .i64 y.v.rd, .bool y.v.ok, .bool y.v.dn, .slice y.eo y.en y.ec, .slice y.mo y.mn y.mc, .int .i64 y.v.off, .slice y.po y.pn y.pc] 26))) := Lib.hid (HB3.out.trans (b34.mono hz))
  have HXa := Lib.hid (HXo.out.below b34)
  have HXk5 : Hid ((w4.alloc (.cells #[.int .i64 y.v.kd, .int .i64 y.v.frm, .int .i64 y.v.dst, .int .i64 y.v.tm, .int .i64 y.v.ix, .int .i64 y.v.lt, .int .i64 y.v.cm, .int .i64 y.v.rd, .bool y.v.ok, .bool y.v.dn, .slice y.eo y.en y.ec, .slice y.mo y.mn y.mc, .int .i64 y.v.off, .slice y.po y.pn y.pc] 26)).heap[w3.heap.size]? = some (.cells #[.int .i64 x.v.kd, .int .i64 x.v.frm, .int .i64 x.v.dst, .int .i64 x.v.tm, .int .i64 x.v.ix, .int .i64 x.v.lt, .int .i64 x.v.cm, .int .i64 x.v.rd, .bool x.v.ok, .bool x.v.dn, .slice x.eo x.en x.ec, .slice x.mo x.mn x.mc, .int .i64 x.v.off, .slice x.po x.pn x.pc] 26 (0, 0))) := Lib.hid (old_at _ _ _ _ ((hb4.block _ (by simp)).trans HXk.out))
  obtain ⟨x0, x1, x2, x3, x4, x5, x6, x7, x8, x9, x10, x11, x12, x13⟩ := msgCells HXk5.out
  obtain ⟨y0, y1, y2, y3, y4, y5, y6, y7, y8, y9, y10, y11, y12, y13⟩ := msgCells ((HB5.out.block _ (blk_lt HK3.out)).trans HK3.out)
  have HM0 : Hid (∀ W, Below w1.heap.size w1 W → MsgAt W (m0R eb pb)) := Lib.hid (fun W hb => m0_at ((hb.block _ (blk_lt HK1.out)).trans HK1.out) ((hb.block _ (blk_lt HK2.out)).trans HK2.out))
  have HSc := Lib.hid (HSa.out _ eb pb x HXv.out HXa.out (HM0.out _ HB5.out))
  clear b34 hb4
  unfold MsgR.agg at HSc ⊢
  go_wp2_with fail
  refine HSc.out.mono ?_
  rintro e w6 ⟨rfl, hb6⟩
  have HB6 := Lib.hid (HB5.out.trans (hb6.mono HB5.out.size))
  clear x0 x1 x2 x3 x4 x5 x6 x7 x8 x9 x10 x11 x12 x13 y0 y1 y2 y3 y4 y5 y6 y7 y8 y9 y10 y11 y12 y13 hb6
  obtain ⟨y0, y1, y2, y3, y4, y5, y6, y7, y8, y9, y10, y11, y12, y13⟩ := msgCells ((HB6.out.block _ (blk_lt HK3.out)).trans HK3.out)
  go_wp2_with fail
  refine (HV.out w6 eb pb (HM0.out _ HB6.out)).mono ?_
  rintro e w7 ⟨rfl, hb7⟩
  have he1 : eb ≤ w1.heap.size := by have := blk_lt HK1.out; omega
  have HB7 := Lib.hid (HB1.out.trans ((HB6.out.trans (hb7.mono HB6.out.size)).mono he1))
  clear y0 y1 y2 y3 y4 y5 y6 y7 y8 y9 y10 y11 y12 y13 hb7
  go_wp2_with fail
  go_ret
  exact ⟨rfl, by rw [HEb.out]; exact HB7.out⟩
end Go.Proofs.Ytmdidmllaldbaaa
