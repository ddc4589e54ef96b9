/- The walk of arboretumlaw26.MsgBack. -/
import Derived.Test.YtmdidmllaldbaaaAliveM
import Derived.Laws.IdiomStrings
import Derived.Laws.BitsAllLaws
import Derived.Deep.DeepCutAuto
namespace Go.Proofs.Ytmdidmllaldbaaa
open Go.RowKit
set_option linter.unusedVariables false
set_option linter.unusedSimpArgs false
theorem i64_wfB {n : Int} (h : (Lit.int .i64 n).wf = true) : -9223372036854775808 ≤ n ∧ n ≤ 9223372036854775807 := by
  simpa [Lit.wf, IntKind.min, IntKind.max, IntKind.bits, IntKind.signed] using h
theorem xor_byteB (c : UInt8) (v : Int) (h : v % 256 ≠ 0) : ∃ c' : UInt8, c' ≠ c ∧ bits .xor .u8 (c.toNat : Int) (v % 256) = ((c'.toNat : Nat) : Int) := by
  obtain ⟨d, hd⟩ : ∃ d : Nat, v % 256 = (d : Int) := ⟨(v % 256).toNat, by omega⟩
  have hc := c.toNat_lt
  have hd1 : 0 < d := by omega
  have hd2 : d < 256 := by omega
  have hx : c.toNat ^^^ d < 256 := Nat.xor_lt_two_pow (n := 8) hc hd2
  refine ⟨UInt8.ofNat (c.toNat ^^^ d), ?_, ?_⟩
  · intro e
    have e2 := congrArg UInt8.toNat e
    rw [UInt8.toNat_ofNat', Nat.mod_eq_of_lt hx] at e2
    have e3 : c.toNat ^^^ d = c.toNat ^^^ 0 := by rw [Nat.xor_zero]; exact e2
    have := xor_cancel' e3
    omega
  · rw [hd, u8_xor_nat _ _ hc hd2, UInt8.toNat_ofNat', Nat.mod_eq_of_lt hx]
theorem MsgIn.below {w W : World} {m : MsgR} (h : MsgIn w m) (hb : Below w.heap.size w W) : MsgIn W m :=
  ⟨⟨(h.es.ents.below hb).mono hb.size, h.es.le, h.es.nil_, h.es.sz, h.es.ok⟩, h.ms.below hb, ⟨(h.ps.pars.below hb).mono hb.size, h.ps.le, h.ps.nil_, h.ps.sz, h.ps.ok⟩, h.i1, h.i2, h.i3, h.i4, h.i5, h.i6, h.i7, h.i8, h.i9⟩
/-- A text's bytes in a new row, one of them changed, and the row as a text. -/
theorem bytes_conv (W : World) (s : ByteArray) (k : Nat) (hk : k < s.size) (hs : s.size ≤ 281474976710656) (by_ : Int) (hb : by_ % 256 ≠ 0) :
    ∃ (ROW : Array Value) (cap : Nat) (c c' : UInt8), (convert 9 34 (.string s)).run Try.prog W = .ok (.slice (some ⟨W.heap.size, 0, none⟩) s.size cap) (W.drew.alloc (.cells ROW 5 (ROW.size, ROW.size + 1))) ∧ s.size ≤ cap ∧
      s.data.toList[k]? = some c ∧ c' ≠ c ∧ bits .xor .u8 (c.toNat : Int) (by_ % 256) = ((c'.toNat : Nat) : Int) ∧
      (W.alloc (.cells ROW 5 (ROW.size, ROW.size + 1))).cell? ⟨W.heap.size, k, none⟩ = some (.int .u8 (c.toNat : Int)) ∧
      (W.alloc (.cells ROW 5 (ROW.size, ROW.size + 1))).frozen? ⟨W.heap.size, k, none⟩ = false ∧
      ∀ W' : World, W'.heap = ((W.alloc (.cells ROW 5 (ROW.size, ROW.size + 1))).setCell ⟨W.heap.size, k, none⟩ (.int .u8 (c'.toNat : Int))).heap →
        (convert 34 9 (.slice (some ⟨W.heap.size, 0, none⟩) s.size cap)).run Try.prog W' = .ok (.string ⟨(s.data.toList.set k c').toArray⟩) W' := by
  have hcv := run_bytes_of_string (P := Try.prog) W 9 34 5 s Try.underlying9 Try.underlying34 Try.underlying5
  obtain ⟨cap, hcap⟩ : ∃ cap, cap = grownCap W s.size 0 5 := ⟨_, rfl⟩
  have hcge := grownCap_ge W s.size 0 5
  rw [← hcap] at hcv hcge
  obtain ⟨ROW, hROW⟩ : ∃ ROW, ROW = bytesRow s cap := ⟨_, rfl⟩
  rw [← hROW] at hcv
  have hlen : s.data.toList.length = s.size := rfl
  have hcell : ∀ j (hj : j < s.size), ROW[j]? = some (.int .u8 (s[j].toNat : Int)) := by
    intro j hj
    have h1 : j < (s.data.map (fun b => Value.int .u8 b.toNat)).size := by rw [Array.size_map]; exact hj
    rw [hROW, bytesRow, Array.getElem?_append_left h1, Array.getElem?_map, Array.getElem?_eq_getElem (show j < s.data.size from hj)]
    rfl
  have hrs : s.size ≤ ROW.size := by
    rw [hROW, bytesRow, Array.size_append, Array.size_map]
    have : s.data.size = s.size := rfl
    omega
  obtain ⟨c', hc', hx⟩ := xor_byteB s[k] by_ hb
  have hblk : (W.alloc (.cells ROW 5 (ROW.size, ROW.size + 1))).heap[W.heap.size]? = some (.cells ROW 5 (ROW.size, ROW.size + 1)) := heap_alloc_new W _
  refine ⟨ROW, cap, s[k], c', hcv, hcge, ?_, hc', hx, ?_, ?_, ?_⟩
  · rw [List.getElem?_eq_getElem (show k < s.data.toList.length from hk)]; rfl
  · rw [cell_of_row _ _ _ _ _ _ hblk]; exact hcell k hk
  · unfold World.frozen?
    rw [hblk]
    simp
    omega
  · intro W' hW'
    have hset : ∀ j, j < s.size → (ROW.setIfInBounds k (.int .u8 (c'.toNat : Int)))[j]? = (Lib.byteCells (s.data.toList.set k c'))[j]? := by
      intro j hj
      rw [Lib.byteCells, List.getElem?_map, List.getElem?_set, Array.getElem?_setIfInBounds]
      by_cases hjk : k = j
      · subst hjk
        rw [if_pos rfl, if_pos rfl, if_pos (by omega), if_pos (by rw [hlen]; omega)]; rfl
      · rw [if_neg hjk, if_neg hjk, hcell j hj, List.getElem?_eq_getElem (show j < s.data.toList.length from hj)]; rfl
    refine run_string_at (b := W.heap.size) (q := 0) (l := s.data.toList.set k c') 34 9 5 Try.underlying34 Try.underlying5 Try.underlying9 (by rw [List.length_set]; rfl) (fun i hi => ?_)
    have h1 : W'.heap[W.heap.size]? = some (.cells (ROW.setIfInBounds k (.int .u8 (c'.toNat : Int))) 5 (ROW.size, ROW.size + 1)) := by
      rw [hW']
      unfold World.setCell
      rw [Array.getElem?_modify, if_pos rfl, hblk]
      rfl
    rw [Nat.zero_add, cell_of_row _ _ _ _ _ _ h1, hset i hi]
set_option maxRecDepth 20000 in
set_option maxHeartbeats 8000000 in
theorem walk_MsgBack (m : MsgR) {w : World} (hI : MsgIn w m) (at_ : Int) (hat : (Lit.int .i64 at_).wf = true) (by_ : Int) (hby : (Lit.int .i64 by_).wf = true) :
    Calls Try.prog 3 #[m.agg, .int .i64 at_, .int .i64 by_] w fun e w' => e = .returned (.bool true) ∧ Below w.heap.size w w' := by
  have ha := i64_wfB hat
  have hb := i64_wfB hby
  obtain ⟨q, hq⟩ : ∃ q, w.heap.size = q := ⟨_, rfl⟩
  have HQ := Lib.hid hq
  have HI : Hid (∀ W, Below q w W → MsgIn W m) := Lib.hid (fun W h => hI.below (by rw [hq]; exact h))
  have HS0 : Hid (MB w q m (w.alloc (.cells #[.int .i64 m.v.kd, .int .i64 m.v.frm, .int .i64 m.v.dst, .int .i64 m.v.tm, .int .i64 m.v.ix, .int .i64 m.v.lt, .int .i64 m.v.cm, .int .i64 m.v.rd, .bool m.v.ok, .bool m.v.dn, .slice m.eo m.en m.ec, .slice m.mo m.mn m.mc, .int .i64 m.v.off, .slice m.po m.pn m.pc] 26))) := Lib.hid ⟨new_at _ _ _ hq.symm, (Below.refl _ _).alloc (by omega) _, hq⟩
  have HOk := Lib.hid hI.ok
  clear hI hq hat hby
  unfold MsgR.agg
  go_enter Try.func3, Try.ntmps3
  go_upto_region 1 with fail
  rw [HQ.out]
  generalize (w.alloc (.cells #[.int .i64 m.v.kd, .int .i64 m.v.frm, .int .i64 m.v.dst, .int .i64 m.v.tm, .int .i64 m.v.ix, .int .i64 m.v.lt, .int .i64 m.v.cm, .int .i64 m.v.rd, .bool m.v.ok, .bool m.v.dn, .slice m.eo m.en m.ec, .slice m.mo m.mn m.mc, .int .i64 m.v.off, .slice m.po m.pn m.pc] 26)) = w1 at HS0 ⊢
  have HSml := Lib.hid (smallMsg_any (HI.out w1 HS0.out.bel))
  unfold MsgR.agg at HSml
  obtain ⟨y0, y1, y2, y3, y4, y5, y6, y7, y8, y9, y10, y11, y12, y13⟩ := msgCells HS0.out.blk
  go_wp2_with fail
  refine HSml.out.mono ?_
  rintro e w2 ⟨r, rfl, hr, hb2⟩
  have HS2 := Lib.hid (HS0.out.calm hb2)
  clear hb2 HSml y0 y1 y2 y3 y4 y5 y6 y7 y8 y9 y10 y11 y12 y13 HS0
  cases r with
  | false =>
    clear hr
    go_wp2_with fail
    refine (aliveM_any _).mono ?_
    rintro e w3 ⟨rfl, hb3⟩
    have HS3 := Lib.hid (HS2.out.calm hb3)
    go_wp2_with fail
    go_ret
    exact ⟨rfl, by rw [HQ.out]; exact HS3.out.bel⟩
  | true =>
  have hsm := (hr rfl).sm (HI.out w2 HS2.out.bel)
  clear hr
  by_cases h0 : at_ < 0
  · have hd : decide (at_ < 0) = true := by simpa using h0
    go_wp2_with fail
    refine (aliveM_any _).mono ?_
    rintro e w3 ⟨rfl, hb3⟩
    have HS3 := Lib.hid (HS2.out.calm hb3)
    go_wp2_with fail
    go_ret
    exact ⟨rfl, by rw [HQ.out]; exact HS3.out.bel⟩
  obtain ⟨A, rfl⟩ := Int.eq_ofNat_of_zero_le (show 0 ≤ at_ by omega)
  have hd0 : decide ((A : Int) < 0) = false := decide_eq_false (by omega)
  -- the text, and what Get answers of it
  have hlen := putMsg_small hsm
  have hlen5 : 5 ≤ (putMsgB m.v).length := by have := (putMsgB_parts m.v).1; have : 0 < (msgB m.v).length := Nat.succ_pos (msgT m.v).length; omega
  obtain ⟨s, hs⟩ : ∃ s : ByteArray, s = ⟨(putMsgB m.v).toArray⟩ := ⟨_, rfl⟩
  have hsl : s.data.toList = putMsgB m.v := by rw [hs]
  have hsz : s.size = (putMsgB m.v).length := by rw [hs]; rfl
  obtain ⟨g, hg⟩ : ∃ g, g = (getMsgV (putMsgB m.v)).2 := ⟨_, rfl⟩
  have HPut : Hid (∀ W, Below q w W → Calls Try.prog 6 #[.agg #[.int .i64 m.v.kd, .int .i64 m.v.frm, .int .i64 m.v.dst, .int .i64 m.v.tm, .int .i64 m.v.ix, .int .i64 m.v.lt, .int .i64 m.v.cm, .int .i64 m.v.rd, .bool m.v.ok, .bool m.v.dn, .slice m.eo m.en m.ec, .slice m.mo m.mn m.mc, .int .i64 m.v.off, .slice m.po m.pn m.pc]] W fun e w' => e = .returned (.string s) ∧ Below W.heap.size W w') := Lib.hid (fun W h => by rw [hs]; exact mput_any (HI.out W h).at_ HOk.out hsm)
  have HVal : Hid (∀ W, Below q w W → Calls Try.prog 8 #[.agg #[.int .i64 m.v.kd, .int .i64 m.v.frm, .int .i64 m.v.dst, .int .i64 m.v.tm, .int .i64 m.v.ix, .int .i64 m.v.lt, .int .i64 m.v.cm, .int .i64 m.v.rd, .bool m.v.ok, .bool m.v.dn, .slice m.eo m.en m.ec, .slice m.mo m.mn m.mc, .int .i64 m.v.off, .slice m.po m.pn m.pc]] W fun e w' => e = .returned (.bool (g == 0)) ∧ Below W.heap.size W w') := Lib.hid (fun W h => by rw [hg]; exact mvalid_any (HI.out W h).at_ HOk.out hsm)
  have HGet : Hid (∀ W, Calls Try.prog 7 #[.string s] W fun e w' => ∃ x : MsgR, e = .returned (.tuple #[x.agg, .int .i64 g]) ∧ (g = 0 → x.v = m.v) ∧ MsgOwn w' W.heap.size x ∧ Below W.heap.size W w') := Lib.hid (fun W => by
    refine (mget_any s W (by omega)).mono ?_
    rw [hsl, ← hg]
    rintro e w' ⟨x, rfl, hv, ho, hb⟩
    exact ⟨x, rfl, fun h => by rw [hv]; exact getMsg_put m.v HOk.out (by rw [← hg]; exact h), ho, hb⟩)
  have HSame : Hid (∀ (W : World) (x : MsgR), Below q w W → x.v = m.v → MsgOwn W 0 x → Calls Try.prog 9 #[x.agg, .agg #[.int .i64 m.v.kd, .int .i64 m.v.frm, .int .i64 m.v.dst, .int .i64 m.v.tm, .int .i64 m.v.ix, .int .i64 m.v.lt, .int .i64 m.v.cm, .int .i64 m.v.rd, .bool m.v.ok, .bool m.v.dn, .slice m.eo m.en m.ec, .slice m.mo m.mn m.mc, .int .i64 m.v.off, .slice m.po m.pn m.pc]] W fun e w' => e = .returned (.bool true) ∧ Below W.heap.size W w') := Lib.hid (fun W x h hx ho => rsameMsg_yes (ho.at_ (by rw [hx]; exact HOk.out)) (HI.out W h).at_ hx (by rw [hx]; exact HOk.out) (by rw [hx]; exact hsm))
  have HChg : Hid (∀ (i : Nat) (c c' : UInt8), s.data.toList[i]? = some c → c' ≠ c → (getMsgV (s.data.toList.set i c')).2 ≠ 0) := Lib.hid (fun i c c' h1 h2 => by
    rw [hsl] at h1 ⊢
    have hi := (List.getElem?_eq_some_iff.1 h1).1
    exact getMsg_changed m.v i c' hi (by rw [List.getElem?_eq_getElem hi] at h1; injection h1 with h1; rw [h1]; exact h2))
  have hs5 : 5 ≤ s.size := by omega
  have hsmx : s.size ≤ 20400010 := by omega
  clear hsm hlen hlen5 hs hsl hsz hg
  obtain ⟨y0, y1, y2, y3, y4, y5, y6, y7, y8, y9, y10, y11, y12, y13⟩ := msgCells HS2.out.blk
  go_wp2_with fail
  refine (HPut.out w2 HS2.out.bel).mono ?_
  rintro e w3 ⟨rfl, hb3⟩
  have HS3 := Lib.hid (HS2.out.calm hb3)
  clear hb3 HS2 y0 y1 y2 y3 y4 y5 y6 y7 y8 y9 y10 y11 y12 y13
  go_wp2_with fail
  refine (HGet.out w3).mono ?_
  rintro e w4 ⟨x, rfl, hxv, hxo, hb4⟩
  have HS4 : Hid (MB w q m (w4.alloc (.cells #[.int .i64 x.v.kd, .int .i64 x.v.frm, .int .i64 x.v.dst, .int .i64 x.v.tm, .int .i64 x.v.ix, .int .i64 x.v.lt, .int .i64 x.v.cm, .int .i64 x.v.rd, .bool x.v.ok, .bool x.v.dn, .slice x.eo x.en x.ec, .slice x.mo x.mn x.mc, .int .i64 x.v.off, .slice x.po x.pn x.pc] 26))) := Lib.hid ((HS3.out.calm hb4).calm ((Below.refl _ _).alloc (Nat.le_refl _) _))
  have HXv := Lib.hid hxv
  have HXo := Lib.hid ((hxo.low (Nat.zero_le _)).below ((Below.refl w4.heap.size w4).alloc (Nat.le_refl _) (.cells #[.int .i64 x.v.kd, .int .i64 x.v.frm, .int .i64 x.v.dst, .int .i64 x.v.tm, .int .i64 x.v.ix, .int .i64 x.v.lt, .int .i64 x.v.cm, .int .i64 x.v.rd, .bool x.v.ok, .bool x.v.dn, .slice x.eo x.en x.ec, .slice x.mo x.mn x.mc, .int .i64 x.v.off, .slice x.po x.pn x.pc] 26)))
  have HXk : Hid ((w4.alloc (.cells #[.int .i64 x.v.kd, .int .i64 x.v.frm, .int .i64 x.v.dst, .int .i64 x.v.tm, .int .i64 x.v.ix, .int .i64 x.v.lt, .int .i64 x.v.cm, .int .i64 x.v.rd, .bool x.v.ok, .bool x.v.dn, .slice x.eo x.en x.ec, .slice x.mo x.mn x.mc, .int .i64 x.v.off, .slice x.po x.pn x.pc] 26)).heap[w4.heap.size]? = some (.cells #[.int .i64 x.v.kd, .int .i64 x.v.frm, .int .i64 x.v.dst, .int .i64 x.v.tm, .int .i64 x.v.ix, .int .i64 x.v.lt, .int .i64 x.v.cm, .int .i64 x.v.rd, .bool x.v.ok, .bool x.v.dn, .slice x.eo x.en x.ec, .slice x.mo x.mn x.mc, .int .i64 x.v.off, .slice x.po x.pn x.pc] 26 (0, 0))) := Lib.hid (heap_alloc_new w4 _)
  obtain ⟨y0, y1, y2, y3, y4, y5, y6, y7, y8, y9, y10, y11, y12, y13⟩ := msgCells HS4.out.blk
  clear hb4 hxv hxo HS3
  unfold MsgR.agg
  go_wp2_with fail
  refine (HVal.out _ HS4.out.bel).mono ?_
  rintro e w5 ⟨rfl, hb5⟩
  have HS5 := Lib.hid (HS4.out.calm hb5)
  have HXk5 : Hid (w5.heap[w4.heap.size]? = some (.cells #[.int .i64 x.v.kd, .int .i64 x.v.frm, .int .i64 x.v.dst, .int .i64 x.v.tm, .int .i64 x.v.ix, .int .i64 x.v.lt, .int .i64 x.v.cm, .int .i64 x.v.rd, .bool x.v.ok, .bool x.v.dn, .slice x.eo x.en x.ec, .slice x.mo x.mn x.mc, .int .i64 x.v.off, .slice x.po x.pn x.pc] 26 (0, 0))) := Lib.hid ((hb5.block _ (blk_lt HXk.out)).trans HXk.out)
  have HXo5 := Lib.hid (HXo.out.below hb5)
  clear hb5 y0 y1 y2 y3 y4 y5 y6 y7 y8 y9 y10 y11 y12 y13 HS4 HXk HXo
  obtain ⟨y0, y1, y2, y3, y4, y5, y6, y7, y8, y9, y10, y11, y12, y13⟩ := msgCells HS5.out.blk
  obtain ⟨x0, x1, x2, x3, x4, x5, x6, x7, x8, x9, x10, x11, x12, x13⟩ := msgCells HXk5.out
  have hs5d : decide (s.size < 5) = false := by simp; omega
  have hs5d' : decide ((s.size : Int) < 5) = false := by simp; omega
  go_upto_region 7 with fail
  go_cut [45] (fun c W => c = .bool false ∧ Hid (MB w q m W))
  case first =>
    by_cases hg0 : g = 0
    · subst hg0
      have HSc := Lib.hid (HSame.out w5 x HS5.out.bel (HXv.out rfl) HXo5.out)
      unfold MsgR.agg at HSc
      go_wp2_with fail
      refine HSc.out.mono ?_
      rintro e w6 ⟨rfl, hb6⟩
      have HS6 := Lib.hid (HS5.out.calm hb6)
      clear hb6
      go_wp2_with fail
      go_meet
      exact ⟨rfl, HS6⟩
    · have hgd : (g == 0) = false := by simpa using hg0
      go_wp2_with fail
      go_meet
      exact ⟨rfl, HS5⟩
  case rest =>
    rename World => w6
    obtain ⟨rfl, HS6⟩ := hcut
    clear HSame HVal HPut HXv HXo5 HXk5 HS5 y0 y1 y2 y3 y4 y5 y6 y7 y8 y9 y10 y11 y12 y13 x0 x1 x2 x3 x4 x5 x6 x7 x8 x9 x10 x11 x12 x13
    by_cases hby0 : by_ % 256 = 0
    · have hbd : (by_ % 256 == 0) = true := by simpa using hby0
      go_wp2_with fail
      refine (aliveM_any _).mono ?_
      rintro e w7 ⟨rfl, hb7⟩
      have HS7 := Lib.hid (HS6.out.calm hb7)
      go_wp2_with fail
      go_ret
      exact ⟨rfl, by rw [HQ.out]; exact HS7.out.bel⟩
    have hbd : (by_ % 256 == 0) = false := by simpa using hby0
    have hkn : A % s.size < s.size := Nat.mod_lt _ (by omega)
    obtain ⟨ROW, cap, c, c', hcv, hcge, hck, hcc, hx, hc1, hf1, hst⟩ := bytes_conv w6 s (A % s.size) hkn (by omega) by_ hby0
    have HG2 : Hid (∀ W, Calls Try.prog 7 #[.string ⟨(s.data.toList.set (A % s.size) c').toArray⟩] W fun e w' => ∃ (y : MsgR) (f : Int), e = .returned (.tuple #[y.agg, .int .i64 f]) ∧ f ≠ 0 ∧ Below W.heap.size W w') := Lib.hid (fun W => by
      refine (mget_any ⟨(s.data.toList.set (A % s.size) c').toArray⟩ W (by show (s.data.toList.set (A % s.size) c').toArray.size ≤ _; rw [List.size_toArray, List.length_set]; show s.size ≤ _; omega)).mono ?_
      rw [bytes_mk]
      rintro e w' ⟨y, rfl, -, -, hb⟩
      exact ⟨y, _, rfl, HChg.out _ _ _ hck hcc, hb⟩)
    have HB8 : Hid (Below w6.heap.size w6 ((w6.alloc (.cells ROW 5 (ROW.size, ROW.size + 1))).setCell ⟨w6.heap.size, A % s.size, none⟩ (.int .u8 (c'.toNat : Int)))) := Lib.hid (((Below.refl _ w6).alloc (Nat.le_refl _) _).setCell (Nat.le_refl _) _)
    obtain ⟨T, hT⟩ : ∃ T : ByteArray, T = ⟨(s.data.toList.set (A % s.size) c').toArray⟩ := ⟨_, rfl⟩
    rw [← hT] at HG2 hst
    have HSt := Lib.hid hst
    have hst1 := hst ((w6.alloc (.cells ROW 5 (ROW.size, ROW.size + 1))).setCell ⟨w6.heap.size, A % s.size, none⟩ (.int .u8 (c'.toNat : Int))) rfl
    have hst2 := hst ((w6.alloc (.cells ROW 5 (ROW.size, ROW.size + 1))).setCell ⟨w6.heap.size, A % s.size, none⟩ (.int .u8 (c'.toNat : Int))).drew rfl
    have hx3 : 0 < s.size := by omega
    clear hck hcc hT HChg hst
    go_wp2_with fail
    have HB9 : Hid (Below w6.heap.size w6 (((w6.alloc (.cells ROW 5 (ROW.size, ROW.size + 1))).setCell ⟨w6.heap.size, A % s.size, none⟩ (.int .u8 (c'.toNat : Int))).drew)) := Lib.hid HB8.out.drew
    have hz9 : w6.heap.size ≤ (((w6.alloc (.cells ROW 5 (ROW.size, ROW.size + 1))).setCell ⟨w6.heap.size, A % s.size, none⟩ (.int .u8 (c'.toNat : Int))).drew).heap.size := HB9.out.size
    refine (HG2.out _).mono ?_
    rintro e w9 ⟨y, f, rfl, hf0, hb9⟩
    have HS9 := Lib.hid (HS6.out.calm (HB9.out.trans (hb9.mono hz9)))
    have hfd : (f != 0) = true := by simpa using hf0
    have HS10 : Hid (MB w q m (w9.alloc (.cells #[.int .i64 y.v.kd, .int .i64 y.v.frm, .int .i64 y.v.dst, .int .i64 y.v.tm, .int .i64 y.v.ix, .int .i64 y.v.lt, .int .i64 y.v.cm, .int .i64 y.v.rd, .bool y.v.ok, .bool y.v.dn, .slice y.eo y.en y.ec, .slice y.mo y.mn y.mc, .int .i64 y.v.off, .slice y.po y.pn y.pc] 26))) := Lib.hid (HS9.out.calm ((Below.refl _ _).alloc (Nat.le_refl _) _))
    clear hb9 hz9 HB9 HB8 hc1 hf1 hst1 hst2 hcv hx
    unfold MsgR.agg
    go_wp2_with fail
    refine (aliveM_any _).mono ?_
    rintro e w11 ⟨rfl, hb11⟩
    have HS11 := Lib.hid (HS10.out.calm hb11)
    clear hb11
    go_wp2_with fail
    go_ret
    exact ⟨rfl, by rw [HQ.out]; exact HS11.out.bel⟩
end Go.Proofs.Ytmdidmllaldbaaa
