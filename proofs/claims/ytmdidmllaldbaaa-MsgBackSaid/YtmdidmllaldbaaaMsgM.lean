/- A message in memory: its fields, and the lists in it; how it is carried from world to world; and as an argument that came in. -/
import Derived.Test.YtmdidmllaldbaaaMsgP
import Derived.Test.YtmdidmllaldbaaaViewE
import Derived.Test.YtmdidmllaldbaaaViewI
import Derived.Test.YtmdidmllaldbaaaViewP
import Derived.Test.YtmdidmllaldbaaaViewS
import Derived.Test.YtmdidmllaldbaaaEntM
namespace Go.Proofs.Ytmdidmllaldbaaa
open Go.ChangeShapes Go.WideShapes Go.ChangeAt Go.RowKit Go.Deep
set_option linter.unusedVariables false
/-- A message with its lists' places. -/
structure MsgR where
  v : MsgV
  eo : Option Addr
  en : Nat
  ec : Nat
  mo : Option Addr
  mn : Nat
  mc : Nat
  po : Option Addr
  pn : Nat
  pc : Nat
def MsgR.cells (m : MsgR) : List Value := [.int .i64 m.v.kd, .int .i64 m.v.frm, .int .i64 m.v.dst, .int .i64 m.v.tm, .int .i64 m.v.ix, .int .i64 m.v.lt, .int .i64 m.v.cm, .int .i64 m.v.rd, .bool m.v.ok, .bool m.v.dn, .slice m.eo m.en m.ec, .slice m.mo m.mn m.mc, .int .i64 m.v.off, .slice m.po m.pn m.pc]
def MsgR.agg (m : MsgR) : Value := .agg #[.int .i64 m.v.kd, .int .i64 m.v.frm, .int .i64 m.v.dst, .int .i64 m.v.tm, .int .i64 m.v.ix, .int .i64 m.v.lt, .int .i64 m.v.cm, .int .i64 m.v.rd, .bool m.v.ok, .bool m.v.dn, .slice m.eo m.en m.ec, .slice m.mo m.mn m.mc, .int .i64 m.v.off, .slice m.po m.pn m.pc]
/-- The lists of a message can be read. -/
structure MsgAt (W : World) (m : MsgR) : Prop where
  es : Ents W W.heap.size m.eo m.en m.v.es
  ms : IntsOf W m.mo m.mn m.v.ms
  ps : Pars W W.heap.size m.po m.pn m.v.ps
  ec : m.en ≤ m.ec ∧ m.ec ≤ 9223372036854775807
  mc : m.mn ≤ m.mc ∧ m.mc ≤ 9223372036854775807
  pc : m.pn ≤ m.pc ∧ m.pc ≤ 9223372036854775807
theorem MsgAt.below {w W : World} {m : MsgR} (h : MsgAt w m) (hb : Below w.heap.size w W) : MsgAt W m :=
  ⟨(h.es.below hb).mono hb.size, h.ms.below hb, (h.ps.below hb).mono hb.size, h.ec, h.mc, h.pc⟩
/-- A message's lists are few and short. -/
structure MsgSm (m : MsgV) : Prop where
  el : m.es.length ≤ 1000
  ed : (m.es.map (·.dt.size)).sum ≤ 10000000
  ml : m.ms.length ≤ 1000
  pl : m.ps.length ≤ 1000
  pd : (m.ps.map (fun p => p.key.size + p.vl.size)).sum ≤ 10000000
/-- A message that came in. -/
structure MsgIn (w : World) (m : MsgR) : Prop where
  es : EntsIn w m.eo m.en m.ec m.v.es
  ms : IntsIn w m.mo m.mn m.mc m.v.ms
  ps : ParsIn w m.po m.pn m.pc m.v.ps
  i1 : I64 m.v.kd
  i2 : I64 m.v.frm
  i3 : I64 m.v.dst
  i4 : I64 m.v.tm
  i5 : I64 m.v.ix
  i6 : I64 m.v.lt
  i7 : I64 m.v.cm
  i8 : I64 m.v.rd
  i9 : I64 m.v.off
theorem MsgIn.at_ {w : World} {m : MsgR} (h : MsgIn w m) : MsgAt w m :=
  ⟨h.es.ents, h.ms.of, h.ps.pars, ⟨h.es.le, by have := h.es.sz; omega⟩, ⟨h.ms.le, by have := h.ms.sz; omega⟩, ⟨h.ps.le, by have := h.ps.sz; omega⟩⟩
theorem MsgIn.ok {w : World} {m : MsgR} (h : MsgIn w m) : MsgOk m.v := by
  have e1 := h.es.ents.1
  have e2 := h.es.le
  have e3 := h.es.sz
  have m1 := h.ms.len
  have m2 := h.ms.le
  have m3 := h.ms.sz
  have p1 := h.ps.pars.1
  have p2 := h.ps.le
  have p3 := h.ps.sz
  exact ⟨h.i1, h.i2, h.i3, h.i4, h.i5, h.i6, h.i7, h.i8, h.i9, ⟨h.es.ok, by omega⟩, ⟨h.ms.ok, by omega⟩, ⟨h.ps.ok, by omega⟩⟩
theorem i64_wfM {n : Int} (h : (Lit.int .i64 n).wf = true) : I64 n := by
  unfold I64
  simpa [Lit.wf, IntKind.min, IntKind.max, IntKind.bits, IntKind.signed] using h
theorem sized_inner {P : Program} {H : Type} {ts : List TypeId} {ds : List (DataW H)} (h : (DataW.weightsEach P ts ds).all (· ≤ reachBytes) = true) {j : Nat} {t : TypeId} {fs : Array Field} {parts : List (DataW H)} (ht : ts[j]? = some t) (hd : ds[j]? = some (.agg parts)) (he : P.underlying t = some (.struct fs)) :
    (DataW.weightsEach P (fs.toList.map (·.type)) parts).all (· ≤ reachBytes) = true := by
  rw [List.all_eq_true]
  intro q hq
  exact List.all_eq_true.1 h q (DataW.weights_mem_each ht hd _ (by rw [DataW.weights, he]; exact hq))
section
variable {H : Type} {enc : TypeId × Value → H} {w : World}
set_option maxRecDepth 20000 in
set_option maxHeartbeats 2000000 in
theorem view_msg {r : Reach} {b0 : Nat} {v : Value} {d : DataW H} {p : List MemPlace}
    {ts : List TypeId} {ds : List (DataW H)} (hsz : (DataW.weightsEach Try.prog ts ds).all (· ≤ reachBytes) = true) {j : Nat} (hj1 : ts[j]? = some 26) (hj2 : ds[j]? = some d)
    (hv : Value.okWide Try.prog w r b0 26 v) (h : DataW.Trod enc Try.prog w 0 (fun _ => true) true 26 v d p) : ∃ m : MsgR, v = m.agg ∧ MsgIn w m := by
  obtain ⟨f0, f1, f2, f3, f4, f5, f6, f7, f8, f9, f10, f11, f12, f13, hu, hone, u0, u1, u2, u3, u4, u5, u6, u7, u8, u9, u10, u11, u12, u13⟩ : ∃ f0 f1 f2 f3 f4 f5 f6 f7 f8 f9 f10 f11 f12 f13 : Field, Try.prog.underlying 26 = some (.struct #[f0, f1, f2, f3, f4, f5, f6, f7, f8, f9, f10, f11, f12, f13]) ∧ oneCellFields Try.prog #[f0, f1, f2, f3, f4, f5, f6, f7, f8, f9, f10, f11, f12, f13] = true ∧ Try.prog.underlying f0.type = some (.int .i64) ∧ Try.prog.underlying f1.type = some (.int .i64) ∧ Try.prog.underlying f2.type = some (.int .i64) ∧ Try.prog.underlying f3.type = some (.int .i64) ∧ Try.prog.underlying f4.type = some (.int .i64) ∧ Try.prog.underlying f5.type = some (.int .i64) ∧ Try.prog.underlying f6.type = some (.int .i64) ∧ Try.prog.underlying f7.type = some (.int .i64) ∧ Try.prog.underlying f8.type = some .bool ∧ Try.prog.underlying f9.type = some .bool ∧ f10.type = 22 ∧ f11.type = 23 ∧ Try.prog.underlying f12.type = some (.int .i64) ∧ f13.type = 24 :=
    ⟨_, _, _, _, _, _, _, _, _, _, _, _, _, _, Try.underlying26, by kernel_rfl, by kernel_rfl, by kernel_rfl, by kernel_rfl, by kernel_rfl, by kernel_rfl, by kernel_rfl, by kernel_rfl, by kernel_rfl, by kernel_rfl, by kernel_rfl, by kernel_rfl, by kernel_rfl, by kernel_rfl, by kernel_rfl⟩
  obtain ⟨cs, ys, n, rfl, hl, hd, hyl, hfs⟩ := open_struct hu hone (by kernel_rfl) hv h
  subst hd
  obtain ⟨v0, y0, c0, s0, t0⟩ := hfs 0 f0 rfl
  obtain ⟨v1, y1, c1, s1, t1⟩ := hfs 1 f1 rfl
  obtain ⟨v2, y2, c2, s2, t2⟩ := hfs 2 f2 rfl
  obtain ⟨v3, y3, c3, s3, t3⟩ := hfs 3 f3 rfl
  obtain ⟨v4, y4, c4, s4, t4⟩ := hfs 4 f4 rfl
  obtain ⟨v5, y5, c5, s5, t5⟩ := hfs 5 f5 rfl
  obtain ⟨v6, y6, c6, s6, t6⟩ := hfs 6 f6 rfl
  obtain ⟨v7, y7, c7, s7, t7⟩ := hfs 7 f7 rfl
  obtain ⟨v8, y8, c8, s8, t8⟩ := hfs 8 f8 rfl
  obtain ⟨v9, y9, c9, s9, t9⟩ := hfs 9 f9 rfl
  obtain ⟨v10, y10, c10, s10, t10⟩ := hfs 10 f10 rfl
  obtain ⟨v11, y11, c11, s11, t11⟩ := hfs 11 f11 rfl
  obtain ⟨v12, y12, c12, s12, t12⟩ := hfs 12 f12 rfl
  obtain ⟨v13, y13, c13, s13, t13⟩ := hfs 13 f13 rfl
  obtain ⟨n0, e0, x0, w0⟩ := DataW.trod_int u0 t0
  obtain ⟨n1, e1, x1, w1⟩ := DataW.trod_int u1 t1
  obtain ⟨n2, e2, x2, w2⟩ := DataW.trod_int u2 t2
  obtain ⟨n3, e3, x3, w3⟩ := DataW.trod_int u3 t3
  obtain ⟨n4, e4, x4, w4⟩ := DataW.trod_int u4 t4
  obtain ⟨n5, e5, x5, w5⟩ := DataW.trod_int u5 t5
  obtain ⟨n6, e6, x6, w6⟩ := DataW.trod_int u6 t6
  obtain ⟨n7, e7, x7, w7⟩ := DataW.trod_int u7 t7
  obtain ⟨n8, e8, x8⟩ := DataW.trod_bool u8 t8
  obtain ⟨n9, e9, x9⟩ := DataW.trod_bool u9 t9
  obtain ⟨n12, e12, x12, w12⟩ := DataW.trod_int u12 t12
  obtain rfl : v0 = .int .i64 n0 := by simpa using e0
  obtain rfl : v1 = .int .i64 n1 := by simpa using e1
  obtain rfl : v2 = .int .i64 n2 := by simpa using e2
  obtain rfl : v3 = .int .i64 n3 := by simpa using e3
  obtain rfl : v4 = .int .i64 n4 := by simpa using e4
  obtain rfl : v5 = .int .i64 n5 := by simpa using e5
  obtain rfl : v6 = .int .i64 n6 := by simpa using e6
  obtain rfl : v7 = .int .i64 n7 := by simpa using e7
  obtain rfl : v8 = .bool n8 := by simpa using e8
  obtain rfl : v9 = .bool n9 := by simpa using e9
  obtain rfl : v12 = .int .i64 n12 := by simpa using e12
  rw [u10] at t10
  rw [u11] at t11
  rw [u13] at t13
  have sl : ∀ {x : Value} {ao : Option Addr} {n c : Nat}, [x] = [Value.slice ao n c] → x = .slice ao n c := fun h => by simpa using h
  have op : ∀ {t e : TypeId} {x : Value} {d : DataW H} {p : List MemPlace} {fu : Nat}, Try.prog.underlying t = some (.slice e) → DataW.trod enc Try.prog w 0 (fun _ => true) true fu t [x] = some (d, p) → ∃ ao n c, x = .slice ao n c := by
    intro t e x d p fu ht h
    rcases open_slice ht h with ⟨h0, _⟩ | ⟨a', len', cap', m', n', D', Pl', hcs', _⟩
    · exact ⟨none, 0, 0, sl h0⟩
    · exact ⟨some a', len', cap', sl hcs'⟩
  obtain ⟨eo, en, ec, rfl⟩ := op Try.underlying22 t10
  obtain ⟨mo, mn, mc, rfl⟩ := op Try.underlying23 t11
  obtain ⟨po, pn, pc, rfl⟩ := op Try.underlying24 t13
  have hin := sized_inner hsz hj1 hj2 hu
  obtain ⟨es, hes⟩ := view_entries (enc := enc) (w := w) (d := y10.1) (p := y10.2) hin (j := 10) (by simp [u10]) (by rw [List.getElem?_map, s10]; rfl) ⟨n, by simpa [Value.cells] using t10⟩
  obtain ⟨ms, hms⟩ := view_ints (enc := enc) (w := w) (d := y11.1) (p := y11.2) hin (j := 11) (by simp [u11]) (by rw [List.getElem?_map, s11]; rfl) ⟨n, by simpa [Value.cells] using t11⟩
  obtain ⟨ps, hps⟩ := view_pairs (enc := enc) (w := w) (d := y13.1) (p := y13.2) hin (j := 13) (by simp [u13]) (by rw [List.getElem?_map, s13]; rfl) ⟨n, by simpa [Value.cells] using t13⟩
  have hcs : cs = [.int .i64 n0, .int .i64 n1, .int .i64 n2, .int .i64 n3, .int .i64 n4, .int .i64 n5, .int .i64 n6, .int .i64 n7, .bool n8, .bool n9, .slice eo en ec, .slice mo mn mc, .int .i64 n12, .slice po pn pc] := by
    apply List.ext_getElem?
    intro i
    rcases i with _ | _ | _ | _ | _ | _ | _ | _ | _ | _ | _ | _ | _ | _ | i
    · exact c0
    · exact c1
    · exact c2
    · exact c3
    · exact c4
    · exact c5
    · exact c6
    · exact c7
    · exact c8
    · exact c9
    · exact c10
    · exact c11
    · exact c12
    · exact c13
    · rw [List.getElem?_eq_none (by rw [hl]; show 14 ≤ _; omega), List.getElem?_eq_none (by simp)]
  exact ⟨⟨⟨n0, n1, n2, n3, n4, n5, n6, n7, n8, n9, es, ms, n12, ps⟩, eo, en, ec, mo, mn, mc, po, pn, pc⟩, by rw [hcs]; rfl, hes, hms, hps, i64_wfM w0, i64_wfM w1, i64_wfM w2, i64_wfM w3, i64_wfM w4, i64_wfM w5, i64_wfM w6, i64_wfM w7, i64_wfM w12⟩
end
end Go.Proofs.Ytmdidmllaldbaaa
