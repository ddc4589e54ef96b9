/- The log law's steps that came in, opened: structs with a slice of entries in them; what Light tells. -/
import Derived.Test.YtmdidmllaldbaaaGreatViewE
import Derived.Test.YtmdidmllaldbaaaGreatSmallE
import Derived.Test.YtmdidmllaldbaaaGreatRefLogA
import Derived.Test.YtmdidmllaldbaaaGreatRefLogF
import Derived.Test.YtmdidmllaldbaaaGreatBsEI
import Derived.Test.YtmdidmllaldbaaaGreatBsPend
import Derived.Test.YtmdidmllaldbaaaGreatLogB
import Derived.Test.YtmdidmllaldbaaaGreatLentE
import Derived.Laws.StructEq
import Derived.Deep.RegionHeld3
import Derived.Deep.DeepCutAuto
import Derived.Test.YtmdidmllaldbaaaGreatMembers
import Derived.Test.YtmdidmllaldbaaaGreatSame
namespace Go.Proofs.YtmdidmllaldbaaaGreat
/-! ### The log law's steps that came in, opened: structs with a slice of entries in them; what Light tells. -/
section
open Go.ChangeShapes Go.WideShapes Go.ChangeAt Go.RowKit Go.Deep
set_option linter.unusedVariables false
structure OpV where
  kd : Int
  a : Int
  b : Int
  c : Int
  s : ByteArray
  ao : Option Addr
  n : Nat
  cp : Nat
  es : List Ent
def OpV.cells (o : OpV) : List Value := [.int .i64 o.kd, .int .i64 o.a, .int .i64 o.b, .int .i64 o.c, .string o.s, .slice o.ao o.n o.cp]
def OpOk (w : World) (o : OpV) : Prop := (-9223372036854775808 ≤ o.a ∧ o.a ≤ 9223372036854775807) ∧ (-9223372036854775808 ≤ o.b ∧ o.b ≤ 9223372036854775807) ∧ (-9223372036854775808 ≤ o.c ∧ o.c ≤ 9223372036854775807) ∧ o.s.size ≤ 140737488351232 ∧ EntsIn w o.ao o.n o.cp o.es
/-- A slice of steps that came in. -/
structure LopsIn (w : World) (ao : Option Addr) (n c : Nat) (l : List OpV) : Prop where
  len : l.length = n
  row : 0 < n → ∃ b o, ao = some ⟨b, o, none⟩ ∧ b < w.heap.size ∧ ∀ k e, l[k]? = some e → ∀ r u, e.cells[r]? = some u → w.cell? ⟨b, o + k * 6 + r, none⟩ = some u
  le : n ≤ c
  sz : c * 72 ≤ 140737488351232
  ok : ∀ e ∈ l, OpOk w e
theorem lop_fields : ∃ f0 f1 f2 f3 f4 f5 : Field, Tryz.prog.underlying 98 = some (.struct #[f0, f1, f2, f3, f4, f5]) ∧ oneCellFields Tryz.prog #[f0, f1, f2, f3, f4, f5] = true ∧ Tryz.prog.underlying f0.type = some (.int .i64) ∧ Tryz.prog.underlying f1.type = some (.int .i64) ∧ Tryz.prog.underlying f2.type = some (.int .i64) ∧ Tryz.prog.underlying f3.type = some (.int .i64) ∧ Tryz.prog.underlying f4.type = some .string ∧ f5.type = 22 :=
  ⟨_, _, _, _, _, _, Tryz.underlying98, by kernel_rfl, by kernel_rfl, by kernel_rfl, by kernel_rfl, by kernel_rfl, by kernel_rfl, by kernel_rfl⟩
section
variable {H : Type} {enc : TypeId × Value → H} {w : World}
theorem cells_of_slice {ao : Option Addr} {n c : Nat} {v : Value} (h : [v] = [Value.slice ao n c]) : v = .slice ao n c := by simpa using h
set_option maxRecDepth 20000 in
set_option maxHeartbeats 1000000 in
theorem view_lops18 {ao : Option Addr} {n c : Nat} {d : DataW H} {p : List MemPlace}
    {ts : List TypeId} {ds : List (DataW H)} (hsz : (DataW.weightsEach Tryz.prog ts ds).all (· ≤ reachBytes) = true) {j : Nat} (hj1 : ts[j]? = some 85) (hj2 : ds[j]? = some d)
    (h : DataW.Trod enc Tryz.prog w 0 (fun _ => true) true 85 (.slice ao n c) d p) : ∃ l, LopsIn w ao n c l := by
  obtain ⟨f0, f1, f2, f3, f4, f5, hu, hone, u0, u1, u2, u3, u4, u5⟩ := lop_fields
  obtain ⟨fuel, hf⟩ := h
  have hr : reachBytes = 140737488351232 := by decide
  rcases open_structs Tryz.underlying85 hu hone (by kernel_rfl) hf with hcs | ⟨a, len, cap, m, D, hcs, hl, hm, hx, hel⟩
  · have hcs' : Value.slice ao n c = .slice none 0 0 := by simpa [Value.cells] using hcs
    injection hcs' with e1 e2 e3
    subst e1; subst e2; subst e3
    exact ⟨[], rfl, fun h => by omega, by omega, by omega, by simp⟩
  · have hcs' : Value.slice ao n c = .slice (some a) len cap := by simpa [Value.cells] using hcs
    injection hcs' with e1 e2 e3
    subst e1; subst e2; subst e3
    have hm' : m = c := by simpa using hm
    subst hm'
    have hd : d = .slice ((List.range n).map D) ((List.range (m - n)).map fun j => D (n + j)) := hx
    subst hd
    have hw := sized_slice hsz hj1 hj2 Tryz.underlying85
    rw [show Tryz.prog.bytesOf 98 = 72 from by kernel_rfl] at hw
    simp only [List.length_map, List.length_range] at hw
    have each : ∀ i, i < n → ∃ e : OpV, (∀ r u, e.cells[r]? = some u → w.cell? (a.add (i * 6 + r)) = some u) ∧ OpOk w e := by
      intro i hi
      obtain ⟨ys, k, hD, hyl, hfs⟩ := hel i (by omega)
      obtain ⟨v0, y0, c0, s0, t0⟩ := hfs 0 f0 rfl
      obtain ⟨v1, y1, c1, s1, t1⟩ := hfs 1 f1 rfl
      obtain ⟨v2, y2, c2, s2, t2⟩ := hfs 2 f2 rfl
      obtain ⟨v3, y3, c3, s3, t3⟩ := hfs 3 f3 rfl
      obtain ⟨v4, y4, c4, s4, t4⟩ := hfs 4 f4 rfl
      obtain ⟨v5, y5, c5, s5, t5⟩ := hfs 5 f5 rfl
      obtain ⟨n0, e0, x0, w0⟩ := DataW.trod_int u0 t0
      obtain ⟨n1, e1, x1, w1⟩ := DataW.trod_int u1 t1
      obtain ⟨n2, e2, x2, w2⟩ := DataW.trod_int u2 t2
      obtain ⟨n3, e3, x3, w3⟩ := DataW.trod_int u3 t3
      obtain ⟨n4, e4, x4, w4⟩ := DataW.trod_string u4 t4
      obtain rfl : v0 = .int .i64 n0 := by simpa using e0
      obtain rfl : v1 = .int .i64 n1 := by simpa using e1
      obtain rfl : v2 = .int .i64 n2 := by simpa using e2
      obtain rfl : v3 = .int .i64 n3 := by simpa using e3
      obtain rfl : v4 = .string n4 := by simpa using e4
      rw [u5] at t5
      have hagg : (DataW.agg (ys.map (·.1)) : DataW H) ∈ (List.range n).map D := by rw [← hD]; exact List.mem_map.2 ⟨i, by simpa using hi, rfl⟩
      have hin : (DataW.weightsEach Tryz.prog (#[f0, f1, f2, f3, f4, f5].toList.map (·.type)) (ys.map (·.1))).all (· ≤ reachBytes) = true := by
        rw [List.all_eq_true]
        intro q hq
        have := sized_elem hsz hj1 hj2 Tryz.underlying85 hagg q (by rw [DataW.weights, hu]; exact hq)
        simpa using this
      obtain ⟨ao5, n5, cp5, hv5⟩ : ∃ ao5 n5 cp5, v5 = .slice ao5 n5 cp5 := by
        rcases open_slice Tryz.underlying22 t5 with ⟨h0, _⟩ | ⟨a', len', cap', m', n', D', Pl', hcs', _⟩
        · exact ⟨none, 0, 0, cells_of_slice h0⟩
        · exact ⟨some a', len', cap', cells_of_slice hcs'⟩
      subst hv5
      obtain ⟨es, hes⟩ := view_entries (enc := enc) (w := w) (d := y5.1) (p := y5.2) hin (j := 5) (by simp [u5]) (by rw [List.getElem?_map, s5]; rfl) ⟨k, by simpa [Value.cells] using t5⟩
      refine ⟨⟨n0, n1, n2, n3, n4, ao5, n5, cp5, es⟩, ?_, i64_wf w1, i64_wf w2, i64_wf w3, ?_, hes⟩
      · intro r u hu'
        rcases r with _ | _ | _ | _ | _ | _ | r
        · obtain rfl : Value.int .i64 n0 = u := by simpa [OpV.cells] using hu'
          exact c0
        · obtain rfl : Value.int .i64 n1 = u := by simpa [OpV.cells] using hu'
          exact c1
        · obtain rfl : Value.int .i64 n2 = u := by simpa [OpV.cells] using hu'
          exact c2
        · obtain rfl : Value.int .i64 n3 = u := by simpa [OpV.cells] using hu'
          exact c3
        · obtain rfl : Value.string n4 = u := by simpa [OpV.cells] using hu'
          exact c4
        · obtain rfl : Value.slice ao5 n5 cp5 = u := by simpa [OpV.cells] using hu'
          exact c5
        · simp [OpV.cells] at hu'
      · have := sized_field hsz hj1 hj2 Tryz.underlying85 hu (parts := ys.map (·.1)) hagg (k := 4) (f := f4) (bytes := n4.data.toList) rfl (by rw [List.getElem?_map, s4, x4]; rfl)
        rw [hr] at this
        exact this
    haveI : Inhabited OpV := ⟨⟨0, 0, 0, 0, ⟨#[]⟩, none, 0, 0, []⟩⟩
    obtain ⟨E, hE⟩ := choose_lt (α := OpV) each
    refine ⟨(List.range n).map E, by simp, fun hn => ?_, hl, by omega, fun e he => ?_⟩
    · obtain ⟨b, o, rfl⟩ := addr_plain (show w.cell? (a.add 0) = _ from by simpa using (hE 0 hn).1 0 _ rfl)
      refine ⟨b, o, rfl, ?_, fun k e hk r u hu' => ?_⟩
      · have := cell_lt ((hE 0 hn).1 0 _ rfl); simpa [Addr.add] using this
      · have hkn : k < n := by have := (List.getElem?_eq_some_iff.1 hk).1; simpa using this
        have hek : E k = e := by simpa [hkn] using hk
        subst hek
        have g := (hE k hkn).1 r u hu'
        have ad : (⟨b, o, none⟩ : Addr).add (k * 6 + r) = ⟨b, o + k * 6 + r, none⟩ := by
          unfold Addr.add; split
          · rename_i h0; have h0' : k * 6 + r = 0 := by simpa using h0
            rw [show o + k * 6 + r = o from by omega]
          · simp [Nat.add_assoc]
        rw [ad] at g
        exact g
    · obtain ⟨i, hi, rfl⟩ := List.mem_map.1 he
      exact (hE i (by simpa using hi)).2
end
end
/-! ### The walk of arboretumlaw18.Light. -/
section
open Go.RowKit
set_option linter.unusedVariables false
theorem EntsIn.carry {w W : World} {ao : Option Addr} {n c : Nat} {l : List Ent} (h : EntsIn w ao n c l) (hb : Below w.heap.size w W) : EntsIn W ao n c l :=
  ⟨(h.ents.below hb).mono hb.size, h.le, h.nil_, h.sz, h.ok⟩
theorem LopsIn.keep {w W : World} {ao : Option Addr} {n c : Nat} {l : List OpV} (h : LopsIn w ao n c l) (hb : Below w.heap.size w W) : LopsIn W ao n c l :=
  ⟨h.len, fun hn => by
    obtain ⟨b, o, ha, hB, hc⟩ := h.row hn
    exact ⟨b, o, ha, Nat.lt_of_lt_of_le hB hb.size, fun k e hk r u hu => (hb.cell (p := ⟨b, o + k * 6 + r, none⟩) hB).trans (hc k e hk r u hu)⟩, h.le, h.sz, fun e he => by
    obtain ⟨h1, h2, h3, h4, h5⟩ := h.ok e he
    exact ⟨h1, h2, h3, h4, h5.carry hb⟩⟩
theorem LopsIn.get {w : World} {ao : Option Addr} {n c : Nat} {l : List OpV} (h : LopsIn w ao n c l) {k : Nat} (hk : k < n) :
    ∃ b o e, ao = some ⟨b, o, none⟩ ∧ b < w.heap.size ∧ l[k]? = some e ∧ (w.cell? ⟨b, o + k * 6, none⟩ = some (.int .i64 e.kd) ∧ w.cell? ⟨b, o + k * 6 + 1, none⟩ = some (.int .i64 e.a) ∧ w.cell? ⟨b, o + k * 6 + 2, none⟩ = some (.int .i64 e.b) ∧ w.cell? ⟨b, o + k * 6 + 3, none⟩ = some (.int .i64 e.c) ∧ w.cell? ⟨b, o + k * 6 + 4, none⟩ = some (.string e.s) ∧ w.cell? ⟨b, o + k * 6 + 5, none⟩ = some (.slice e.ao e.n e.cp)) ∧ OpOk w e := by
  obtain ⟨b, o, ha, hB, hc⟩ := h.row (by omega)
  have hl : k < l.length := by rw [h.len]; exact hk
  have he := List.getElem?_eq_getElem hl
  have q := hc k _ he
  exact ⟨b, o, l[k], ha, hB, he, ⟨q 0 _ rfl, q 1 _ rfl, q 2 _ rfl, q 3 _ rfl, q 4 _ rfl, q 5 _ rfl⟩, h.ok _ (List.getElem_mem hl)⟩
def Light18 (e : OpV) : Prop := e.n ≤ 60 ∧ dataSum e.es ≤ 12000 ∧ e.s.size ≤ 300
set_option maxRecDepth 20000 in
set_option maxHeartbeats 2000000 in
theorem light18_any {ao : Option Addr} {n c : Nat} {l : List OpV} {w : World} (hE : LopsIn w ao n c l) :
    Calls Tryz.prog 53 #[.slice ao n c] w fun e w' => ∃ r : Bool, e = .returned (.bool r) ∧ (r = true → n ≤ 120 ∧ ∀ e ∈ l, Light18 e) ∧ Below w.heap.size w w' := by
  have HE := Lib.hid hE
  have hn : n ≤ 140737488351232 := by have := hE.sz; have := hE.le; omega
  have HLn := Lib.hid hE.len
  clear hE
  go_enter Tryz.func53, Tryz.ntmps53
  go_wp2_with fail
  go_loopw [3] (fun i wr => ∃ (k : Nat), k ≤ n ∧ i = .int .i64 k ∧ Hid (∀ j e, j < k → l[j]? = some e → Light18 e) ∧ Hid (Below w.heap.size w wr)) (fun i _ => n - (intOf i).toNat)
  case atStart => exact ⟨0, Nat.zero_le _, rfl, Lib.hid (fun j e h => by omega), Lib.hid (Below.refl _ _)⟩
  case round =>
    obtain ⟨k, hk, rfl, HL, HB⟩ := hrel
    by_cases hkn : k < n
    · have hd1 : decide (k < n) = true := by simpa using hkn
      have hd1' : decide ((k : Int) < (n : Int)) = true := by simp; omega
      by_cases h200 : k < 200
      · have hd2 : decide ((k : Int) < 200) = true := by simp; omega
        obtain ⟨b, o, e, rfl, hbB, hek, ⟨q0, q1, q2, q3, q4, q5⟩, hok⟩ := (HE.out.keep HB.out).get hkn
        have HEk := Lib.hid hek
        have HSm := Lib.hid (small_any hok.2.2.2.2)
        have hen : e.n ≤ 140737488351232 := by have := hok.2.2.2.2.sz; have := hok.2.2.2.2.le; omega
        have hes := hok.2.2.2.1
        have hx1 : (0 : Int) ≤ k := by omega
        have hx2 : (k : Int) < n := by omega
        have HC : Hid (∀ W, Below wr.heap.size wr W → W.cell? ⟨b, o + k * 6 + 4, none⟩ = some (.string e.s)) := Lib.hid (fun W hb => cell_later hb q4)
        clear hek hok q0 q1 q2 q3
        by_cases h60 : 60 < e.n
        · have hd3 : decide ((60 : Int) < (e.n : Int)) = true := by simp; omega
          have hd3' : decide (60 < e.n) = true := by simpa using h60
          go_wp2_with fail
          go_ret
          exact ⟨false, rfl, (fun h => by cases h), HB.out⟩
        · have hd3 : decide ((60 : Int) < (e.n : Int)) = false := by simp; omega
          have hd3' : decide (60 < e.n) = false := by simpa using h60
          go_wp2_with fail
          refine HSm.out.mono ?_
          rintro e1 w1 ⟨r, rfl, hr, hb1⟩
          have c4 := HC.out _ hb1
          have HB1 := Lib.hid (HB.out.trans (hb1.mono HB.out.size))
          clear hb1 HSm q4 q5
          cases r with
          | false =>
            clear hr
            go_wp2_with fail
            go_ret
            exact ⟨false, rfl, (fun h => by cases h), HB1.out⟩
          | true =>
            obtain ⟨_, hsum⟩ := hr rfl
            by_cases h300 : 300 < e.s.size
            · have hd4 : decide ((300 : Int) < (e.s.size : Int)) = true := by simp; omega
              have hd4' : decide (300 < e.s.size) = true := by simpa using h300
              go_wp2_with fail
              go_ret
              exact ⟨false, rfl, (fun h => by cases h), HB1.out⟩
            · have hd4 : decide ((300 : Int) < (e.s.size : Int)) = false := by simp; omega
              have hd4' : decide (300 < e.s.size) = false := by simpa using h300
              have HN : Hid (∀ j e, j < k + 1 → l[j]? = some e → Light18 e) := Lib.hid (fun j e' hj he' => by
                by_cases hjk : j < k
                · exact HL.out j e' hjk he'
                · obtain rfl : j = k := by omega
                  rw [HEk.out] at he'
                  injection he' with he'
                  subst he'
                  exact ⟨by omega, hsum, by omega⟩)
              clear hr hsum
              go_wp2_with fail
              go_roundw
              case rel => exact ⟨k + 1, by omega, by go_num, HN, HB1⟩
              case measure => simp [intOf] <;> omega
      · have hd2 : decide ((k : Int) < 200) = false := by simp; omega
        have hd5 : decide ((n : Int) ≤ 120) = false := by simp; omega
        have hd5' : decide (n ≤ 120) = false := by simp; omega
        go_wp2_with fail
        go_ret
        exact ⟨false, rfl, (fun h => by cases h), HB.out⟩
    · obtain rfl : k = n := by omega
      have hd1 : decide (k < k) = false := by simp
      have hd1' : decide ((k : Int) < (k : Int)) = false := by simp
      have HR : Hid (∀ e ∈ l, Light18 e) := Lib.hid (fun e he => by
        obtain ⟨j, hj⟩ := List.getElem?_of_mem he
        exact HL.out j e (by have := (List.getElem?_eq_some_iff.1 hj).1; have := HLn.out; omega) hj)
      by_cases h120 : k ≤ 120
      · have hd5 : decide ((k : Int) ≤ 120) = true := by simp; omega
        have hd5' : decide (k ≤ 120) = true := by simpa using h120
        go_wp2_with fail
        go_ret
        exact ⟨true, rfl, (fun _ => ⟨h120, HR.out⟩), HB.out⟩
      · have hd5 : decide ((k : Int) ≤ 120) = false := by simp; omega
        have hd5' : decide (k ≤ 120) = false := by simpa using h120
        go_wp2_with fail
        go_ret
        exact ⟨false, rfl, (fun h => by cases h), HB.out⟩
end
/-! ### What a log's list stays within, call by call. -/
section
open Go.RowKit
set_option linter.unusedVariables false
structure Bnd (x : LogV) (K : Int) (M : Nat) : Prop where
  con : Consec x
  b0 : 0 ≤ x.base
  end_ : x.base + x.l.length ≤ K
  few : x.l.length ≤ M
  dt : ∀ e ∈ x.l, e.dt.size ≤ 100000
theorem Bnd.wide {x : LogV} {K K' : Int} {M M' : Nat} (h : Bnd x K M) (hK : K ≤ K') (hM : M ≤ M') : Bnd x K' M' := ⟨h.con, h.b0, by have := h.end_; omega, by have := h.few; omega, h.dt⟩
theorem Bnd.add {x : LogV} {K : Int} {M : Nat} (h : Bnd x K M) (t k : Int) (d : ByteArray) (hd : d.size ≤ 100000) : Bnd ⟨x.base, x.term, x.l ++ [⟨(lastV x).1 + 1, t, k, d⟩]⟩ (K + 1) (M + 1) := by
  have hl := lastV_of h.con
  refine ⟨fun i e hi => ?_, h.b0, ?_, ?_, fun e he => ?_⟩
  · change (x.l ++ _)[i]? = some e at hi
    show e.ix = x.base + i + 1
    by_cases hx : i < x.l.length
    · rw [List.getElem?_append_left hx] at hi
      exact h.con i e hi
    · rw [List.getElem?_append_right (by omega)] at hi
      have h0 : i - x.l.length = 0 := by
        rcases Nat.eq_zero_or_pos (i - x.l.length) with h0 | h0
        · exact h0
        · rw [List.getElem?_eq_none (by simp; omega)] at hi; cases hi
      rw [h0] at hi
      have he : (⟨(lastV x).1 + 1, t, k, d⟩ : Ent) = e := by simpa using hi
      rw [← he]
      show (lastV x).1 + 1 = _
      omega
  · show x.base + ((x.l ++ [_]).length : Nat) ≤ _
    rw [List.length_append, List.length_singleton]
    have := h.end_
    omega
  · show (x.l ++ [_]).length ≤ _
    rw [List.length_append, List.length_singleton]
    have := h.few
    omega
  · rcases List.mem_append.1 he with he | he
    · exact h.dt e he
    · have : e = ⟨(lastV x).1 + 1, t, k, d⟩ := by simpa using he
      rw [this]; exact hd
theorem Bnd.compact {x : LogV} {K : Int} {M : Nat} (h : Bnd x K M) (tq : Int) : Bnd (compactV x tq).1 K M := by
  rw [compactV_of h.con]
  split
  · rename_i hy
    have hr := term_range hy
    refine ⟨fun i e hi => ?_, by show 0 ≤ tq; have := h.b0; omega, ?_, ?_, fun e he => ?_⟩
    · change (x.l.drop _)[i]? = some e at hi
      show e.ix = tq + i + 1
      rw [List.getElem?_drop] at hi
      have := h.con _ e hi
      omega
    · show tq + ((x.l.drop _).length : Nat) ≤ _
      rw [List.length_drop]
      have := h.end_
      omega
    · show (x.l.drop _).length ≤ _
      rw [List.length_drop]
      have := h.few
      omega
    · exact h.dt e (List.mem_of_mem_drop he)
  · exact h
theorem Bnd.merge {x : LogV} {K : Int} {M : Nat} (h : Bnd x K M) (hK : K < 4611686018427387904) {l : List Ent} (hl : l.length ≤ 1000000) (hdt : ∀ e ∈ l, e.dt.size ≤ 100000) (prev term keep : Int) : Bnd (mergeV x prev term keep l).1 (K + l.length) (M + l.length) := by
  have hw : Bnd x (K + l.length) (M + l.length) := h.wide (by omega) (by omega)
  unfold mergeV
  split
  · rename_i hok
    have hr := term_range hok.1
    have hb0 := h.b0
    have he := h.end_
    cases hs : scan x keep 0 0 l with
    | none => exact hw
    | some F =>
      rcases scan_first x keep h.b0 (by omega) l 0 F prev term hok.2.2 hok.1 hs with rfl | ⟨j, e, hj, hej, hlo, hhi⟩
      · exact hw
      · obtain rfl : F = j + 1 := by omega
        have hjl := (List.getElem?_eq_some_iff.1 hej).1
        have hfi := fol_ix l prev term (by omega) (by omega) hok.2.2
        have hix := hfi j e hej
        show Bnd (takeOf x l j l[j]?).1 _ _
        rw [hej]
        obtain ⟨k, hk⟩ : ∃ k : Nat, (k : Int) = e.ix - x.base - 1 := ⟨(e.ix - x.base - 1).toNat, by omega⟩
        show Bnd ⟨x.base, x.term, x.l.take (e.ix - x.base - 1).toNat ++ l.drop j⟩ _ _
        rw [show (e.ix - x.base - 1).toNat = k from by omega]
        have hkl : k ≤ x.l.length := by omega
        have htl : (x.l.take k).length = k := by rw [List.length_take]; omega
        refine ⟨fun i e' hi => ?_, h.b0, ?_, ?_, fun e' he' => ?_⟩
        · change (x.l.take k ++ l.drop j)[i]? = some e' at hi
          show e'.ix = x.base + i + 1
          by_cases hx : i < k
          · rw [List.getElem?_append_left (by omega), List.getElem?_take, if_pos hx] at hi
            exact h.con i e' hi
          · rw [List.getElem?_append_right (by omega), htl, List.getElem?_drop] at hi
            have := hfi _ e' hi
            omega
        · show x.base + ((x.l.take k ++ l.drop j).length : Nat) ≤ _
          rw [List.length_append, htl, List.length_drop]
          have := h.end_
          omega
        · show (x.l.take k ++ l.drop j).length ≤ _
          rw [List.length_append, htl, List.length_drop]
          have := h.few
          omega
        · rcases List.mem_append.1 he' with he' | he'
          · exact h.dt e' (List.mem_of_mem_take he')
          · exact hdt e' (List.mem_of_mem_drop he')
  · exact hw
theorem Bnd.reset {a t K : Int} {M : Nat} (h0 : 0 ≤ a) (hK : a ≤ K) : Bnd ⟨a, t, []⟩ K M :=
  ⟨fun k e h => by simp at h, h0, by show a + ((0 : Nat) : Int) ≤ K; omega, Nat.zero_le _, fun e he => by cases he⟩
theorem Bnd.new {base term : Int} {l : List Ent} (h0 : 0 ≤ base) (h9 : base + l.length < 9223372036854775807) (hf : folB base term l = true) (hdt : ∀ e ∈ l, e.dt.size ≤ 100000) {K : Int} {M : Nat} (hK : base + l.length ≤ K) (hM : l.length ≤ M) : Bnd ⟨base, term, l⟩ K M :=
  ⟨fix l base term h0 h9 hf, h0, hK, hM, hdt⟩
where fix (l : List Ent) (base term : Int) (h0 : 0 ≤ base) (h9 : base + l.length < 9223372036854775807) (hf : folB base term l = true) : Consec ⟨base, term, l⟩ := fun k e h => fol_ix l base term h0 h9 hf k e h
end
/-! ### Two logs, the program's and the document's, beside a Book: what each call leaves. -/
section
open Go.RowKit
set_option linter.unusedVariables false
def S88 (t : Tag) : Prop := t = (88, 0, 0)
theorem BsEI.turn {w W W' : World} {bn : Nat} {o : Nat → Tag} (h : BsEI w W bn o) (hT : Turn o S88 W W') : BsEI w W' bn o := by
  obtain ⟨cs, ovI, wvI, rowsI, ovE, wvE, rowsE, h⟩ := h
  have ha : Agree o o W.heap.size := Agree.refl _ _
  exact ⟨cs, ovI, wvI, rowsI, ovE, wvE, rowsE, h.at_.turn hT (fun e => by injection e with e _; cases e) ha, h.old, h.bel.trans (hT.lower h.bel.size (fun g hg e => by rw [h.old g hg] at e; injection e with e _; cases e)), h.c0, h.c2, h.c3, h.kI.turn hT (fun _ _ e => by injection e with e _; cases e) ha, h.c4, h.c6, h.c8, h.c10, h.c11, h.kE.turn hT (fun _ _ e => by injection e with e _; cases e) ha, h.c12, h.c14, h.c16, h.c18, h.c20⟩
theorem own_same {W W' : World} {base : Nat} {e : TypeId} {size n : Nat} {v : Value} {xs : List Value} (h : W.ownsRow base e size v n xs) (hk : ∀ g, v.ownBlock = some g → W'.heap[g]? = W.heap[g]?) : W'.ownsRow base e size v n xs := by
  refine ⟨h.1, ?_⟩
  rcases h.2 with h2 | ⟨g, cap, cur, rfl, hb, hg, r⟩
  · exact .inl h2
  · exact .inr ⟨g, cap, cur, rfl, hb, (hk g rfl).trans hg, r⟩
theorem LogAt.same {W W' : World} {B b : Nat} {x : LogV} (h : LogAt W B b x) (hk : ∀ g, g = b ∨ rowAt W b = some g → W'.heap[g]? = W.heap[g]?) : LogAt W' B b x ∧ rowAt W' b = rowAt W b := by
  obtain ⟨ao, cap, hBb, hbk, hown⟩ := h.parts
  have hb' := (hk b (.inl rfl)).trans hbk
  have hr := rowAt_of hbk
  exact ⟨⟨hBb, ao, cap, hb', own_same hown (fun g hg => hk g (.inr (hr.trans hg)))⟩, (rowAt_of hb').trans hr.symm⟩
theorem RLogAt.same {W W' : World} {B b : Nat} {x : LogV} (h : RLogAt W B b x) (hk : ∀ g, g = b ∨ rowAt W b = some g → W'.heap[g]? = W.heap[g]?) : RLogAt W' B b x ∧ rowAt W' b = rowAt W b := by
  obtain ⟨ao, cap, hBb, hbk, hown⟩ := h.parts
  have hb' := (hk b (.inl rfl)).trans hbk
  have hr := rowAt_of hbk
  exact ⟨⟨hBb, ao, cap, hb', own_same hown (fun g hg => hk g (.inr (hr.trans hg)))⟩, (rowAt_of hb').trans hr.symm⟩
/-- The row's block of a log is there, holds entries, and is not the log's block. -/
theorem LogAt.row {W : World} {B b g : Nat} {x : LogV} (h : LogAt W B b x) (hg : rowAt W b = some g) : g < W.heap.size ∧ B ≤ g ∧ ∃ cs, W.heap[g]? = some (.cells cs 51 (0, 0)) := by
  obtain ⟨ao, cap, hBb, hbk, hown⟩ := h.parts
  rw [rowAt_of hbk] at hg
  refine ⟨(hown.lt g hg).2, (hown.lt g hg).1, ?_⟩
  rcases hown.2 with ⟨hv, _⟩ | ⟨g', cap', cur, hv, _, hgc, _⟩
  · rw [hv] at hg; cases hg
  · rw [hv] at hg
    injection hg with hg
    change g' = g at hg
    subst hg
    exact ⟨cur, hgc⟩
theorem RLogAt.row {W : World} {B b g : Nat} {x : LogV} (h : RLogAt W B b x) (hg : rowAt W b = some g) : g < W.heap.size ∧ B ≤ g ∧ ∃ cs, W.heap[g]? = some (.cells cs 51 (0, 0)) := by
  obtain ⟨ao, cap, hBb, hbk, hown⟩ := h.parts
  rw [rowAt_of hbk] at hg
  refine ⟨(hown.lt g hg).2, (hown.lt g hg).1, ?_⟩
  rcases hown.2 with ⟨hv, _⟩ | ⟨g', cap', cur, hv, _, hgc, _⟩
  · rw [hv] at hg; cases hg
  · rw [hv] at hg
    injection hg with hg
    change g' = g at hg
    subst hg
    exact ⟨cur, hgc⟩
/-- The two logs, apart from each other and from what the Book keeps. -/
structure Play (w0 W : World) (b rb bn : Nat) (o : Nat → Tag) (x y : LogV) : Prop where
  lg : LogAt W w0.heap.size b x
  rl : RLogAt W w0.heap.size rb y
  bs : BsEI w0 W bn o
  tb : o b = (88, 0, 0)
  tr : o rb = (88, 0, 0)
  tg : ∀ g, rowAt W b = some g → o g = (88, 0, 0)
  th : ∀ g, rowAt W rb = some g → o g = (88, 0, 0)
  ap : ∀ g, rowAt W b = some g → rowAt W rb ≠ some g
theorem Play.ne {w0 W : World} {b rb bn : Nat} {o : Nat → Tag} {x y : LogV} (h : Play w0 W b rb bn o x y) : b ≠ rb ∧ rowAt W b ≠ some b ∧ rowAt W b ≠ some rb ∧ rowAt W rb ≠ some b ∧ rowAt W rb ≠ some rb := by
  obtain ⟨_, _, _, hbk, _⟩ := h.lg.parts
  obtain ⟨_, _, _, hrk, _⟩ := h.rl.parts
  have t1 : ∀ {cs cs' : Array Value} {g : Nat}, W.heap[g]? = some (.cells cs 51 (0, 0)) → W.heap[g]? = some (.cells cs' 94 (0, 0)) → False := fun h1 h2 => by
    rw [h1] at h2; injection h2 with h2; injection h2 with _ h2; exact absurd h2 (by decide)
  have t2 : ∀ {cs cs' : Array Value} {g : Nat}, W.heap[g]? = some (.cells cs 51 (0, 0)) → W.heap[g]? = some (.cells cs' 96 (0, 0)) → False := fun h1 h2 => by
    rw [h1] at h2; injection h2 with h2; injection h2 with _ h2; exact absurd h2 (by decide)
  refine ⟨fun e => ?_, fun e => ?_, fun e => ?_, fun e => ?_, fun e => ?_⟩
  · rw [← e, hbk] at hrk
    injection hrk with h2; injection h2 with _ h2; exact absurd h2 (by decide)
  · obtain ⟨_, _, cs, h1⟩ := h.lg.row e; exact t1 h1 hbk
  · obtain ⟨_, _, cs, h1⟩ := h.lg.row e; exact t2 h1 hrk
  · obtain ⟨_, _, cs, h1⟩ := h.rl.row e; exact t1 h1 hbk
  · obtain ⟨_, _, cs, h1⟩ := h.rl.row e; exact t2 h1 hrk
theorem Play.keep {w0 W W' : World} {b rb bn : Nat} {o o' : Nat → Tag} {x y : LogV} (h : Play w0 W b rb bn o x y) (hB : BsEI w0 W' bn o') (ho : ∀ g, g < W.heap.size → o g = (88, 0, 0) → o' g = (88, 0, 0) ∧ W'.heap[g]? = W.heap[g]?) : Play w0 W' b rb bn o' x y := by
  have k1 : ∀ g, g = b ∨ rowAt W b = some g → W'.heap[g]? = W.heap[g]? := fun g hg => by
    rcases hg with rfl | hg
    · exact (ho _ h.lg.lt h.tb).2
    · exact (ho g (h.lg.row hg).1 (h.tg g hg)).2
  have k2 : ∀ g, g = rb ∨ rowAt W rb = some g → W'.heap[g]? = W.heap[g]? := fun g hg => by
    rcases hg with rfl | hg
    · exact (ho _ h.rl.lt h.tr).2
    · exact (ho g (h.rl.row hg).1 (h.th g hg)).2
  obtain ⟨l1, r1⟩ := h.lg.same k1
  obtain ⟨l2, r2⟩ := h.rl.same k2
  exact ⟨l1, l2, hB, (ho _ h.lg.lt h.tb).1, (ho _ h.rl.lt h.tr).1, fun g hg => (ho g (h.lg.row (r1 ▸ hg)).1 (h.tg g (r1 ▸ hg))).1, fun g hg => (ho g (h.rl.row (r2 ▸ hg)).1 (h.th g (r2 ▸ hg))).1, fun g hg => by rw [r2]; exact h.ap g (r1 ▸ hg)⟩
theorem Play.calm {w0 W W' : World} {b rb bn : Nat} {o : Nat → Tag} {x y : LogV} (h : Play w0 W b rb bn o x y) (hb : Below W.heap.size W W') : Play w0 W' b rb bn o x y :=
  h.keep (h.bs.below hb) (fun g hg ht => ⟨ht, hb.block g hg⟩)
theorem Play.agree {w0 W : World} {b rb bn : Nat} {o o' : Nat → Tag} {x y : LogV} (h : Play w0 W b rb bn o x y) (ha : Agree o o' W.heap.size) : Play w0 W b rb bn o' x y :=
  h.keep (h.bs.agree ha) (fun g hg ht => ⟨(ha g hg).trans ht, rfl⟩)
theorem Play.kept {w0 W W' : World} {b rb bn i : Nat} {o o' : Nat → Tag} {x y : LogV} (h : Play w0 W b rb bn o x y) (hB : BsEI w0 W' bn o') (hu : Upd i o o' W.heap.size) (hT : Turn o SS W W') : Play w0 W' b rb bn o' x y :=
  h.keep hB (fun g hg ht => by
    constructor
    · rcases hu g hg with e | ⟨e, _⟩
      · exact e.trans ht
      · rw [ht] at e
        injection e with e _
        cases e
    · refine hT.block g hg ?_
      rw [ht]
      rintro (e | ⟨e, _⟩)
      · injection e with e _
        cases e
      · exact absurd e (by decide))
/-- What a call that moves a log's block leaves: tags below stay, and nothing turns but what is tagged so. -/
structure Left (o o' : Nat → Tag) (W W' : World) : Prop where
  ag : Agree o o' W.heap.size
  tn : Turn o S88 W W'
theorem FarL.turn {o : Nat → Tag} {b : Nat} {r : Option Nat} {W W' : World} (h : FarL b r W W') (hb : o b = (88, 0, 0)) (hr : ∀ g, r = some g → o g = (88, 0, 0)) : Turn o S88 W W' :=
  ⟨h.os, h.tape, h.output, h.size, fun k hk hn => h.block k hk (fun e => hn (by rw [e]; exact hb)) (fun e => hn (hr k e))⟩
theorem Turn.agree88 {o o' : Nat → Tag} {W W' : World} (h : Turn o S88 W W') (ha : Agree o o' W.heap.size) : Turn o' S88 W W' :=
  ⟨h.os, h.tape, h.output, h.size, fun k hk hn => h.block k hk (fun e => hn (by unfold S88; rw [ha k hk]; exact e))⟩
theorem Play.move {w0 W W' : World} {b rb bn : Nat} {o : Nat → Tag} {x y x' : LogV} (h : Play w0 W b rb bn o x y) (hl : LogAt W' w0.heap.size b x') (hm : Moved b W W') : Play w0 W' b rb bn (retag o W.heap.size (88, 0, 0)) x' y ∧ Left o (retag o W.heap.size (88, 0, 0)) W W' := by
  obtain ⟨n1, n2, n3, n4, n5⟩ := h.ne
  have ha := retag_agree o W.heap.size (88, 0, 0)
  have hT := hm.1.turn h.tb h.tg
  have k2 : ∀ g, g = rb ∨ rowAt W rb = some g → W'.heap[g]? = W.heap[g]? := fun g hg => by
    rcases hg with rfl | hg
    · exact hm.1.block _ h.rl.lt (fun e => n1 e.symm) n3
    · exact hm.1.block g (h.rl.row hg).1 (fun e => n4 (by rw [← e]; exact hg)) (fun e => h.ap g e hg)
  obtain ⟨l2, r2⟩ := h.rl.same k2
  have tgn : ∀ g, rowAt W' b = some g → retag o W.heap.size (88, 0, 0) g = (88, 0, 0) := fun g hg => by
    rcases hm.2 g hg with h1 | h1
    · rw [ha g (h.lg.row h1).1]; exact h.tg g h1
    · unfold retag; rw [if_neg (by omega)]
  exact ⟨⟨hl, l2, (h.bs.agree ha).turn (hT.agree88 ha), (ha b h.lg.lt).trans h.tb, (ha rb h.rl.lt).trans h.tr, tgn, fun g hg => by rw [r2] at hg; exact (ha g (h.rl.row hg).1).trans (h.th g hg), fun g hg hg2 => by
    rw [r2] at hg2
    rcases hm.2 g hg with h1 | h1
    · exact h.ap g h1 hg2
    · have := (h.rl.row hg2).1; omega⟩, ha, hT⟩
theorem Play.moveR {w0 W W' : World} {b rb bn : Nat} {o : Nat → Tag} {x y y' : LogV} (h : Play w0 W b rb bn o x y) (hl : RLogAt W' w0.heap.size rb y') (hm : Moved rb W W') : Play w0 W' b rb bn (retag o W.heap.size (88, 0, 0)) x y' ∧ Left o (retag o W.heap.size (88, 0, 0)) W W' := by
  obtain ⟨n1, n2, n3, n4, n5⟩ := h.ne
  have ha := retag_agree o W.heap.size (88, 0, 0)
  have hT := hm.1.turn h.tr h.th
  have k2 : ∀ g, g = b ∨ rowAt W b = some g → W'.heap[g]? = W.heap[g]? := fun g hg => by
    rcases hg with rfl | hg
    · exact hm.1.block _ h.lg.lt n1 n4
    · exact hm.1.block g (h.lg.row hg).1 (fun e => n3 (by rw [← e]; exact hg)) (fun e => h.ap g hg e)
  obtain ⟨l2, r2⟩ := h.lg.same k2
  exact ⟨⟨l2, hl, (h.bs.agree ha).turn (hT.agree88 ha), (ha b h.lg.lt).trans h.tb, (ha rb h.rl.lt).trans h.tr, fun g hg => by rw [r2] at hg; exact (ha g (h.lg.row hg).1).trans (h.tg g hg), fun g hg => by
    rcases hm.2 g hg with h1 | h1
    · rw [ha g (h.rl.row h1).1]; exact h.th g h1
    · unfold retag; rw [if_neg (by omega)], fun g hg hg2 => by
    rw [r2] at hg
    rcases hm.2 g hg2 with h1 | h1
    · exact h.ap g hg h1
    · have := (h.lg.row hg).1; omega⟩, ha, hT⟩
/-- A new log of the document, in the old one's place. -/
theorem Play.newR {w0 W W' : World} {b rb rb' bn : Nat} {o : Nat → Tag} {x y y' : LogV} (h : Play w0 W b rb bn o x y) (hb : Below W.heap.size W W') (hl : RLogAt W' w0.heap.size rb' y') (hn : W.heap.size ≤ rb') (hr : ∀ g, rowAt W' rb' = some g → W.heap.size ≤ g) : Play w0 W' b rb' bn (retag o W.heap.size (88, 0, 0)) x y' ∧ Left o (retag o W.heap.size (88, 0, 0)) W W' := by
  have ha := retag_agree o W.heap.size (88, 0, 0)
  obtain ⟨l2, r2⟩ := h.lg.same (W' := W') (fun g hg => by
    rcases hg with rfl | hg
    · exact hb.block _ h.lg.lt
    · exact hb.block g (h.lg.row hg).1)
  exact ⟨⟨l2, hl, (h.bs.agree ha).below hb, (ha b h.lg.lt).trans h.tb, by unfold retag; rw [if_neg (by omega)], fun g hg => by rw [r2] at hg; exact (ha g (h.lg.row hg).1).trans (h.tg g hg), fun g hg => by unfold retag; rw [if_neg (by have := hr g hg; omega)], fun g hg hg2 => by
    rw [r2] at hg
    have := (h.lg.row hg).1
    have := hr g hg2
    omega⟩, ha, Turn.ofBelow hb⟩
/-- What is tagged otherwise stays. -/
theorem Left.at_ {o o' : Nat → Tag} {W W' : World} (h : Left o o' W W') {g : Nat} {X : Obj} (hg : W.heap[g]? = some X) (ht : o g = (89, 0, 0)) : W'.heap[g]? = some X ∧ o' g = (89, 0, 0) := by
  have hlt : g < W.heap.size := by
    rcases Nat.lt_or_ge g W.heap.size with hlt | hge
    · exact hlt
    · rw [Array.getElem?_eq_none hge] at hg; cases hg
  exact ⟨(h.tn.block g hlt (fun e => by rw [ht] at e; injection e with e _; cases e)).trans hg, (h.ag g hlt).trans ht⟩
end
/-! ### The two logs' calls beside a Book; what Members tells; Reset. -/
section
open Go.RowKit
set_option linter.unusedVariables false
theorem BsEI.startO {w W : World} (hb : Below w.heap.size w W) (o : Nat → Tag) (h1 : o W.heap.size = (99, 0, 0)) (h2 : ∀ g, g < w.heap.size → o g = (1000, 0, 0)) : BsEI w (W.alloc (.cells book0 39)) W.heap.size o :=
  ⟨book0, .slice none 0 0, .slice none 0 0, [], .slice none 0 0, .slice none 0 0, [], ⟨⟨heap_alloc_new W _, rfl, hb.size, h1⟩, h2, hb.alloc hb.size _, rfl, rfl, rfl, Kept.nil_, rfl, rfl, rfl, rfl, rfl, Kept.nil_, rfl, rfl, rfl, rfl, rfl⟩⟩
set_option maxHeartbeats 400000 in
theorem reset_any {w : World} {B b : Nat} {x : LogV} (h : LogAt w B b x) (a t : Int) (hB : B ≤ w.heap.size) :
    Calls Tryz.prog 63 #[.pointer (some ⟨b, 0, none⟩), .int .i64 a, .int .i64 t] w fun e w' => e = .returned (.tuple #[]) ∧ LogAt w' B b ⟨a, t, []⟩ ∧ Below B w w' ∧ Moved b w w' := by
  obtain ⟨ao, cap, hBb, hbk, hown⟩ := h.parts
  have h1 := blk_set hbk 0 (.int .i64 a)
  have h2 := blk_set h1 1 (.int .i64 t)
  have h3 := blk_set h2 2 (.slice none 0 0)
  have HFin : Hid (LogAt (((w.setCell ⟨b, 0, none⟩ (.int .i64 a)).setCell ⟨b, 1, none⟩ (.int .i64 t)).setCell ⟨b, 2, none⟩ (.slice none 0 0)) B b ⟨a, t, []⟩ ∧ Below B w (((w.setCell ⟨b, 0, none⟩ (.int .i64 a)).setCell ⟨b, 1, none⟩ (.int .i64 t)).setCell ⟨b, 2, none⟩ (.slice none 0 0)) ∧ Moved b w (((w.setCell ⟨b, 0, none⟩ (.int .i64 a)).setCell ⟨b, 1, none⟩ (.int .i64 t)).setCell ⟨b, 2, none⟩ (.slice none 0 0))) := Lib.hid (by
    refine ⟨⟨hBb, none, 0, h3.trans rfl, World.ownsRow_nil _ _ _ _⟩, (((Below.refl B w).setCell hBb _).setCell hBb _).setCell hBb _, (((FarL.refl b _ w).set 0 _).set 1 _).set 2 _, fun g hg => ?_⟩
    rw [rowAt_of (u := .int .i64 a) (v := .int .i64 t) (x := .slice none 0 0) (T := 94) (h3.trans rfl)] at hg
    cases hg)
  have c0 : w.cell? ⟨b, 0, none⟩ = some (.int .i64 x.base) := by rw [blk_cell hbk]; rfl
  have c1 : w.cell? ⟨b, 1, none⟩ = some (.int .i64 x.term) := by rw [blk_cell hbk]; rfl
  have c2 : w.cell? ⟨b, 2, none⟩ = some (.slice ao x.l.length cap) := by rw [blk_cell hbk]; rfl
  have f0 := blk_frozen hbk 0
  have f1 := blk_frozen hbk 1
  have f2 := blk_frozen hbk 2
  clear h hown hbk h1 h2 h3
  go_enter Tryz.func63, Tryz.ntmps63
  go_wp2_with fail
  go_end0
  exact ⟨rfl, HFin.out⟩
section
variable {w0 W : World} {b rb bn : Nat} {o : Nat → Tag} {x y : LogV} (h : Play w0 W b rb bn o x y)
include h
theorem Play.base_le : w0.heap.size ≤ W.heap.size := h.bs.bel.size
theorem Play.add {K : Int} {M : Nat} (hn : Bnd x K M) (hK : K < 4611686018427387904) (hM : M ≤ 100000) (t k : Int) (d : ByteArray) (hd : d.size ≤ 281474976710656) :
    Calls Tryz.prog 57 #[.pointer (some ⟨b, 0, none⟩), .int .i64 t, .int .i64 k, .string d] W fun e W' => e = .returned (.int .i64 ((lastV x).1 + 1)) ∧ ∃ o', Play w0 W' b rb bn o' ⟨x.base, x.term, x.l ++ [⟨(lastV x).1 + 1, t, k, d⟩]⟩ y ∧ Left o o' W W' := by
  have hl := lastV_of hn.con
  have := hn.b0
  have := hn.end_
  have := hn.few
  refine (add_anyX h.lg t k d hd h.base_le (by omega) (by omega) (by omega)).mono ?_
  rintro e W' ⟨rfl, h1, h2, h3⟩
  exact ⟨rfl, _, h.move h1 h3⟩
theorem Play.radd {K : Int} {M : Nat} (hn : Bnd y K M) (hK : K < 4611686018427387904) (hM : M ≤ 100000) (t k : Int) (d : ByteArray) :
    Calls Tryz.prog 58 #[.pointer (some ⟨rb, 0, none⟩), .int .i64 t, .int .i64 k, .string d] W fun e W' => e = .returned (.int .i64 ((lastV y).1 + 1)) ∧ ∃ o', Play w0 W' b rb bn o' x ⟨y.base, y.term, y.l ++ [⟨(lastV y).1 + 1, t, k, d⟩]⟩ ∧ Left o o' W W' := by
  have hl := lastV_of hn.con
  have := hn.b0
  have := hn.end_
  have := hn.few
  refine (radd_any h.rl t k d h.base_le (by omega) (by omega) (by omega)).mono ?_
  rintro e W' ⟨rfl, h1, h2, h3⟩
  exact ⟨rfl, _, h.moveR h1 h3⟩
theorem Play.merge {K : Int} {M : Nat} (hn : Bnd x K M) (hK : K < 4611686018427387904) (hM : M ≤ 100000) {ao : Option Addr} {n c : Nat} {l : List Ent} (hE : Ents W W.heap.size ao n l) (hnil : ao = none → n = 0) (hnc : n ≤ c) (hok : ∀ e ∈ l, EntOk e) (hn9 : n ≤ 100000) (prev term keep : Int) (hp : prev ≤ 9223372036854775807) :
    Calls Tryz.prog 59 #[.pointer (some ⟨b, 0, none⟩), .int .i64 prev, .int .i64 term, .int .i64 keep, .slice ao n c] W fun e W' => e = .returned (.tuple #[.int .i64 (mergeV x prev term keep l).2.1, .bool (mergeV x prev term keep l).2.2]) ∧ ∃ o', Play w0 W' b rb bn o' (mergeV x prev term keep l).1 y ∧ Left o o' W W' := by
  have := hn.end_
  have := hn.few
  refine (merge_anyX ⟨h.lg, h.base_le, hE, hnil, hn.b0, by omega, fun e he => (hok e he).1.2, by omega, fun e he => by have := (hok e he).2.2.2; omega⟩ c hnc prev term keep hp).mono ?_
  rintro e W' ⟨rfl, h1, h2, h3⟩
  exact ⟨rfl, _, h.move h1 h3⟩
theorem Play.rmerge {K : Int} {M : Nat} (hn : Bnd y K M) (hK : K < 4611686018427387904) (hM : M ≤ 100000) {ao : Option Addr} {n c : Nat} {l : List Ent} (hE : Ents W W.heap.size ao n l) (hnc : n ≤ c) (hc : c ≤ 9223372036854775807) (hn9 : n ≤ 100000) (prev term keep : Int) :
    Calls Tryz.prog 60 #[.pointer (some ⟨rb, 0, none⟩), .int .i64 prev, .int .i64 term, .int .i64 keep, .slice ao n c] W fun e W' => e = .returned (.tuple #[.int .i64 (mergeV y prev term keep l).2.1, .bool (mergeV y prev term keep l).2.2]) ∧ ∃ o', Play w0 W' b rb bn o' x (mergeV y prev term keep l).1 ∧ Left o o' W W' := by
  have := hn.end_
  have := hn.few
  refine (rmerge_any h.rl h.base_le hE hnc hc hn.b0 (by omega) (by omega) (by omega) prev term keep).mono ?_
  rintro e W' ⟨rfl, h1, h2, h3⟩
  exact ⟨rfl, _, h.moveR h1 h3⟩
theorem Play.compact {K : Int} {M : Nat} (hn : Bnd x K M) (hK : K < 4611686018427387904) (hM : M ≤ 100000) (tq : Int) (hp : tq ≤ 9223372036854775807) :
    Calls Tryz.prog 61 #[.pointer (some ⟨b, 0, none⟩), .int .i64 tq] W fun e W' => e = .returned (.bool (compactV x tq).2) ∧ ∃ o', Play w0 W' b rb bn o' (compactV x tq).1 y ∧ Left o o' W W' := by
  have := hn.end_
  have := hn.few
  refine (compact_anyX h.lg h.base_le tq hn.b0 (by omega) (by omega) hp).mono ?_
  rintro e W' ⟨rfl, h1, h2, h3⟩
  exact ⟨rfl, _, h.move h1 h3⟩
theorem Play.rcompact {K : Int} {M : Nat} (hn : Bnd y K M) (hK : K < 4611686018427387904) (hM : M ≤ 100000) (tq : Int) :
    Calls Tryz.prog 62 #[.pointer (some ⟨rb, 0, none⟩), .int .i64 tq] W fun e W' => e = .returned (.bool (compactV y tq).2) ∧ ∃ o', Play w0 W' b rb bn o' x (compactV y tq).1 ∧ Left o o' W W' := by
  have := hn.end_
  have := hn.few
  refine (rcompact_any h.rl hn.con h.base_le tq hn.b0 (by omega) (by omega)).mono ?_
  rintro e W' ⟨rfl, h1, h2, h3⟩
  exact ⟨rfl, _, h.moveR h1 h3⟩
theorem Play.reset (a t : Int) :
    Calls Tryz.prog 63 #[.pointer (some ⟨b, 0, none⟩), .int .i64 a, .int .i64 t] W fun e W' => e = .returned (.tuple #[]) ∧ ∃ o', Play w0 W' b rb bn o' ⟨a, t, []⟩ y ∧ Left o o' W W' := by
  refine (reset_any h.lg a t h.base_le).mono ?_
  rintro e W' ⟨rfl, h1, h2, h3⟩
  exact ⟨rfl, _, h.move h1 h3⟩
/-- The document's log is made anew. -/
theorem Play.fresh (a t : Int) : ∃ o', Play w0 (W.alloc (.cells #[.int .i64 a, .int .i64 t, .slice none 0 0] 96)) b W.heap.size bn o' x ⟨a, t, []⟩ ∧ Left o o' W (W.alloc (.cells #[.int .i64 a, .int .i64 t, .slice none 0 0] 96)) := by
  have hk := heap_alloc_new W (.cells #[.int .i64 a, .int .i64 t, .slice none 0 0] 96)
  refine ⟨_, h.newR ((Below.refl _ _).alloc (Nat.le_refl _) _) ⟨h.base_le, none, 0, hk, World.ownsRow_nil _ _ _ _⟩ (Nat.le_refl _) (fun g hg => ?_)⟩
  rw [rowAt_of hk] at hg
  cases hg
end
theorem keep89 {i : Nat} {o o' : Nat → Tag} {W W' : World} {g : Nat} {X : Obj} (hg : W.heap[g]? = some X) (ht : o g = (89, 0, 0)) (hu : Upd i o o' W.heap.size) (hT : Turn o SS W W') : W'.heap[g]? = some X ∧ o' g = (89, 0, 0) := by
  have hlt : g < W.heap.size := by
    rcases Nat.lt_or_ge g W.heap.size with hlt | hge
    · exact hlt
    · rw [Array.getElem?_eq_none hge] at hg; cases hg
  constructor
  · refine (hT.block g hlt ?_).trans hg
    rw [ht]
    rintro (e | ⟨e, _⟩)
    · injection e with e _
      cases e
    · exact absurd e (by decide)
  · rcases hu g hlt with e | ⟨e, _⟩
    · exact e.trans ht
    · rw [ht] at e
      injection e with e _
      cases e
theorem LentE.same {w W : World} {B g n c : Nat} {l : List Ent} (h : LentE w B g n c l) (hk : W.heap[g]? = w.heap[g]?) : LentE W B g n c l :=
  ⟨h.1, h.2.1, own_same h.2.2 (fun g' hg => by injection hg with hg; change g = g' at hg; rw [← hg]; exact hk)⟩
/-- The last entry that hits. -/
def LastHit (l : List Ent) (tq : Int) (y : Ent) : Prop := ∃ k, l[k]? = some y ∧ hitE tq y ∧ ∀ (j : Nat) (z : Ent), k < j → l[j]? = some z → ¬ hitE tq z
theorem lastHit_uniq {l : List Ent} {tq : Int} {y z : Ent} (h : LastHit l tq y) (h' : LastHit l tq z) : y = z := by
  obtain ⟨k, h1, h2, h3⟩ := h
  obtain ⟨j, k1, k2, k3⟩ := h'
  rcases Nat.lt_trichotomy k j with hlt | he | hlt
  · exact absurd k2 (h3 j z hlt k1)
  · subst he
    rw [h1] at k1
    injection k1
  · exact absurd h2 (k3 k y hlt h1)
open Classical in
noncomputable def memV (l : List Ent) (tq : Int) : List Int × Int := if h : ∃ y, LastHit l tq y then ((membersP h.choose.dt.data.toList).1, h.choose.ix) else ([], 0)
theorem memV_some {l : List Ent} {tq : Int} {y : Ent} (h : LastHit l tq y) : memV l tq = ((membersP y.dt.data.toList).1, y.ix) := by
  have hh : ∃ y, LastHit l tq y := ⟨y, h⟩
  unfold memV
  rw [dif_pos hh, lastHit_uniq hh.choose_spec h]
theorem memV_none {l : List Ent} {tq : Int} (h : ∀ y ∈ l, ¬ hitE tq y) : memV l tq = ([], 0) := by
  unfold memV
  rw [dif_neg]
  rintro ⟨y, k, h1, h2, _⟩
  exact h y (List.mem_of_getElem? h1) h2
theorem MemsRes.told {l : List Ent} {tq : Int} {B : Nat} {w w' : World} {e : Ending} (h : MemsRes l tq B w e w') : ∃ ao N c, e = .returned (.tuple #[.slice ao N c, .int .i64 (memV l tq).2]) ∧ w'.ownsRow B 3 1 (.slice ao N c) N ((memV l tq).1.map (Value.int .i64)) ∧ (memV l tq).1.length = N ∧ Below B w w' := by
  obtain ⟨hb, ⟨rfl, hn⟩ | ⟨k, y, ao, N, c, h1, h2, h3, rfl, ho, hl⟩⟩ := h
  · rw [memV_none hn]
    exact ⟨none, 0, 0, rfl, World.ownsRow_nil _ _ _ _, rfl, hb⟩
  · rw [memV_some ⟨k, h1, h2, h3⟩]
    exact ⟨ao, N, c, rfl, ho, hl, hb⟩
theorem sliceV_len (x : LogV) (f m : Int) : (sliceV x f m).length ≤ x.l.length := by
  unfold sliceV
  split
  · exact Nat.zero_le _
  · rw [List.length_take, List.length_drop]; omega
end
/-! ### Two new logs, in one form; the start of the play. -/
section
open Go.RowKit
set_option linter.unusedVariables false
set_option linter.unusedSimpArgs false
theorem memsLen (l : List Ent) (tq : Int) : (memV l tq).1.length ≤ 9 := by
  have hm : ∀ b : List UInt8, (membersP b).1.length ≤ 9 := fun b => by
    have h1 := rCount_range 9 (b, 0) (by decide)
    have h2 := getMs_len16 (rCount 9 (b, 0)).1.toNat (rCount 9 (b, 0)).2 []
    unfold membersP memP
    split
    · simp
    · split
      · simp
      · split
        · simp at h2; show (getMs (rCount 9 (b, 0)).1.toNat (rCount 9 (b, 0)).2 []).1.length ≤ 9; omega
        · simp
  unfold memV
  split
  · exact hm _
  · exact Nat.zero_le _
/-- What New answers, in one form. -/
def NewF (good : Prop) (x : LogV) (Q : World → Nat → LogV → Prop) (W : World) (e : Ending) (W' : World) : Prop :=
  ∃ (q : Option Addr) (e0 : Int), e = .returned (.tuple #[.pointer q, .int .i64 e0]) ∧ Below W.heap.size W W' ∧ ((good ∧ e0 = 0 ∧ ∃ b, q = some ⟨b, 0, none⟩ ∧ W.heap.size ≤ b ∧ Q W' b x) ∨ (¬ good ∧ e0 = 1 ∧ q = none))
def GoodL (base term : Int) (l : List Ent) : Prop := 0 ≤ base ∧ 0 ≤ term ∧ folB base term l = true
theorem newF_any (base term : Int) {ao : Option Addr} {n c : Nat} {l : List Ent} {W : World} (hl : Ents W W.heap.size ao n l) (hn : n ≤ 1000) (hnil : ao = none → n = 0) (hs : ∀ e ∈ l, e.dt.size ≤ 281474976710656) :
    Calls Tryz.prog 55 #[.int .i64 base, .int .i64 term, .slice ao n c] W (NewF (GoodL base term l) ⟨base, term, l⟩ (fun W' b x => LogAt W' W.heap.size b x) W) := by
  by_cases h1 : base < 0 ∨ term < 0
  · refine (new_neg base term ao n c W h1).mono ?_
    rintro e W' ⟨rfl, hb⟩
    exact ⟨none, 1, rfl, hb, .inr ⟨fun h => by have := h.1; have := h.2.1; omega, rfl, rfl⟩⟩
  · by_cases hf : folB base term l = true
    · refine (new_good base term ao n c l W hl (by omega) hnil hs (by omega) (by omega) hf).mono ?_
      rintro e W' ⟨b, rfl, hL, hb⟩
      exact ⟨_, 0, rfl, hb, .inl ⟨⟨by omega, by omega, hf⟩, rfl, b, rfl, hL.1, hL⟩⟩
    · refine (new_bad base term ao n c l W hl (by omega) (by omega) (by omega) (by simpa using hf)).mono ?_
      rintro e W' ⟨rfl, hb⟩
      exact ⟨none, 1, rfl, hb, .inr ⟨fun h => hf h.2.2, rfl, rfl⟩⟩
theorem rnewF_any (base term : Int) {ao : Option Addr} {n c : Nat} {l : List Ent} {W : World} (hl : Ents W W.heap.size ao n l) (hn : n ≤ 1000) (hnil : ao = none → n = 0 ∧ c = 0) (hb9 : base + n < 9223372036854775807) :
    Calls Tryz.prog 56 #[.int .i64 base, .int .i64 term, .slice ao n c] W (NewF (GoodL base term l) ⟨base, term, l⟩ (fun W' b x => RLogAt W' W.heap.size b x) W) := by
  by_cases hg : GoodL base term l
  · refine (rnew_good base term ao n c l W hl (by omega) hnil hg.1 hg.2.1 hb9 hg.2.2).mono ?_
    rintro e W' ⟨b, rfl, hL, hb⟩
    exact ⟨_, 0, rfl, hb, .inl ⟨hg, rfl, b, rfl, hL.1, hL⟩⟩
  · refine (rnew_bad base term ao n c l W hl (by omega) hb9 (by
      by_cases h1 : base < 0
      · exact .inl h1
      · by_cases h2 : term < 0
        · exact .inr (.inl h2)
        · refine .inr (.inr ?_)
          have : ¬ folB base term l = true := fun h => hg ⟨by omega, by omega, h⟩
          simpa using this)).mono ?_
    rintro e W' ⟨rfl, hb⟩
    exact ⟨none, 1, rfl, hb, .inr ⟨hg, rfl, rfl⟩⟩
theorem RLogAt.mono {w : World} {B B' b : Nat} {x : LogV} (h : RLogAt w B b x) (hB : B' ≤ B) : RLogAt w B' b x := by
  obtain ⟨h1, ao, cap, h2, h3⟩ := h
  exact ⟨by omega, ao, cap, h2, own_mono h3 hB⟩
/-- Two logs alike, apart. -/
structure Logs (N : Nat) (W : World) (b rb : Nat) (x : LogV) : Prop where
  lg : LogAt W N b x
  rl : RLogAt W N rb x
  ap : ∀ g, rowAt W b = some g → rowAt W rb ≠ some g
theorem Logs.play {w W : World} {N g b rb : Nat} {x : LogV} {W0 : World} (h : Logs N W0 b rb x) (hg : W0.grownBy W (some g)) (hgN : g < N) (hwg : w.heap.size ≤ g) (hwN : w.heap.size ≤ N) (hb : Below w.heap.size w W0) :
    Below w.heap.size w W ∧ ∃ o, Play w (W.alloc (.cells book0 39)) b rb W.heap.size o x x := by
  have hbw : Below w.heap.size w W := hb.grown hg hb.size (fun k hk => by injection hk with hk; omega)
  have hbN := h.lg.1
  have hrN := h.rl.1
  obtain ⟨l1, r1⟩ := h.lg.same (W' := W) (fun k hk => hg.block k (by rcases hk with rfl | hk; exact h.lg.lt; exact (h.lg.row hk).1) (fun e => by
    injection e with e
    rcases hk with rfl | hk
    · omega
    · have := (h.lg.row hk).2.1; omega))
  obtain ⟨l2, r2⟩ := h.rl.same (W' := W) (fun k hk => hg.block k (by rcases hk with rfl | hk; exact h.rl.lt; exact (h.rl.row hk).1) (fun e => by
    injection e with e
    rcases hk with rfl | hk
    · omega
    · have := (h.rl.row hk).2.1; omega))
  refine ⟨hbw, fun k => if k < w.heap.size then (1000, 0, 0) else if k = W.heap.size then (99, 0, 0) else (88, 0, 0), ?_⟩
  have ho : ∀ k, w.heap.size ≤ k → k < W.heap.size → (if k < w.heap.size then ((1000, 0, 0) : Tag) else if k = W.heap.size then (99, 0, 0) else (88, 0, 0)) = (88, 0, 0) := fun k h1 h2 => by
    rw [if_neg (by omega), if_neg (by omega)]
  have hal : Below W.heap.size W (W.alloc (.cells book0 39)) := (Below.refl _ _).alloc (Nat.le_refl _) _
  have e1 := rowAt_below l1.lt hal
  have e2 := rowAt_below l2.lt hal
  exact ⟨(LogAt.mono (l1.below hal (Nat.le_refl _)) hwN), (RLogAt.mono (l2.below hal (Nat.le_refl _)) hwN), BsEI.startO hbw _ (by show (if _ then _ else _) = _; rw [if_neg (by have := hbw.size; omega), if_pos rfl]) (fun k hk => by show (if _ then _ else _) = _; rw [if_pos hk]), ho b (by omega) l1.lt, ho rb (by omega) l2.lt, fun k hk => by
    rw [e1] at hk
    exact ho k (by have := (l1.row hk).2.1; omega) (l1.row hk).1, fun k hk => by
    rw [e2] at hk
    exact ho k (by have := (l2.row hk).2.1; omega) (l2.row hk).1, fun k hk => by
    rw [e1, r1] at hk
    rw [e2, r2]
    exact h.ap k hk⟩
end
/-! ### What the calls that only read answer, of two logs alike, in one form; the step's block; tags for two lists. -/
section
open Go.RowKit
set_option linter.unusedVariables false
/-- What is left to be shown, in a text of its own. -/
structure Later (R : Prop) : Prop where
  out : R
theorem below_of_drewN {W W' : World} {n : Nat} (h : W' = W.drewN n) : Below W.heap.size W W' := by rw [h]; exact below_drewN (Below.refl _ _) n
/-- What the readings of two logs alike answer. -/
structure LogReads (wx : World) (b rb : Nat) (a bb ba bt L1 L2 T1 : Int) (T2 : Bool) (A1 A2 A3 : Int) (A4 : ByteArray) (A5 : Bool) (sl : List Ent) (ms : List Int) (mi : Int) (nw : Bool) (n : Nat) (rao : Option Addr) (rcap : Nat) : Prop where
  cBase : ∀ W, Below wx.heap.size wx W → Calls Tryz.prog 64 #[.pointer (some ⟨b, 0, none⟩)] W fun e W' => e = .returned (.tuple #[.int .i64 ba, .int .i64 bt]) ∧ Below W.heap.size W W'
  cLast : ∀ W, Below wx.heap.size wx W → Calls Tryz.prog 65 #[.pointer (some ⟨b, 0, none⟩)] W fun e W' => e = .returned (.tuple #[.int .i64 L1, .int .i64 L2]) ∧ Below W.heap.size W W'
  cRLast : ∀ W, Below wx.heap.size wx W → Calls Tryz.prog 66 #[.pointer (some ⟨rb, 0, none⟩)] W fun e W' => e = .returned (.tuple #[.int .i64 L1, .int .i64 L2]) ∧ Below W.heap.size W W'
  cTerm : ∀ W, Below wx.heap.size wx W → Calls Tryz.prog 67 #[.pointer (some ⟨b, 0, none⟩), .int .i64 a] W fun e W' => e = .returned (.tuple #[.int .i64 T1, .bool T2]) ∧ Below W.heap.size W W'
  cRTerm : ∀ W, Below wx.heap.size wx W → Calls Tryz.prog 68 #[.pointer (some ⟨rb, 0, none⟩), .int .i64 a] W fun e W' => e = .returned (.tuple #[.int .i64 T1, .bool T2]) ∧ Below W.heap.size W W'
  cAt : ∀ W, Below wx.heap.size wx W → Calls Tryz.prog 69 #[.pointer (some ⟨b, 0, none⟩), .int .i64 a] W fun e W' => e = .returned (.tuple #[.agg #[.int .i64 A1, .int .i64 A2, .int .i64 A3, .string A4], .bool A5]) ∧ Below W.heap.size W W'
  cRAt : ∀ W, Below wx.heap.size wx W → Calls Tryz.prog 70 #[.pointer (some ⟨rb, 0, none⟩), .int .i64 a] W fun e W' => e = .returned (.tuple #[.agg #[.int .i64 A1, .int .i64 A2, .int .i64 A3, .string A4], .bool A5]) ∧ Below W.heap.size W W'
  cSl : ∀ W, Below wx.heap.size wx W → Calls Tryz.prog 71 #[.pointer (some ⟨b, 0, none⟩), .int .i64 a, .int .i64 bb] W (SliceRes sl W)
  cRSl : ∀ W, Below wx.heap.size wx W → Calls Tryz.prog 72 #[.pointer (some ⟨rb, 0, none⟩), .int .i64 a, .int .i64 bb] W (SliceRes sl W)
  cMem : ∀ W, Below wx.heap.size wx W → Calls Tryz.prog 73 #[.pointer (some ⟨b, 0, none⟩), .int .i64 a] W fun e W' => ∃ ao N c, e = .returned (.tuple #[.slice ao N c, .int .i64 mi]) ∧ W'.ownsRow W.heap.size 3 1 (.slice ao N c) N (ms.map (Value.int .i64)) ∧ ms.length = N ∧ Below W.heap.size W W'
  cRMem : ∀ W, Below wx.heap.size wx W → Calls Tryz.prog 74 #[.pointer (some ⟨rb, 0, none⟩), .int .i64 a] W fun e W' => ∃ ao N c, e = .returned (.tuple #[.slice ao N c, .int .i64 mi]) ∧ W'.ownsRow W.heap.size 3 1 (.slice ao N c) N (ms.map (Value.int .i64)) ∧ ms.length = N ∧ Below W.heap.size W W'
  sn : sl.length ≤ 100000
  mn : ms.length ≤ 9
  cell : ∀ W, Below wx.heap.size wx W → W.heap[rb]? = some (.cells #[.int .i64 ba, .int .i64 bt, .slice rao n rcap] 96 (0, 0))
/-- What is asked once more, behind the addings. -/
structure LogMore (wx : World) (b rb : Nat) (a bb ba bt : Int) (nw : Bool) (n : Nat) (rao : Option Addr) (rcap : Nat) : Prop where
  cLen : ∀ W, Below wx.heap.size wx W → Calls Tryz.prog 75 #[.pointer (some ⟨b, 0, none⟩)] W fun e W' => e = .returned (.int .i64 n) ∧ W = W'
  cNew : ∀ W, Below wx.heap.size wx W → Calls Tryz.prog 76 #[.pointer (some ⟨b, 0, none⟩), .int .i64 a, .int .i64 bb] W fun e W' => e = .returned (.bool nw) ∧ Below W.heap.size W W'
  cRNew : ∀ W, Below wx.heap.size wx W → Calls Tryz.prog 77 #[.pointer (some ⟨rb, 0, none⟩), .int .i64 a, .int .i64 bb] W fun e W' => e = .returned (.bool nw) ∧ Below W.heap.size W W'
  cell : ∀ W, Below wx.heap.size wx W → W.heap[rb]? = some (.cells #[.int .i64 ba, .int .i64 bt, .slice rao n rcap] 96 (0, 0))
theorem Play.reads {w wx : World} {b rb bn : Nat} {o : Nat → Tag} {x : LogV} (h : Play w wx b rb bn o x x) {K : Int} {M : Nat} (hB : Bnd x K M) (hK : K < 4611686018427387904) (hM : M ≤ 100000) (a bb : Int) (ha : a ≤ 9223372036854775807) :
    ∃ ba bt L1 L2 T1 T2 A1 A2 A3 A4 A5 sl ms mi nw n rao rcap, LogReads wx b rb a bb ba bt L1 L2 T1 T2 A1 A2 A3 A4 A5 sl ms mi nw n rao rcap ∧ n = x.l.length ∧ ba = x.base ∧ bt = x.term ∧ nw = newerV x a bb := by
  have hb0 := hB.b0
  have he := hB.end_
  have hf := hB.few
  have hd : ∀ e ∈ x.l, e.dt.size ≤ 281474976710656 := fun e hm => by have := hB.dt e hm; omega
  obtain ⟨rao, rcap, _, hrk, _⟩ := h.rl.parts
  refine ⟨x.base, x.term, (lastV x).1, (lastV x).2, (termV x a).1, (termV x a).2, ((atV x a).getD noEnt).ix, ((atV x a).getD noEnt).tm, ((atV x a).getD noEnt).kd, ((atV x a).getD noEnt).dt, (atV x a).isSome, sliceV x a bb, (memV x.l a).1, (memV x.l a).2, newerV x a bb, x.l.length, rao, rcap, ?_, rfl, rfl, rfl, rfl⟩
  refine ⟨fun W hb => ?_, fun W hb => ?_, fun W hb => ?_, fun W hb => ?_, fun W hb => ?_, fun W hb => ?_, fun W hb => ?_, fun W hb => ?_, fun W hb => ?_, fun W hb => ?_, fun W hb => ?_, ?_, memsLen _ _, fun W hb => ?_⟩
  · refine (base_any (h.calm hb).lg).mono ?_
    rintro e W' ⟨rfl, m, hw⟩
    exact ⟨rfl, below_of_drewN hw⟩
  · exact last_any (h.calm hb).lg
  · exact rlast_any (h.calm hb).rl
  · exact term_any (h.calm hb).lg a hb0 (by omega) ha
  · exact rterm_any (h.calm hb).rl a hb0 (by omega)
  · exact at_any (h.calm hb).lg a hb0 (by omega) ha
  · exact rat_any (h.calm hb).rl a hb0 (by omega)
  · exact slice_any (h.calm hb).lg a bb hb0 (by omega) ha (by omega)
  · exact rslice_any (h.calm hb).rl hB.con a bb hb0 (by omega) (by omega)
  · refine (members_any (h.calm hb).lg a hd (by omega)).mono ?_
    intro e W' hm
    exact hm.told
  · refine (rmembers_any (h.calm hb).rl a hd (by omega)).mono ?_
    intro e W' hm
    exact hm.told
  · have := sliceV_len x a bb; omega
  · exact (hb.block _ h.rl.lt).trans hrk
theorem Play.more {w wx : World} {b rb bn : Nat} {o : Nat → Tag} {x : LogV} (h : Play w wx b rb bn o x x) (a bb : Int) {ba bt : Int} {nw : Bool} {n : Nat} {rao : Option Addr} {rcap : Nat} (hk : wx.heap[rb]? = some (.cells #[.int .i64 ba, .int .i64 bt, .slice rao n rcap] 96 (0, 0))) (hn : n = x.l.length) (hw : nw = newerV x a bb) :
    LogMore wx b rb a bb ba bt nw n rao rcap :=
  ⟨fun W hb => by rw [hn]; exact len_any (h.calm hb).lg, fun W hb => by rw [hw]; exact newer_any (h.calm hb).lg a bb, fun W hb => by rw [hw]; exact rnewer_any (h.calm hb).rl a bb, fun W hb => (hb.block _ h.rl.lt).trans hk⟩
/-- The step's block. -/
def OpAt (W : World) (q : Nat) (e : OpV) : Prop := W.heap[q]? = some (.cells #[.int .i64 e.kd, .int .i64 e.a, .int .i64 e.b, .int .i64 e.c, .string e.s, .slice e.ao e.n e.cp] 98 (0, 0))
theorem OpAt.cells {W : World} {q : Nat} {e : OpV} (h : OpAt W q e) : W.cell? ⟨q, 0, none⟩ = some (.int .i64 e.kd) ∧ W.cell? ⟨q, 1, none⟩ = some (.int .i64 e.a) ∧ W.cell? ⟨q, 2, none⟩ = some (.int .i64 e.b) ∧ W.cell? ⟨q, 3, none⟩ = some (.int .i64 e.c) ∧ W.cell? ⟨q, 4, none⟩ = some (.string e.s) ∧ W.cell? ⟨q, 5, none⟩ = some (.slice e.ao e.n e.cp) := by
  unfold OpAt at h
  refine ⟨?_, ?_, ?_, ?_, ?_, ?_⟩ <;> rw [blk_cell h] <;> rfl
theorem OpAt.add {W : World} {q : Nat} {e : OpV} (h : OpAt W q e) : W.cell? ⟨q, 1, none⟩ = some (.int .i64 e.a) ∧ W.cell? ⟨q, 2, none⟩ = some (.int .i64 e.b) ∧ W.cell? ⟨q, 4, none⟩ = some (.string e.s) := ⟨h.cells.2.1, h.cells.2.2.1, h.cells.2.2.2.2.1⟩
theorem OpAt.two {W : World} {q : Nat} {e : OpV} (h : OpAt W q e) : W.cell? ⟨q, 1, none⟩ = some (.int .i64 e.a) ∧ W.cell? ⟨q, 2, none⟩ = some (.int .i64 e.b) := ⟨h.cells.2.1, h.cells.2.2.1⟩
theorem OpAt.lt {W : World} {q : Nat} {e : OpV} (h : OpAt W q e) : q < W.heap.size := blk_lt h
theorem OpAt.below {W W' : World} {q : Nat} {e : OpV} (h : OpAt W q e) (hb : Below W.heap.size W W') : OpAt W' q e := (hb.block q h.lt).trans h
theorem tags2 {o : Nat → Tag} {N : Nat} {v v' : Value} (h1 : ∀ g, v.ownBlock = some g → N ≤ g) (h2 : ∀ g, v'.ownBlock = some g → N ≤ g) (hne : ∀ g, v.ownBlock = some g → v'.ownBlock ≠ some g) :
    ∃ o', Agree o o' N ∧ (∀ M, Tagged o' M (77, 0, 0) v) ∧ (∀ M, Tagged o' M (77, 1, 0) v') ∧ ∀ g, N ≤ g → ¬ SS (o' g) := by
  refine ⟨tagRow (tagRow (retag o N (89, 0, 0)) v 0) v' 1, ((retag_agree o N (89, 0, 0)).trans (tagRow_agree h1) (Nat.le_refl _)).trans (tagRow_agree h2) (Nat.le_refl _), fun M => tagRow_other (tagRow_own _ _ _ _) (fun g hg => hne g hg), fun M => tagRow_own _ _ _ _, fun g hg => tagRow_ns (tagRow_ns ?_)⟩
  unfold retag
  rw [if_neg (by omega)]
  rintro (e | ⟨e, _⟩)
  · injection e with e; cases e
  · exact absurd e (by decide)
theorem Play.opStays {w W W' : World} {b rb bn q i : Nat} {o o' : Nat → Tag} {x y : LogV} {e : OpV} (h : Play w W b rb bn o x y) (hq : OpAt W q e) (ht : o q = (89, 0, 0)) (hu : Upd i o o' W.heap.size) (hT : Turn o SS W W') : OpAt W' q e ∧ o' q = (89, 0, 0) := keep89 hq ht hu hT
theorem Left.op {o o' : Nat → Tag} {W W' : World} {q : Nat} {e : OpV} (h : Left o o' W W') (hq : OpAt W q e) (ht : o q = (89, 0, 0)) : OpAt W' q e ∧ o' q = (89, 0, 0) := h.at_ hq ht
/-- The two logs beside the Book, and the step's block. -/
structure Did (w : World) (b rb bn q : Nat) (e : OpV) (x y : LogV) (W : World) (o : Nat → Tag) : Prop where
  pl : Play w W b rb bn o x y
  op : OpAt W q e
  tg : o q = (89, 0, 0)
theorem Left.lent {W W' : World} {o o' : Nat → Tag} (hl : Left o o' W W') {B g n c : Nat} {l : List Ent} (hL : LentE W B g n c l) (hg : o g = (89, 0, 0)) : LentE W' B g n c l ∧ o' g = (89, 0, 0) := by
  have hlt := hL.lt
  exact ⟨hL.same (hl.tn.block g hlt (fun e => by rw [hg] at e; injection e with e _; cases e)), (hl.ag g hlt).trans hg⟩
section
variable {w W : World} {b rb bn q : Nat} {o : Nat → Tag} {x y : LogV} {e : OpV} (h : Did w b rb bn q e x y W o)
include h
theorem Did.calm {W' : World} (hb : Below W.heap.size W W') : Did w b rb bn q e x y W' o := ⟨h.pl.calm hb, h.op.below hb, h.tg⟩
theorem Did.left {W' : World} {o' : Nat → Tag} {x' y' : LogV} {rb' : Nat} (hp : Play w W' b rb' bn o' x' y') (hl : Left o o' W W') : Did w b rb' bn q e x' y' W' o' := ⟨hp, (hl.op h.op h.tg).1, (hl.op h.op h.tg).2⟩
theorem Did.add {K : Int} {M : Nat} (hn : Bnd x K M) (hK : K < 4611686018427387904) (hM : M ≤ 100000) (hs : e.s.size ≤ 281474976710656) {a1 : Int} (ha : (lastV x).1 + 1 = a1) {W' : World} (hb : Below W.heap.size W W') :
    Calls Tryz.prog 57 #[.pointer (some ⟨b, 0, none⟩), .int .i64 e.a, .int .i64 e.b, .string e.s] W' fun ε W'' => ε = .returned (.int .i64 a1) ∧ ∃ o', Did w b rb bn q e ⟨x.base, x.term, x.l ++ [⟨a1, e.a, e.b, e.s⟩]⟩ y W'' o' := by
  refine ((h.calm hb).pl.add hn hK hM e.a e.b e.s hs).mono ?_
  rw [ha]
  rintro ε W'' ⟨rfl, o', hp, hl⟩
  exact ⟨rfl, o', (h.calm hb).left hp hl⟩
theorem Did.radd {K : Int} {M : Nat} (hn : Bnd y K M) (hK : K < 4611686018427387904) (hM : M ≤ 100000) {a1 : Int} (ha : (lastV y).1 + 1 = a1) {W' : World} (hb : Below W.heap.size W W') :
    Calls Tryz.prog 58 #[.pointer (some ⟨rb, 0, none⟩), .int .i64 e.a, .int .i64 e.b, .string e.s] W' fun ε W'' => ε = .returned (.int .i64 a1) ∧ ∃ o', Did w b rb bn q e x ⟨y.base, y.term, y.l ++ [⟨a1, e.a, e.b, e.s⟩]⟩ W'' o' := by
  refine ((h.calm hb).pl.radd hn hK hM e.a e.b e.s).mono ?_
  rw [ha]
  rintro ε W'' ⟨rfl, o', hp, hl⟩
  exact ⟨rfl, o', (h.calm hb).left hp hl⟩
theorem Did.merge {K : Int} {M : Nat} (hn : Bnd x K M) (hK : K < 4611686018427387904) (hM : M ≤ 100000) {B gm dm : Nat} (hL : LentE W B gm e.n dm e.es) (hg : o gm = (89, 0, 0)) (hE : EntsIn W e.ao e.n e.cp e.es) (h60 : e.n ≤ 60) (ha : e.a ≤ 9223372036854775807)
    {x' : LogV} {a1 : Int} {u1 : Bool} (hm : mergeV x e.a e.b e.c e.es = (x', a1, u1)) :
    Calls Tryz.prog 59 #[.pointer (some ⟨b, 0, none⟩), .int .i64 e.a, .int .i64 e.b, .int .i64 e.c, .slice (some ⟨gm, 0, none⟩) e.n dm] W fun ε W' => ε = .returned (.tuple #[.int .i64 a1, .bool u1]) ∧ ∃ o', Did w b rb bn q e x' y W' o' ∧ LentE W' B gm e.n dm e.es ∧ o' gm = (89, 0, 0) := by
  refine (h.pl.merge hn hK hM (hL.list hE.ents.1) (fun h => by cases h) (by have := hL.1; omega) hE.ok (by omega) e.a e.b e.c ha).mono ?_
  rw [hm]
  rintro ε W' ⟨rfl, o', hp, hl⟩
  obtain ⟨k1, k2⟩ := Left.lent hl hL hg
  exact ⟨rfl, o', h.left hp hl, k1, k2⟩
theorem Did.rmerge {K : Int} {M : Nat} (hn : Bnd y K M) (hK : K < 4611686018427387904) (hM : M ≤ 100000) {B gm dm : Nat} (hL : LentE W B gm e.n dm e.es) (hg : o gm = (89, 0, 0)) (hE : EntsIn W e.ao e.n e.cp e.es) (h60 : e.n ≤ 60)
    {y' : LogV} {a1 : Int} {u1 : Bool} (hm : mergeV y e.a e.b e.c e.es = (y', a1, u1)) :
    Calls Tryz.prog 60 #[.pointer (some ⟨rb, 0, none⟩), .int .i64 e.a, .int .i64 e.b, .int .i64 e.c, .slice e.ao e.n e.cp] W fun ε W' => ε = .returned (.tuple #[.int .i64 a1, .bool u1]) ∧ ∃ o', Did w b rb bn q e x y' W' o' ∧ LentE W' B gm e.n dm e.es := by
  refine (h.pl.rmerge hn hK hM hE.ents hE.le (by have := hE.sz; omega) (by omega) e.a e.b e.c).mono ?_
  rw [hm]
  rintro ε W' ⟨rfl, o', hp, hl⟩
  exact ⟨rfl, o', h.left hp hl, (Left.lent hl hL hg).1⟩
theorem Did.compact {K : Int} {M : Nat} (hn : Bnd x K M) (hK : K < 4611686018427387904) (hM : M ≤ 100000) (ha : e.a ≤ 9223372036854775807) {x' : LogV} {u1 : Bool} (hm : compactV x e.a = (x', u1)) {W' : World} (hb : Below W.heap.size W W') :
    Calls Tryz.prog 61 #[.pointer (some ⟨b, 0, none⟩), .int .i64 e.a] W' fun ε W'' => ε = .returned (.bool u1) ∧ ∃ o', Did w b rb bn q e x' y W'' o' := by
  refine ((h.calm hb).pl.compact hn hK hM e.a ha).mono ?_
  rw [hm]
  rintro ε W'' ⟨rfl, o', hp, hl⟩
  exact ⟨rfl, o', (h.calm hb).left hp hl⟩
theorem Did.rcompact {K : Int} {M : Nat} (hn : Bnd y K M) (hK : K < 4611686018427387904) (hM : M ≤ 100000) {y' : LogV} {u1 : Bool} (hm : compactV y e.a = (y', u1)) {W' : World} (hb : Below W.heap.size W W') :
    Calls Tryz.prog 62 #[.pointer (some ⟨rb, 0, none⟩), .int .i64 e.a] W' fun ε W'' => ε = .returned (.bool u1) ∧ ∃ o', Did w b rb bn q e x y' W'' o' := by
  refine ((h.calm hb).pl.rcompact hn hK hM e.a).mono ?_
  rw [hm]
  rintro ε W'' ⟨rfl, o', hp, hl⟩
  exact ⟨rfl, o', (h.calm hb).left hp hl⟩
theorem Did.reset : Calls Tryz.prog 63 #[.pointer (some ⟨b, 0, none⟩), .int .i64 e.a, .int .i64 e.b] W fun ε W' => ε = .returned (.tuple #[]) ∧ ∃ o', Did w b rb bn q e ⟨e.a, e.b, []⟩ y W' o' := by
  refine (h.pl.reset e.a e.b).mono ?_
  rintro ε W' ⟨rfl, o', hp, hl⟩
  exact ⟨rfl, o', h.left hp hl⟩
theorem Did.fresh : ∃ o', Did w b W.heap.size bn q e x ⟨e.a, e.b, []⟩ (W.alloc (.cells #[.int .i64 e.a, .int .i64 e.b, .slice none 0 0] 96)) o' := by
  obtain ⟨o', hp, hl⟩ := h.pl.fresh e.a e.b
  exact ⟨o', h.left hp hl⟩
end
theorem own_ne_later {w w' : World} {base base' : Nat} {t t' : TypeId} {s s' n n' : Nat} {v v' : Value} {xs xs' : List Value} (h : w.ownsRow base t s v n xs) (h' : w'.ownsRow base' t' s' v' n' xs') (hle : w.heap.size ≤ base') : ∀ g, v.ownBlock = some g → v'.ownBlock ≠ some g := fun g hg hg' => by
  have := (h.lt g hg).2
  have := (h'.lt g hg').1
  omega
end
end Go.Proofs.YtmdidmllaldbaaaGreat
