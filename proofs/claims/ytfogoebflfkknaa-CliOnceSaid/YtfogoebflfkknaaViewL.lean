/- The steps of arboretumlaw29 (a struct with a struct in it): one that came in by value, and a slice of them. -/
import Derived.Test.YtfogoebflfkknaaViewO
import Derived.Test.YtfogoebflfkknaaCmdC
namespace Go.Proofs.Ytfogoebflfkknaa
open Go.ChangeShapes Go.WideShapes Go.ChangeAt Go.RowKit Go.Deep
structure LOp where
  kd : Int
  a : Int
  b : Int
  key : ByteArray
  val : ByteArray
  old : ByteArray
  r : RepV
  dt : ByteArray
def LOp.cells (o : LOp) : List Value := [.int .i64 o.kd, .int .i64 o.a, .int .i64 o.b, .string o.key, .string o.val, .string o.old, .int .i64 o.r.err, .string o.r.val, .int .i64 o.r.num, .string o.dt]
def LOpOk (o : LOp) : Prop := (-9223372036854775808 ≤ o.kd ∧ o.kd ≤ 9223372036854775807) ∧ (-9223372036854775808 ≤ o.a ∧ o.a ≤ 9223372036854775807) ∧ (-9223372036854775808 ≤ o.b ∧ o.b ≤ 9223372036854775807) ∧
  (-9223372036854775808 ≤ o.r.err ∧ o.r.err ≤ 9223372036854775807) ∧ (-9223372036854775808 ≤ o.r.num ∧ o.r.num ≤ 9223372036854775807) ∧
  o.key.size ≤ 140737488351232 ∧ o.val.size ≤ 140737488351232 ∧ o.old.size ≤ 140737488351232 ∧ o.r.val.size ≤ 140737488351232 ∧ o.dt.size ≤ 140737488351232
/-- Steps lie in a row. -/
def LOps (w : World) (B : Nat) (ao : Option Addr) (n : Nat) (l : List LOp) : Prop :=
  l.length = n ∧ (0 < n → ∃ b o, ao = some ⟨b, o, none⟩ ∧ b < B ∧ ∀ k e, l[k]? = some e → ∀ j v, e.cells[j]? = some v → w.cell? ⟨b, o + k * 10 + j, none⟩ = some v)
structure LOpsIn (w : World) (ao : Option Addr) (n c : Nat) (l : List LOp) : Prop where
  ops : LOps w w.heap.size ao n l
  le : n ≤ c
  nil_ : ao = none → n = 0 ∧ c = 0
  sz : c * 120 ≤ 140737488351232
  ok : ∀ e ∈ l, LOpOk e
section
variable {H : Type} {enc : TypeId × Value → H} {w : World} {base : Nat} {spare : Nat → Bool} {held : Bool}
theorem drop_take1 {cs : List Value} {i : Nat} {v : Value} (h : (cs.drop i).take 1 = [v]) : cs[i]? = some v := by
  have := congrArg (fun l => l[0]?) h
  simpa [List.getElem?_take, List.getElem?_drop] using this
theorem str_size {ts : List TypeId} {ds : List (DataW H)} {t : TypeId} {n : Nat} {s : ByteArray} (hw : ∀ m ∈ DataW.weightsEach Try.prog ts ds, m ≤ reachBytes) (ht : ts[n]? = some t) (hd : ds[n]? = some (.lit (.string s.data.toList))) : s.size ≤ 140737488351232 := by
  have hr : reachBytes = 140737488351232 := by decide
  have := hw s.data.toList.length (DataW.weights_mem_each ht hd _ (by simp [DataW.weights]))
  rw [hr] at this
  exact this
set_option maxRecDepth 20000 in
theorem lop_view {fuel : Nat} {cs : List Value} {x : DataW H × List MemPlace} (h : DataW.trod enc Try.prog w base spare held fuel 71 cs = some x) (hw : ∀ n ∈ x.1.weights Try.prog 71, n ≤ reachBytes) :
    ∃ o : LOp, cs = o.cells ∧ LOpOk o := by
  obtain ⟨f0, f1, f2, f3, f4, f5, f6, f7, hu, o0, o1, o2, o3, o4, o5, o6, o7, u0, u1, u2, u3, u4, u5, hT, u7, k0, k1, k2, k3, k4, k5, k6, k7⟩ : ∃ f0 f1 f2 f3 f4 f5 f6 f7 : Field, Try.prog.underlying 71 = some (.struct #[f0, f1, f2, f3, f4, f5, f6, f7]) ∧
      f0.offset = 0 ∧ f1.offset = 1 ∧ f2.offset = 2 ∧ f3.offset = 3 ∧ f4.offset = 4 ∧ f5.offset = 5 ∧ f6.offset = 6 ∧ f7.offset = 9 ∧
      Try.prog.underlying f0.type = some (.int .i64) ∧ Try.prog.underlying f1.type = some (.int .i64) ∧ Try.prog.underlying f2.type = some (.int .i64) ∧ Try.prog.underlying f3.type = some .string ∧ Try.prog.underlying f4.type = some .string ∧ Try.prog.underlying f5.type = some .string ∧ f6.type = 26 ∧ Try.prog.underlying f7.type = some .string ∧
      Try.prog.cellsOf f0.type = 1 ∧ Try.prog.cellsOf f1.type = 1 ∧ Try.prog.cellsOf f2.type = 1 ∧ Try.prog.cellsOf f3.type = 1 ∧ Try.prog.cellsOf f4.type = 1 ∧ Try.prog.cellsOf f5.type = 1 ∧ Try.prog.cellsOf f6.type = 3 ∧ Try.prog.cellsOf f7.type = 1 :=
    ⟨_, _, _, _, _, _, _, _, Try.underlying71, rfl, rfl, rfl, rfl, rfl, rfl, rfl, rfl, by kernel_rfl, by kernel_rfl, by kernel_rfl, by kernel_rfl, by kernel_rfl, by kernel_rfl, rfl, by kernel_rfl, by kernel_rfl, by kernel_rfl, by kernel_rfl, by kernel_rfl, by kernel_rfl, by kernel_rfl, by kernel_rfl, by kernel_rfl⟩
  obtain ⟨g0, g1, g2, hv, p0, p1, p2, v0, v1, v2, q0, q1, q2⟩ : ∃ g0 g1 g2 : Field, Try.prog.underlying 26 = some (.struct #[g0, g1, g2]) ∧ g0.offset = 0 ∧ g1.offset = 1 ∧ g2.offset = 2 ∧
      Try.prog.underlying g0.type = some (.int .i64) ∧ Try.prog.underlying g1.type = some .string ∧ Try.prog.underlying g2.type = some (.int .i64) ∧ Try.prog.cellsOf g0.type = 1 ∧ Try.prog.cellsOf g1.type = 1 ∧ Try.prog.cellsOf g2.type = 1 :=
    ⟨_, _, _, Try.underlying26, rfl, rfl, rfl, by kernel_rfl, by kernel_rfl, by kernel_rfl, by kernel_rfl, by kernel_rfl, by kernel_rfl⟩
  obtain ⟨ys, n, _, rfl, hlen, hyl, hg⟩ := DataW.trod_struct hu h
  have hl10 : cs.length = 10 := hlen.trans (by kernel_rfl)
  have hy8 : ys.length = 8 := hyl
  have e : ∀ i (hi : i < 8), ys[i]? = some (ys[i]'(by omega)) := fun i hi => List.getElem?_eq_getElem (by omega)
  obtain ⟨n0, a0, x0, w0⟩ := DataW.trod_int u0 ((hg 0 f0 rfl).trans (e 0 (by omega)))
  obtain ⟨n1, a1, x1, w1⟩ := DataW.trod_int u1 ((hg 1 f1 rfl).trans (e 1 (by omega)))
  obtain ⟨n2, a2, x2, w2⟩ := DataW.trod_int u2 ((hg 2 f2 rfl).trans (e 2 (by omega)))
  obtain ⟨n3, a3, x3, w3⟩ := DataW.trod_string u3 ((hg 3 f3 rfl).trans (e 3 (by omega)))
  obtain ⟨n4, a4, x4, w4⟩ := DataW.trod_string u4 ((hg 4 f4 rfl).trans (e 4 (by omega)))
  obtain ⟨n5, a5, x5, w5⟩ := DataW.trod_string u5 ((hg 5 f5 rfl).trans (e 5 (by omega)))
  obtain ⟨n7, a7, x7, w7⟩ := DataW.trod_string u7 ((hg 7 f7 rfl).trans (e 7 (by omega)))
  have h6 := (hg 6 f6 rfl).trans (e 6 (by omega))
  rw [hT, o6] at h6
  obtain ⟨zs, m, _, hx6, _, hzl, hz⟩ := DataW.trod_struct hv h6
  have hz3 : zs.length = 3 := hzl
  have e' : ∀ i (hi : i < 3), zs[i]? = some (zs[i]'(by omega)) := fun i hi => List.getElem?_eq_getElem (by omega)
  obtain ⟨m0, b0, y0, w8⟩ := DataW.trod_int v0 ((hz 0 g0 rfl).trans (e' 0 (by omega)))
  obtain ⟨m1, b1, y1, w9⟩ := DataW.trod_string v1 ((hz 1 g1 rfl).trans (e' 1 (by omega)))
  obtain ⟨m2, b2, y2, w10⟩ := DataW.trod_int v2 ((hz 2 g2 rfl).trans (e' 2 (by omega)))
  rw [o0, k0] at a0; rw [o1, k1] at a1; rw [o2, k2] at a2; rw [o3, k3] at a3; rw [o4, k4] at a4; rw [o5, k5] at a5; rw [o7, k7] at a7
  rw [p0, q0] at b0; rw [p1, q1] at b1; rw [p2, q2] at b2
  have c6 : ∀ i, i < 3 → ((cs.drop 6).take (Try.prog.cellsOf 26))[i]? = cs[6 + i]? := fun i hi => by
    rw [List.getElem?_take, if_pos (by rw [show Try.prog.cellsOf 26 = 3 from by kernel_rfl]; exact hi), List.getElem?_drop]
  have hcs : cs = (LOp.mk n0 n1 n2 n3 n4 n5 ⟨m0, m2, m1⟩ n7).cells := by
    apply List.ext_getElem?
    intro i
    rcases i with _ | _ | _ | _ | _ | _ | _ | _ | _ | _ | i
    · exact drop_take1 a0
    · exact drop_take1 a1
    · exact drop_take1 a2
    · exact drop_take1 a3
    · exact drop_take1 a4
    · exact drop_take1 a5
    · rw [← c6 0 (by omega)]; exact drop_take1 b0
    · rw [← c6 1 (by omega)]; exact drop_take1 b1
    · rw [← c6 2 (by omega)]; exact drop_take1 b2
    · exact drop_take1 a7
    · rw [List.getElem?_eq_none (by omega), List.getElem?_eq_none (by simp [LOp.cells])]
  have hwe : ∀ m ∈ DataW.weightsEach Try.prog (#[f0, f1, f2, f3, f4, f5, f6, f7].toList.map (·.type)) (ys.map (·.1)), m ≤ reachBytes := by
    intro m hm
    refine hw m ?_
    show m ∈ (DataW.agg (ys.map (·.1))).weights Try.prog 71
    rw [DataW.weights, hu]
    exact hm
  have hd : ∀ i (hi : i < 8), (ys.map (·.1))[i]? = some (ys[i]'(by omega)).1 := fun i hi => by rw [List.getElem?_map, e i hi]; rfl
  have hwz : ∀ m ∈ DataW.weightsEach Try.prog (#[g0, g1, g2].toList.map (·.type)) (zs.map (·.1)), m ≤ reachBytes := by
    intro m hm
    refine hwe m (DataW.weights_mem_each (j := 6) (t := f6.type) rfl (hd 6 (by omega)) m ?_)
    rw [show (ys[6]'(by omega)).1 = .agg (zs.map (·.1)) from congrArg Prod.fst hx6, hT, DataW.weights, hv]
    exact hm
  refine ⟨_, hcs, i64_wfO w0, i64_wfO w1, i64_wfO w2, i64_wfO w8, i64_wfO w10, ?_, ?_, ?_, ?_, ?_⟩
  · exact str_size hwe (n := 3) (t := f3.type) rfl ((hd 3 (by omega)).trans (by rw [x3]))
  · exact str_size hwe (n := 4) (t := f4.type) rfl ((hd 4 (by omega)).trans (by rw [x4]))
  · exact str_size hwe (n := 5) (t := f5.type) rfl ((hd 5 (by omega)).trans (by rw [x5]))
  · refine str_size hwz (n := 1) (t := g1.type) rfl ?_
    rw [List.getElem?_map, e' 1 (by omega), y1]
    rfl
  · exact str_size hwe (n := 7) (t := f7.type) rfl ((hd 7 (by omega)).trans (by rw [x7]))
set_option maxRecDepth 20000 in
/-- A step that came in by value. -/
theorem view_lop {r : Reach} {b0 : Nat} {v : Value} {d : DataW H} {p : List MemPlace}
    {ts : List TypeId} {ds : List (DataW H)} (hsz : (DataW.weightsEach Try.prog ts ds).all (· ≤ reachBytes) = true) {j : Nat} (hj1 : ts[j]? = some 71) (hj2 : ds[j]? = some d)
    (hv : Value.okWide Try.prog w r b0 71 v) (h : DataW.Trod enc Try.prog w 0 (fun _ => true) true 71 v d p) : ∃ o : LOp, v = .agg o.cells.toArray ∧ LOpOk o := by
  obtain ⟨cs, rfl, _⟩ := okWide_struct Try.underlying71 hv
  obtain ⟨l⟩ := cs
  obtain ⟨fuel, hf⟩ := h
  obtain ⟨o, ho, hok⟩ := lop_view (cs := l) hf (fun n hn => by simpa using List.all_eq_true.1 hsz n (DataW.weights_mem_each hj1 hj2 n hn))
  exact ⟨o, by rw [ho], hok⟩
set_option maxRecDepth 20000 in
/-- A slice of steps that came in. -/
theorem view_lops {ao : Option Addr} {n c : Nat} {d : DataW H} {p : List MemPlace}
    {ts : List TypeId} {ds : List (DataW H)} (hsz : (DataW.weightsEach Try.prog ts ds).all (· ≤ reachBytes) = true) {j : Nat} (hj1 : ts[j]? = some 68) (hj2 : ds[j]? = some d)
    (h : DataW.Trod enc Try.prog w 0 (fun _ => true) true 68 (.slice ao n c) d p) : ∃ l, LOpsIn w ao n c l := by
  obtain ⟨fuel, hf⟩ := h
  have hr : reachBytes = 140737488351232 := by decide
  rcases open_slice Try.underlying68 hf with ⟨hcs, _⟩ | ⟨a, len, cap, m, n', D, Pl, hcs, _, hl, _, hm, hx, hi⟩
  · have hcs' : Value.slice ao n c = .slice none 0 0 := by simpa [Value.cells] using hcs
    injection hcs' with e1 e2 e3
    subst e1; subst e2; subst e3
    exact ⟨[], ⟨rfl, fun h => by omega⟩, by omega, fun _ => ⟨rfl, rfl⟩, by omega, by simp⟩
  · have hcs' : Value.slice ao n c = .slice (some a) len cap := by simpa [Value.cells] using hcs
    injection hcs' with e1 e2 e3
    subst e1; subst e2; subst e3
    have hm' : m = c := by simpa using hm
    subst hm'
    have hd : d = .slice ((List.range n).map D) ((List.range (m - n)).map fun j => D (n + j)) := congrArg Prod.fst hx
    subst hd
    have hw := sized_slice hsz hj1 hj2 Try.underlying68
    rw [show Try.prog.bytesOf 71 = 120 from by kernel_rfl] at hw
    simp only [List.length_map, List.length_range] at hw
    have each : ∀ i, i < n → ∃ e : LOp, (∀ j v, e.cells[j]? = some v → w.cell? (a.add (i * 10 + j)) = some v) ∧ LOpOk e := by
      intro i him
      obtain ⟨cs', hc, htr⟩ := hi i (by omega)
      obtain ⟨o, ho, hok⟩ := lop_view htr (fun k hk => sized_elem hsz hj1 hj2 Try.underlying68 (d := D i) (List.mem_map.2 ⟨i, List.mem_range.2 him, rfl⟩) k hk)
      obtain ⟨_, hcl, hat⟩ := World.cells?_some hc
      refine ⟨o, fun j v hj => ?_, hok⟩
      have hj10 : j < 10 := (List.getElem?_eq_some_iff.1 hj).1
      have := hat j (by rw [show Try.prog.cellsOf 71 = 10 from by kernel_rfl]; exact hj10)
      rw [Go.Deep.add_add, show Try.prog.cellsOf 71 = 10 from by kernel_rfl, ho, hj] at this
      exact this
    haveI : Inhabited LOp := ⟨⟨0, 0, 0, ⟨#[]⟩, ⟨#[]⟩, ⟨#[]⟩, rep0, ⟨#[]⟩⟩⟩
    obtain ⟨E, hE⟩ := choose_lt (α := LOp) each
    refine ⟨(List.range n).map E, ⟨by simp, fun hn => ?_⟩, hl, by simp, by omega, fun e he => ?_⟩
    · obtain ⟨b, o, rfl⟩ := addr_plain (show w.cell? (a.add 0) = _ from by simpa using (hE 0 hn).1 0 _ rfl)
      refine ⟨b, o, rfl, ?_, fun k e hk => ?_⟩
      · have := cell_lt ((hE 0 hn).1 0 _ rfl); simpa [Addr.add] using this
      · have hkn : k < n := by have := (List.getElem?_eq_some_iff.1 hk).1; simpa using this
        have hek : E k = e := by simpa [hkn] using hk
        subst hek
        intro j v hj
        have := (hE k hkn).1 j v hj
        have ad : (⟨b, o, none⟩ : Addr).add (k * 10 + j) = ⟨b, o + k * 10 + j, none⟩ := by
          unfold Addr.add; split
          · rename_i h0; have h0' : k * 10 + j = 0 := by simpa using h0
            rw [show o + k * 10 + j = o from by omega]
          · simp [Nat.add_assoc]
        rw [ad] at this
        exact this
    · obtain ⟨i, hi, rfl⟩ := List.mem_map.1 he
      exact (hE i (by simpa using hi)).2
end
end Go.Proofs.Ytfogoebflfkknaa
