/- Items that came in, opened. -/
import Derived.Test.YtmdidmllaldbaaaGreatView
import Derived.Test.YtmdidmllaldbaaaGreatItB
import Derived.Test.YtmdidmllaldbaaaGreatViewS
namespace Go.Proofs.YtmdidmllaldbaaaGreat
open Go.ChangeShapes Go.WideShapes Go.ChangeAt Go.RowKit Go.Deep
theorem itm_fields : ∃ f0 f1 f2 f3 : Field, Tryz.prog.underlying 133 = some (.struct #[f0, f1, f2, f3]) ∧ oneCellFields Tryz.prog #[f0, f1, f2, f3] = true ∧ Tryz.prog.underlying f0.type = some .string ∧ Tryz.prog.underlying f1.type = some .string ∧ Tryz.prog.underlying f2.type = some (.int .i64) ∧ Tryz.prog.underlying f3.type = some (.int .i64) :=
  ⟨_, _, _, _, Tryz.underlying133, by kernel_rfl, by kernel_rfl, by kernel_rfl, by kernel_rfl, by kernel_rfl⟩
def ItmOk (e : Itm) : Prop := (-9223372036854775808 ≤ e.ov ∧ e.ov ≤ 9223372036854775807) ∧ (-9223372036854775808 ≤ e.sz ∧ e.sz ≤ 9223372036854775807) ∧ e.key.size ≤ 140737488351232 ∧ e.vl.size ≤ 140737488351232
/-- A slice of items that came in. -/
structure ItmsIn (w : World) (ao : Option Addr) (n c : Nat) (l : List Itm) : Prop where
  itms : Itms w w.heap.size ao n l
  le : n ≤ c
  nil_ : ao = none → n = 0 ∧ c = 0
  sz : c * 48 ≤ 140737488351232
  ok : ∀ e ∈ l, ItmOk e
section
variable {H : Type} {enc : TypeId × Value → H} {w : World}
theorem i64_wfI {n : Int} (h : (Lit.int .i64 n).wf = true) : -9223372036854775808 ≤ n ∧ n ≤ 9223372036854775807 := by
  simpa [Lit.wf, IntKind.min, IntKind.max, IntKind.bits, IntKind.signed] using h
/-- A list's sum, held against another one's. -/
theorem sum_le_bulk {n : Nat} {D : Nat → DataW H} {E : Nat → Nat} (h : ∀ i, i < n → E i + 1 ≤ Rows.uptoBulk (D i)) : n + ((List.range n).map E).sum ≤ Rows.uptoBulkAll ((List.range n).map D) := by
  induction n with
  | zero => simp [Rows.uptoBulkAll]
  | succ n ih =>
    have h1 := ih (fun i hi => h i (by omega))
    have h2 := h n (by omega)
    have e : ∀ (a b : List (DataW H)), Rows.uptoBulkAll (a ++ b) = Rows.uptoBulkAll a + Rows.uptoBulkAll b := by
      intro a b
      induction a with
      | nil => simp [Rows.uptoBulkAll]
      | cons x r ih => rw [List.cons_append, Rows.uptoBulkAll, Rows.uptoBulkAll, ih]; omega
    rw [List.range_succ, List.map_append, List.map_append, List.sum_append_nat, e]
    simp only [List.map_cons, List.map_nil, List.sum_cons, List.sum_nil, Rows.uptoBulkAll]
    omega
theorem part_le_bulk {l : List (DataW H)} {d : DataW H} {k : Nat} (h : l[k]? = some d) : Rows.uptoBulk d ≤ Rows.uptoBulkAll l := by
  induction l generalizing k with
  | nil => cases h
  | cons x r ih =>
    rw [Rows.uptoBulkAll]
    cases k with
    | zero => simp at h; subst h; omega
    | succ k => have := ih (k := k) (by simpa using h); omega
theorem two_le_bulk {l : List (DataW H)} {d e : DataW H} (h : l[0]? = some d) (h2 : l[1]? = some e) : Rows.uptoBulk d + Rows.uptoBulk e ≤ Rows.uptoBulkAll l := by
  cases l with
  | nil => cases h
  | cons x r =>
    have h3 := part_le_bulk (l := r) (k := 0) (d := e) (by simpa using h2)
    rw [Rows.uptoBulkAll]
    simp at h
    subst h
    omega
theorem view_items_bulk {ao : Option Addr} {n c : Nat} {d : DataW H} {p : List MemPlace}
    {ts : List TypeId} {ds : List (DataW H)} (hsz : (DataW.weightsEach Tryz.prog ts ds).all (· ≤ reachBytes) = true) {j : Nat} (hj1 : ts[j]? = some 131) (hj2 : ds[j]? = some d)
    (h : DataW.Trod enc Tryz.prog w 0 (fun _ => true) true 131 (.slice ao n c) d p) {K : Nat} (hK : Rows.uptoBulk d ≤ K) : ∃ l, ItmsIn w ao n c l ∧ n + (l.map (fun e => e.key.size + e.vl.size)).sum ≤ K := by
  obtain ⟨f0, f1, f2, f3, hu, hone, u0, u1, u2, u3⟩ := itm_fields
  obtain ⟨fuel, hf⟩ := h
  have hr : reachBytes = 140737488351232 := by decide
  rcases open_structs Tryz.underlying131 hu hone (by kernel_rfl) hf with hcs | ⟨a, len, cap, m, D, hcs, hl, hm, hx, hel⟩
  · have hcs' : Value.slice ao n c = .slice none 0 0 := by simpa [Value.cells] using hcs
    injection hcs' with e1 e2 e3
    subst e1; subst e2; subst e3
    exact ⟨[], ⟨Itms.nil_ _ _ _, by omega, fun _ => ⟨rfl, rfl⟩, by omega, by simp⟩, by simp⟩
  · have hcs' : Value.slice ao n c = .slice (some a) len cap := by simpa [Value.cells] using hcs
    injection hcs' with e1 e2 e3
    subst e1; subst e2; subst e3
    have hm' : m = c := by simpa using hm
    subst hm'
    have hd : d = .slice ((List.range n).map D) ((List.range (m - n)).map fun j => D (n + j)) := hx
    subst hd
    have hw := sized_slice hsz hj1 hj2 Tryz.underlying131
    rw [show Tryz.prog.bytesOf 133 = 48 from by kernel_rfl] at hw
    simp only [List.length_map, List.length_range] at hw
    have each : ∀ i, i < n → ∃ e : Itm, w.cell? (a.add (i * 4 + 0)) = some (.string e.key) ∧ w.cell? (a.add (i * 4 + 1)) = some (.string e.vl) ∧ w.cell? (a.add (i * 4 + 2)) = some (.int .i64 e.ov) ∧ w.cell? (a.add (i * 4 + 3)) = some (.int .i64 e.sz) ∧ ItmOk e ∧ e.key.size + e.vl.size + 1 ≤ Rows.uptoBulk (D i) := by
      intro i hi
      obtain ⟨ys, k, hD, hyl, hfs⟩ := hel i (by omega)
      obtain ⟨v0, y0, c0, s0, t0⟩ := hfs 0 f0 rfl
      obtain ⟨v1, y1, c1, s1, t1⟩ := hfs 1 f1 rfl
      obtain ⟨v2, y2, c2, s2, t2⟩ := hfs 2 f2 rfl
      obtain ⟨v3, y3, c3, s3, t3⟩ := hfs 3 f3 rfl
      obtain ⟨n0, e0, x0, w0⟩ := DataW.trod_string u0 t0
      obtain ⟨n1, e1, x1, w1⟩ := DataW.trod_string u1 t1
      obtain ⟨n2, e2, x2, w2⟩ := DataW.trod_int u2 t2
      obtain ⟨n3, e3, x3, w3⟩ := DataW.trod_int u3 t3
      obtain rfl : v0 = .string n0 := by simpa using e0
      obtain rfl : v1 = .string n1 := by simpa using e1
      obtain rfl : v2 = .int .i64 n2 := by simpa using e2
      obtain rfl : v3 = .int .i64 n3 := by simpa using e3
      have hb : n0.size + n1.size + 1 ≤ Rows.uptoBulk (D i) := by
        have h1 := two_le_bulk (l := ys.map (·.1)) (d := .lit (.string n0.data.toList)) (e := .lit (.string n1.data.toList)) (by rw [List.getElem?_map, s0, x0]; rfl) (by rw [List.getElem?_map, s1, x1]; rfl)
        rw [hD, Rows.uptoBulk]
        rw [Rows.uptoBulk, Rows.uptoBulk] at h1
        have : n0.data.toList.length = n0.size := rfl
        have : n1.data.toList.length = n1.size := rfl
        omega
      refine ⟨⟨n0, n1, n2, n3⟩, c0, c1, c2, c3, ⟨i64_wfI w2, i64_wfI w3, ?_, ?_⟩, hb⟩
      · have := sized_field hsz hj1 hj2 Tryz.underlying131 hu (parts := ys.map (·.1)) (by rw [← hD]; exact List.mem_map.2 ⟨i, by simpa using hi, rfl⟩) (k := 0) (f := f0) (bytes := n0.data.toList) rfl (by rw [List.getElem?_map, s0, x0]; rfl)
        rw [hr] at this
        exact this
      · have := sized_field hsz hj1 hj2 Tryz.underlying131 hu (parts := ys.map (·.1)) (by rw [← hD]; exact List.mem_map.2 ⟨i, by simpa using hi, rfl⟩) (k := 1) (f := f1) (bytes := n1.data.toList) rfl (by rw [List.getElem?_map, s1, x1]; rfl)
        rw [hr] at this
        exact this
    haveI : Inhabited Itm := ⟨⟨⟨#[]⟩, ⟨#[]⟩, 0, 0⟩⟩
    obtain ⟨E, hE⟩ := choose_lt (α := Itm) each
    refine ⟨(List.range n).map E, ⟨⟨by simp, fun hn => ?_⟩, hl, by simp, by omega, fun e he => ?_⟩, ?_⟩
    · obtain ⟨b, o, rfl⟩ := addr_plain (show w.cell? (a.add 0) = _ from by simpa using (hE 0 hn).1)
      refine ⟨b, o, rfl, ?_, fun k e hk => ?_⟩
      · have := cell_lt (hE 0 hn).1; simpa [Addr.add] using this
      · have hkn : k < n := by have := (List.getElem?_eq_some_iff.1 hk).1; simpa using this
        have hek : E k = e := by simpa [hkn] using hk
        subst hek
        obtain ⟨g0, g1, g2, g3, _⟩ := hE k hkn
        have ad : ∀ r, (⟨b, o, none⟩ : Addr).add (k * 4 + r) = ⟨b, o + k * 4 + r, none⟩ := by
          intro r; unfold Addr.add; split
          · rename_i h0; have h0' : k * 4 + r = 0 := by simpa using h0
            rw [show o + k * 4 + r = o from by omega]
          · simp [Nat.add_assoc]
        rw [ad] at g0 g1 g2 g3
        exact ⟨g0, g1, g2, g3⟩
    · obtain ⟨i, hi, rfl⟩ := List.mem_map.1 he
      exact (hE i (by simpa using hi)).2.2.2.2.1
    · have hs := sum_le_bulk (n := n) (D := D) (E := fun i => (E i).key.size + (E i).vl.size) (fun i hi => (hE i hi).2.2.2.2.2)
      have e : (((List.range n).map E).map (fun e => e.key.size + e.vl.size)).sum = ((List.range n).map (fun i => (E i).key.size + (E i).vl.size)).sum := by rw [List.map_map]; rfl
      rw [e]
      rw [Rows.uptoBulk] at hK
      omega
theorem view_items {ao : Option Addr} {n c : Nat} {d : DataW H} {p : List MemPlace}
    {ts : List TypeId} {ds : List (DataW H)} (hsz : (DataW.weightsEach Tryz.prog ts ds).all (· ≤ reachBytes) = true) {j : Nat} (hj1 : ts[j]? = some 131) (hj2 : ds[j]? = some d)
    (h : DataW.Trod enc Tryz.prog w 0 (fun _ => true) true 131 (.slice ao n c) d p) : ∃ l, ItmsIn w ao n c l := by
  obtain ⟨l, h, _⟩ := view_items_bulk hsz hj1 hj2 h (Nat.le_refl _)
  exact ⟨l, h⟩
set_option maxRecDepth 20000 in
theorem view_item {r : Reach} {b0 : Nat} {v : Value} {d : DataW H} {p : List MemPlace}
    {ts : List TypeId} {ds : List (DataW H)} (hsz : (DataW.weightsEach Tryz.prog ts ds).all (· ≤ reachBytes) = true) {j : Nat} (hj1 : ts[j]? = some 133) (hj2 : ds[j]? = some d)
    (hv : Value.okWide Tryz.prog w r b0 133 v) (h : DataW.Trod enc Tryz.prog w 0 (fun _ => true) true 133 v d p) : ∃ o : Itm, v = o.agg ∧ ItmOk o := by
  have hr : reachBytes = 140737488351232 := by decide
  obtain ⟨f0, f1, f2, f3, hu, hone, u0, u1, u2, u3⟩ := itm_fields
  obtain ⟨cs, ys, n, rfl, hl, hd, hyl, hfs⟩ := open_struct hu hone (by kernel_rfl) hv h
  subst hd
  obtain ⟨v0, y0, c0, s0, t0⟩ := hfs 0 f0 rfl
  obtain ⟨v1, y1, c1, s1, t1⟩ := hfs 1 f1 rfl
  obtain ⟨v2, y2, c2, s2, t2⟩ := hfs 2 f2 rfl
  obtain ⟨v3, y3, c3, s3, t3⟩ := hfs 3 f3 rfl
  obtain ⟨n0, e0, x0, w0⟩ := DataW.trod_string u0 t0
  obtain ⟨n1, e1, x1, w1⟩ := DataW.trod_string u1 t1
  obtain ⟨n2, e2, x2, w2⟩ := DataW.trod_int u2 t2
  obtain ⟨n3, e3, x3, w3⟩ := DataW.trod_int u3 t3
  obtain rfl : v0 = .string n0 := by simpa using e0
  obtain rfl : v1 = .string n1 := by simpa using e1
  obtain rfl : v2 = .int .i64 n2 := by simpa using e2
  obtain rfl : v3 = .int .i64 n3 := by simpa using e3
  have hcs : cs = [.string n0, .string n1, .int .i64 n2, .int .i64 n3] := by
    apply List.ext_getElem?
    intro i
    rcases i with _ | _ | _ | _ | i
    · exact c0
    · exact c1
    · exact c2
    · exact c3
    · rw [List.getElem?_eq_none (by rw [hl]; show 4 ≤ _; omega), List.getElem?_eq_none (by simp)]
  refine ⟨⟨n0, n1, n2, n3⟩, by rw [hcs]; rfl, i64_wfI w2, i64_wfI w3, ?_, ?_⟩
  · have := sized_part hsz hj1 hj2 hu (k := 0) (f := f0) (bytes := n0.data.toList) rfl (by rw [List.getElem?_map, s0, x0]; rfl)
    rw [hr] at this; exact this
  · have := sized_part hsz hj1 hj2 hu (k := 1) (f := f1) (bytes := n1.data.toList) rfl (by rw [List.getElem?_map, s1, x1]; rfl)
    rw [hr] at this; exact this
end
end Go.Proofs.YtmdidmllaldbaaaGreat
