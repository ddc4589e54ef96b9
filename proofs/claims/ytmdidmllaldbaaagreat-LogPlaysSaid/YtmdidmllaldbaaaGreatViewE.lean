/- Entries that came in, opened. -/
import Derived.Test.YtmdidmllaldbaaaGreatView
import Derived.Test.YtmdidmllaldbaaaGreatEntB
namespace Go.Proofs.YtmdidmllaldbaaaGreat
open Go.ChangeShapes Go.WideShapes Go.ChangeAt Go.RowKit Go.Deep
theorem ent_fields : ∃ f0 f1 f2 f3 : Field, Tryz.prog.underlying 51 = some (.struct #[f0, f1, f2, f3]) ∧ oneCellFields Tryz.prog #[f0, f1, f2, f3] = true ∧ Tryz.prog.underlying f0.type = some (.int .i64) ∧ Tryz.prog.underlying f1.type = some (.int .i64) ∧ Tryz.prog.underlying f2.type = some (.int .i64) ∧ Tryz.prog.underlying f3.type = some .string :=
  ⟨_, _, _, _, Tryz.underlying51, by kernel_rfl, by kernel_rfl, by kernel_rfl, by kernel_rfl, by kernel_rfl⟩
def EntOk (e : Ent) : Prop := (-9223372036854775808 ≤ e.ix ∧ e.ix ≤ 9223372036854775807) ∧ (-9223372036854775808 ≤ e.tm ∧ e.tm ≤ 9223372036854775807) ∧ (-9223372036854775808 ≤ e.kd ∧ e.kd ≤ 9223372036854775807) ∧ e.dt.size ≤ 140737488351232
/-- A slice of entries that came in. -/
structure EntsIn (w : World) (ao : Option Addr) (n c : Nat) (l : List Ent) : Prop where
  ents : Ents w w.heap.size ao n l
  le : n ≤ c
  nil_ : ao = none → n = 0 ∧ c = 0
  sz : c * 40 ≤ 140737488351232
  ok : ∀ e ∈ l, EntOk e
section
variable {H : Type} {enc : TypeId × Value → H} {w : World}
theorem i64_wf {n : Int} (h : (Lit.int .i64 n).wf = true) : -9223372036854775808 ≤ n ∧ n ≤ 9223372036854775807 := by
  simpa [Lit.wf, IntKind.min, IntKind.max, IntKind.bits, IntKind.signed] using h
theorem view_entries {ao : Option Addr} {n c : Nat} {d : DataW H} {p : List MemPlace}
    {ts : List TypeId} {ds : List (DataW H)} (hsz : (DataW.weightsEach Tryz.prog ts ds).all (· ≤ reachBytes) = true) {j : Nat} (hj1 : ts[j]? = some 22) (hj2 : ds[j]? = some d)
    (h : DataW.Trod enc Tryz.prog w 0 (fun _ => true) true 22 (.slice ao n c) d p) : ∃ l, EntsIn w ao n c l := by
  obtain ⟨f0, f1, f2, f3, hu, hone, u0, u1, u2, u3⟩ := ent_fields
  obtain ⟨fuel, hf⟩ := h
  have hr : reachBytes = 140737488351232 := by decide
  rcases open_structs Tryz.underlying22 hu hone (by kernel_rfl) hf with hcs | ⟨a, len, cap, m, D, hcs, hl, hm, hx, hel⟩
  · have hcs' : Value.slice ao n c = .slice none 0 0 := by simpa [Value.cells] using hcs
    injection hcs' with e1 e2 e3
    subst e1; subst e2; subst e3
    exact ⟨[], Ents.nil_ _ _ _, by omega, fun _ => ⟨rfl, rfl⟩, by omega, by simp⟩
  · have hcs' : Value.slice ao n c = .slice (some a) len cap := by simpa [Value.cells] using hcs
    injection hcs' with e1 e2 e3
    subst e1; subst e2; subst e3
    have hm' : m = c := by simpa using hm
    subst hm'
    have hd : d = .slice ((List.range n).map D) ((List.range (m - n)).map fun j => D (n + j)) := hx
    subst hd
    have hw := sized_slice hsz hj1 hj2 Tryz.underlying22
    rw [show Tryz.prog.bytesOf 51 = 40 from by kernel_rfl] at hw
    simp only [List.length_map, List.length_range] at hw
    have each : ∀ i, i < n → ∃ e : Ent, w.cell? (a.add (i * 4 + 0)) = some (.int .i64 e.ix) ∧ w.cell? (a.add (i * 4 + 1)) = some (.int .i64 e.tm) ∧ w.cell? (a.add (i * 4 + 2)) = some (.int .i64 e.kd) ∧ w.cell? (a.add (i * 4 + 3)) = some (.string e.dt) ∧ EntOk e := by
      intro i hi
      obtain ⟨ys, k, hD, hyl, hfs⟩ := hel i (by omega)
      obtain ⟨v0, y0, c0, s0, t0⟩ := hfs 0 f0 rfl
      obtain ⟨v1, y1, c1, s1, t1⟩ := hfs 1 f1 rfl
      obtain ⟨v2, y2, c2, s2, t2⟩ := hfs 2 f2 rfl
      obtain ⟨v3, y3, c3, s3, t3⟩ := hfs 3 f3 rfl
      obtain ⟨n0, e0, x0, w0⟩ := DataW.trod_int u0 t0
      obtain ⟨n1, e1, x1, w1⟩ := DataW.trod_int u1 t1
      obtain ⟨n2, e2, x2, w2⟩ := DataW.trod_int u2 t2
      obtain ⟨n3, e3, x3, w3⟩ := DataW.trod_string u3 t3
      obtain rfl : v0 = .int .i64 n0 := by simpa using e0
      obtain rfl : v1 = .int .i64 n1 := by simpa using e1
      obtain rfl : v2 = .int .i64 n2 := by simpa using e2
      obtain rfl : v3 = .string n3 := by simpa using e3
      refine ⟨⟨n0, n1, n2, n3⟩, c0, c1, c2, c3, i64_wf w0, i64_wf w1, i64_wf w2, ?_⟩
      have := sized_field hsz hj1 hj2 Tryz.underlying22 hu (parts := ys.map (·.1)) (by rw [← hD]; exact List.mem_map.2 ⟨i, by simpa using hi, rfl⟩) (k := 3) (f := f3) (bytes := n3.data.toList) rfl (by rw [List.getElem?_map, s3, x3]; rfl)
      rw [hr] at this
      exact this
    haveI : Inhabited Ent := ⟨⟨0, 0, 0, ⟨#[]⟩⟩⟩
    obtain ⟨E, hE⟩ := choose_lt (α := Ent) each
    refine ⟨(List.range n).map E, ⟨by simp, fun hn => ?_⟩, hl, by simp, by omega, fun e he => ?_⟩
    · obtain ⟨b, o, rfl⟩ := addr_plain (show w.cell? (a.add 0) = _ from by simpa using (hE 0 hn).1)
      refine ⟨b, o, rfl, ?_, fun k e hk => ?_⟩
      · have := cell_lt (hE 0 hn).1; simpa [Addr.add] using this
      · have hkn : k < n := by have := (List.getElem?_eq_some_iff.1 hk).1; simpa using this
        have hek : E k = e := by simpa [hkn] using hk
        subst hek
        obtain ⟨g0, g1, g2, g3, _⟩ := hE k hkn
        have ad : ∀ r, (⟨b, o, none⟩ : Addr).add (k * 4 + r) = ⟨b, o + k * 4 + r, none⟩ := by
          intro r; unfold Addr.add; split
          · rename_i h0; have h0' : k * 4 + r = 0 := by simpa using h0
            rw [show o + k * 4 + r = o from by omega]
          · simp [Nat.add_assoc]
        rw [ad] at g0 g1 g2 g3
        exact ⟨g0, g1, g2, g3⟩
    · obtain ⟨i, hi, rfl⟩ := List.mem_map.1 he
      exact (hE i (by simpa using hi)).2.2.2.2
end
end Go.Proofs.YtmdidmllaldbaaaGreat
