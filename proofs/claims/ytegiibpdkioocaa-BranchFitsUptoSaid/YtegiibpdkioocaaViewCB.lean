/- Children that came in, opened, and how many and how long they are at most. -/
import Derived.Test.YtegiibpdkioocaaViewC
namespace Go.Proofs.Ytegiibpdkioocaa
open Go.ChangeShapes Go.WideShapes Go.ChangeAt Go.RowKit Go.Deep
section
variable {H : Type} {enc : TypeId × Value → H} {w : World}
/-- A list's sum, held against another one's. -/
theorem sum_le_bulk {n : Nat} {D : Nat → DataW H} {E : Nat → Nat} (h : ∀ i, i < n → E i + 1 ≤ Rows.uptoBulk (D i)) : n + ((List.range n).map E).sum ≤ Rows.uptoBulkAll ((List.range n).map D) := by
  induction n with
  | zero => simp [Rows.uptoBulkAll]
  | succ n ih =>
    have h1 := ih (fun i hi => h i (by omega))
    have h2 := h n (by omega)
    have e : ∀ (a b : List (DataW H)), Rows.uptoBulkAll (a ++ b) = Rows.uptoBulkAll a + Rows.uptoBulkAll b := by
      intro a b
      induction a with
      | nil => simp [Rows.uptoBulkAll]
      | cons x r ih => rw [List.cons_append, Rows.uptoBulkAll, Rows.uptoBulkAll, ih]; omega
    rw [List.range_succ, List.map_append, List.map_append, List.sum_append_nat, e]
    simp only [List.map_cons, List.map_nil, List.sum_cons, List.sum_nil, Rows.uptoBulkAll]
    omega
theorem part_le_bulk {l : List (DataW H)} {d : DataW H} {k : Nat} (h : l[k]? = some d) : Rows.uptoBulk d ≤ Rows.uptoBulkAll l := by
  induction l generalizing k with
  | nil => cases h
  | cons x r ih =>
    rw [Rows.uptoBulkAll]
    cases k with
    | zero => simp at h; subst h; omega
    | succ k => have := ih (k := k) (by simpa using h); omega
theorem view_children_bulk {ao : Option Addr} {n c : Nat} {d : DataW H} {p : List MemPlace}
    {ts : List TypeId} {ds : List (DataW H)} (hsz : (DataW.weightsEach Try.prog ts ds).all (· ≤ reachBytes) = true) {j : Nat} (hj1 : ts[j]? = some 77) (hj2 : ds[j]? = some d)
    (h : DataW.Trod enc Try.prog w 0 (fun _ => true) true 77 (.slice ao n c) d p) {K : Nat} (hK : Rows.uptoBulk d ≤ K) : ∃ l, ChdsIn w ao n c l ∧ n + (l.map (·.key.size)).sum ≤ K := by
  obtain ⟨f0, f1, hu, hone, u0, u1⟩ := chd_fields
  obtain ⟨fuel, hf⟩ := h
  have hr : reachBytes = 140737488351232 := by decide
  rcases open_structs Try.underlying77 hu hone (by kernel_rfl) hf with hcs | ⟨a, len, cap, m, D, hcs, hl, hm, hx, hel⟩
  · have hcs' : Value.slice ao n c = .slice none 0 0 := by simpa [Value.cells] using hcs
    injection hcs' with e1 e2 e3
    subst e1; subst e2; subst e3
    exact ⟨[], ⟨Chds.nil_ _ _ _, by omega, fun _ => ⟨rfl, rfl⟩, by omega, by simp⟩, by simp⟩
  · have hcs' : Value.slice ao n c = .slice (some a) len cap := by simpa [Value.cells] using hcs
    injection hcs' with e1 e2 e3
    subst e1; subst e2; subst e3
    have hm' : m = c := by simpa using hm
    subst hm'
    have hd : d = .slice ((List.range n).map D) ((List.range (m - n)).map fun j => D (n + j)) := hx
    subst hd
    have hw := sized_slice hsz hj1 hj2 Try.underlying77
    rw [show Try.prog.bytesOf 82 = 24 from by kernel_rfl] at hw
    simp only [List.length_map, List.length_range] at hw
    have each : ∀ i, i < n → ∃ e : Chd, w.cell? (a.add (i * 2 + 0)) = some (.string e.key) ∧ w.cell? (a.add (i * 2 + 1)) = some (.int .i64 e.pg) ∧ ChdOk e ∧ e.key.size + 1 ≤ Rows.uptoBulk (D i) := by
      intro i hi
      obtain ⟨ys, k, hD, hyl, hfs⟩ := hel i (by omega)
      obtain ⟨v0, y0, c0, s0, t0⟩ := hfs 0 f0 rfl
      obtain ⟨v1, y1, c1, s1, t1⟩ := hfs 1 f1 rfl
      obtain ⟨n0, e0, x0, w0⟩ := DataW.trod_string u0 t0
      obtain ⟨n1, e1, x1, w1⟩ := DataW.trod_int u1 t1
      obtain rfl : v0 = .string n0 := by simpa using e0
      obtain rfl : v1 = .int .i64 n1 := by simpa using e1
      have hb : n0.size + 1 ≤ Rows.uptoBulk (D i) := by
        have h1 := part_le_bulk (l := ys.map (·.1)) (k := 0) (d := .lit (.string n0.data.toList)) (by rw [List.getElem?_map, s0, x0]; rfl)
        rw [hD, Rows.uptoBulk]
        rw [Rows.uptoBulk] at h1
        have : n0.data.toList.length = n0.size := rfl
        omega
      refine ⟨⟨n0, n1⟩, c0, c1, ⟨i64_wfC w1, ?_⟩, hb⟩
      have := sized_field hsz hj1 hj2 Try.underlying77 hu (parts := ys.map (·.1)) (by rw [← hD]; exact List.mem_map.2 ⟨i, by simpa using hi, rfl⟩) (k := 0) (f := f0) (bytes := n0.data.toList) rfl (by rw [List.getElem?_map, s0, x0]; rfl)
      rw [hr] at this
      exact this
    haveI : Inhabited Chd := ⟨⟨⟨#[]⟩, 0⟩⟩
    obtain ⟨E, hE⟩ := choose_lt (α := Chd) each
    refine ⟨(List.range n).map E, ⟨⟨by simp, fun hn => ?_⟩, hl, by simp, by omega, fun e he => ?_⟩, ?_⟩
    · obtain ⟨b, o, rfl⟩ := addr_plain (show w.cell? (a.add 0) = _ from by simpa using (hE 0 hn).1)
      refine ⟨b, o, rfl, ?_, fun k e hk => ?_⟩
      · have := cell_lt (hE 0 hn).1; simpa [Addr.add] using this
      · have hkn : k < n := by have := (List.getElem?_eq_some_iff.1 hk).1; simpa using this
        have hek : E k = e := by simpa [hkn] using hk
        subst hek
        obtain ⟨g0, g1, _⟩ := hE k hkn
        have ad : ∀ r, (⟨b, o, none⟩ : Addr).add (k * 2 + r) = ⟨b, o + k * 2 + r, none⟩ := by
          intro r; unfold Addr.add; split
          · rename_i h0; have h0' : k * 2 + r = 0 := by simpa using h0
            rw [show o + k * 2 + r = o from by omega]
          · simp [Nat.add_assoc]
        rw [ad] at g0 g1
        exact ⟨g0, g1⟩
    · obtain ⟨i, hi, rfl⟩ := List.mem_map.1 he
      exact (hE i (by simpa using hi)).2.2.1
    · have hs := sum_le_bulk (n := n) (D := D) (E := fun i => (E i).key.size) (fun i hi => (hE i hi).2.2.2)
      have e : (((List.range n).map E).map (·.key.size)).sum = ((List.range n).map (fun i => (E i).key.size)).sum := by rw [List.map_map]; rfl
      rw [e]
      rw [Rows.uptoBulk] at hK
      omega
end
end Go.Proofs.Ytegiibpdkioocaa
