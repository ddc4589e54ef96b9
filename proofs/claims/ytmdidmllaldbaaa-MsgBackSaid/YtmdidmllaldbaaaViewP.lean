/- Pairs that came in, opened. -/
import Derived.Test.YtmdidmllaldbaaaView
import Derived.Test.YtmdidmllaldbaaaPairB
namespace Go.Proofs.Ytmdidmllaldbaaa
open Go.ChangeShapes Go.WideShapes Go.ChangeAt Go.RowKit Go.Deep
theorem par_fields : ∃ f0 f1 : Field, Try.prog.underlying 39 = some (.struct #[f0, f1]) ∧ oneCellFields Try.prog #[f0, f1] = true ∧ Try.prog.underlying f0.type = some .string ∧ Try.prog.underlying f1.type = some .string :=
  ⟨_, _, Try.underlying39, by kernel_rfl, by kernel_rfl, by kernel_rfl⟩
def ParOk (e : Par) : Prop := e.key.size ≤ 140737488351232 ∧ e.vl.size ≤ 140737488351232
/-- A slice of pairs that came in. -/
structure ParsIn (w : World) (ao : Option Addr) (n c : Nat) (l : List Par) : Prop where
  pars : Pars w w.heap.size ao n l
  le : n ≤ c
  nil_ : ao = none → n = 0 ∧ c = 0
  sz : c * 32 ≤ 140737488351232
  ok : ∀ e ∈ l, ParOk e
section
variable {H : Type} {enc : TypeId × Value → H} {w : World}
theorem view_pairs {ao : Option Addr} {n c : Nat} {d : DataW H} {p : List MemPlace}
    {ts : List TypeId} {ds : List (DataW H)} (hsz : (DataW.weightsEach Try.prog ts ds).all (· ≤ reachBytes) = true) {j : Nat} (hj1 : ts[j]? = some 24) (hj2 : ds[j]? = some d)
    (h : DataW.Trod enc Try.prog w 0 (fun _ => true) true 24 (.slice ao n c) d p) : ∃ l, ParsIn w ao n c l := by
  obtain ⟨f0, f1, hu, hone, u0, u1⟩ := par_fields
  obtain ⟨fuel, hf⟩ := h
  have hr : reachBytes = 140737488351232 := by decide
  rcases open_structs Try.underlying24 hu hone (by kernel_rfl) hf with hcs | ⟨a, len, cap, m, D, hcs, hl, hm, hx, hel⟩
  · have hcs' : Value.slice ao n c = .slice none 0 0 := by simpa [Value.cells] using hcs
    injection hcs' with e1 e2 e3
    subst e1; subst e2; subst e3
    exact ⟨[], Pars.nil_ _ _ _, by omega, fun _ => ⟨rfl, rfl⟩, by omega, by simp⟩
  · have hcs' : Value.slice ao n c = .slice (some a) len cap := by simpa [Value.cells] using hcs
    injection hcs' with e1 e2 e3
    subst e1; subst e2; subst e3
    have hm' : m = c := by simpa using hm
    subst hm'
    have hd : d = .slice ((List.range n).map D) ((List.range (m - n)).map fun j => D (n + j)) := hx
    subst hd
    have hw := sized_slice hsz hj1 hj2 Try.underlying24
    rw [show Try.prog.bytesOf 39 = 32 from by kernel_rfl] at hw
    simp only [List.length_map, List.length_range] at hw
    have each : ∀ i, i < n → ∃ e : Par, w.cell? (a.add (i * 2 + 0)) = some (.string e.key) ∧ w.cell? (a.add (i * 2 + 1)) = some (.string e.vl) ∧ ParOk e := by
      intro i hi
      obtain ⟨ys, k, hD, hyl, hfs⟩ := hel i (by omega)
      obtain ⟨v0, y0, c0, s0, t0⟩ := hfs 0 f0 rfl
      obtain ⟨v1, y1, c1, s1, t1⟩ := hfs 1 f1 rfl
      obtain ⟨n0, e0, x0, w0⟩ := DataW.trod_string u0 t0
      obtain ⟨n1, e1, x1, w1⟩ := DataW.trod_string u1 t1
      obtain rfl : v0 = .string n0 := by simpa using e0
      obtain rfl : v1 = .string n1 := by simpa using e1
      refine ⟨⟨n0, n1⟩, c0, c1, ?_, ?_⟩
      · have := sized_field hsz hj1 hj2 Try.underlying24 hu (parts := ys.map (·.1)) (by rw [← hD]; exact List.mem_map.2 ⟨i, by simpa using hi, rfl⟩) (k := 0) (f := f0) (bytes := n0.data.toList) rfl (by rw [List.getElem?_map, s0, x0]; rfl)
        rw [hr] at this
        exact this
      · have := sized_field hsz hj1 hj2 Try.underlying24 hu (parts := ys.map (·.1)) (by rw [← hD]; exact List.mem_map.2 ⟨i, by simpa using hi, rfl⟩) (k := 1) (f := f1) (bytes := n1.data.toList) rfl (by rw [List.getElem?_map, s1, x1]; rfl)
        rw [hr] at this
        exact this
    haveI : Inhabited Par := ⟨⟨⟨#[]⟩, ⟨#[]⟩⟩⟩
    obtain ⟨E, hE⟩ := choose_lt (α := Par) each
    refine ⟨(List.range n).map E, ⟨by simp, fun hn => ?_⟩, hl, by simp, by omega, fun e he => ?_⟩
    · obtain ⟨b, o, rfl⟩ := addr_plain (show w.cell? (a.add 0) = _ from by simpa using (hE 0 hn).1)
      refine ⟨b, o, rfl, ?_, fun k e hk => ?_⟩
      · have := cell_lt (hE 0 hn).1; simpa [Addr.add] using this
      · have hkn : k < n := by have := (List.getElem?_eq_some_iff.1 hk).1; simpa using this
        have hek : E k = e := by simpa [hkn] using hk
        subst hek
        obtain ⟨g0, g1, _⟩ := hE k hkn
        have ad : ∀ r, (⟨b, o, none⟩ : Addr).add (k * 2 + r) = ⟨b, o + k * 2 + r, none⟩ := by
          intro r; unfold Addr.add; split
          · rename_i h0; have h0' : k * 2 + r = 0 := by simpa using h0
            rw [show o + k * 2 + r = o from by omega]
          · simp [Nat.add_assoc]
        rw [ad] at g0 g1
        exact ⟨g0, g1⟩
    · obtain ⟨i, hi, rfl⟩ := List.mem_map.1 he
      exact (hE i (by simpa using hi)).2.2
end
end Go.Proofs.Ytmdidmllaldbaaa
