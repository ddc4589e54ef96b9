/- A child that came in by value. -/
import Derived.Test.YtegiibpdkioocaaViewS
import Derived.Test.YtegiibpdkioocaaViewC
namespace Go.Proofs.Ytegiibpdkioocaa
open Go.ChangeShapes Go.WideShapes Go.ChangeAt Go.RowKit Go.Deep
section
variable {H : Type} {enc : TypeId × Value → H} {w : World}
set_option maxRecDepth 20000 in
theorem view_child {r : Reach} {b0 : Nat} {v : Value} {d : DataW H} {p : List MemPlace}
    {ts : List TypeId} {ds : List (DataW H)} (hsz : (DataW.weightsEach Try.prog ts ds).all (· ≤ reachBytes) = true) {j : Nat} (hj1 : ts[j]? = some 82) (hj2 : ds[j]? = some d)
    (hv : Value.okWide Try.prog w r b0 82 v) (h : DataW.Trod enc Try.prog w 0 (fun _ => true) true 82 v d p) : ∃ o : Chd, v = o.agg ∧ ChdOk o := by
  have hr : reachBytes = 140737488351232 := by decide
  obtain ⟨f0, f1, hu, hone, u0, u1⟩ := chd_fields
  obtain ⟨cs, ys, n, rfl, hl, hd, hyl, hfs⟩ := open_struct hu hone (by kernel_rfl) hv h
  subst hd
  obtain ⟨v0, y0, c0, s0, t0⟩ := hfs 0 f0 rfl
  obtain ⟨v1, y1, c1, s1, t1⟩ := hfs 1 f1 rfl
  obtain ⟨n0, e0, x0, w0⟩ := DataW.trod_string u0 t0
  obtain ⟨n1, e1, x1, w1⟩ := DataW.trod_int u1 t1
  obtain rfl : v0 = .string n0 := by simpa using e0
  obtain rfl : v1 = .int .i64 n1 := by simpa using e1
  have hcs : cs = [.string n0, .int .i64 n1] := by
    apply List.ext_getElem?
    intro i
    rcases i with _ | _ | i
    · exact c0
    · exact c1
    · rw [List.getElem?_eq_none (by rw [hl]; show 2 ≤ _; omega), List.getElem?_eq_none (by simp)]
  refine ⟨⟨n0, n1⟩, by rw [hcs]; rfl, i64_wfC w1, ?_⟩
  have := sized_part hsz hj1 hj2 hu (k := 0) (f := f0) (bytes := n0.data.toList) rfl (by rw [List.getElem?_map, s0, x0]; rfl)
  rw [hr] at this; exact this
end
end Go.Proofs.Ytegiibpdkioocaa
