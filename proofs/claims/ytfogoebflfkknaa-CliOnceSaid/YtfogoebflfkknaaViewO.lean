/- Operations and replies that came in by value. -/
import Derived.Test.YtfogoebflfkknaaViewS
import Derived.Test.YtfogoebflfkknaaCmdD
namespace Go.Proofs.Ytfogoebflfkknaa
open Go.ChangeShapes Go.WideShapes Go.ChangeAt Go.RowKit Go.Deep
theorem i64_wfO {n : Int} (h : (Lit.int .i64 n).wf = true) : -9223372036854775808 ≤ n ∧ n ≤ 9223372036854775807 := by
  simpa [Lit.wf, IntKind.min, IntKind.max, IntKind.bits, IntKind.signed] using h
section
variable {H : Type} {enc : TypeId × Value → H} {w : World}
set_option maxRecDepth 20000 in
theorem view_op {r : Reach} {b0 : Nat} {v : Value} {d : DataW H} {p : List MemPlace}
    {ts : List TypeId} {ds : List (DataW H)} (hsz : (DataW.weightsEach Try.prog ts ds).all (· ≤ reachBytes) = true) {j : Nat} (hj1 : ts[j]? = some 23) (hj2 : ds[j]? = some d)
    (hv : Value.okWide Try.prog w r b0 23 v) (h : DataW.Trod enc Try.prog w 0 (fun _ => true) true 23 v d p) : ∃ o : OpV, v = o.agg ∧ OpOk o := by
  have hr : reachBytes = 140737488351232 := by decide
  obtain ⟨f0, f1, f2, f3, f4, f5, hu, hone, u0, u1, u2, u3, u4, u5⟩ : ∃ f0 f1 f2 f3 f4 f5 : Field, Try.prog.underlying 23 = some (.struct #[f0, f1, f2, f3, f4, f5]) ∧ oneCellFields Try.prog #[f0, f1, f2, f3, f4, f5] = true ∧ Try.prog.underlying f0.type = some (.int .i64) ∧ Try.prog.underlying f1.type = some (.int .i64) ∧ Try.prog.underlying f2.type = some (.int .i64) ∧ Try.prog.underlying f3.type = some .string ∧ Try.prog.underlying f4.type = some .string ∧ Try.prog.underlying f5.type = some .string := ⟨_, _, _, _, _, _, Try.underlying23, by kernel_rfl, by kernel_rfl, by kernel_rfl, by kernel_rfl, by kernel_rfl, by kernel_rfl, by kernel_rfl⟩
  obtain ⟨cs, ys, n, rfl, hl, hd, hyl, hfs⟩ := open_struct hu hone (by kernel_rfl) hv h
  subst hd
  obtain ⟨v0, y0, c0, s0, t0⟩ := hfs 0 f0 rfl
  obtain ⟨v1, y1, c1, s1, t1⟩ := hfs 1 f1 rfl
  obtain ⟨v2, y2, c2, s2, t2⟩ := hfs 2 f2 rfl
  obtain ⟨v3, y3, c3, s3, t3⟩ := hfs 3 f3 rfl
  obtain ⟨v4, y4, c4, s4, t4⟩ := hfs 4 f4 rfl
  obtain ⟨v5, y5, c5, s5, t5⟩ := hfs 5 f5 rfl
  obtain ⟨n0, e0, x0, w0⟩ := DataW.trod_int u0 t0
  obtain ⟨n1, e1, x1, w1⟩ := DataW.trod_int u1 t1
  obtain ⟨n2, e2, x2, w2⟩ := DataW.trod_int u2 t2
  obtain ⟨n3, e3, x3, w3⟩ := DataW.trod_string u3 t3
  obtain ⟨n4, e4, x4, w4⟩ := DataW.trod_string u4 t4
  obtain ⟨n5, e5, x5, w5⟩ := DataW.trod_string u5 t5
  obtain rfl : v0 = .int .i64 n0 := by simpa using e0
  obtain rfl : v1 = .int .i64 n1 := by simpa using e1
  obtain rfl : v2 = .int .i64 n2 := by simpa using e2
  obtain rfl : v3 = .string n3 := by simpa using e3
  obtain rfl : v4 = .string n4 := by simpa using e4
  obtain rfl : v5 = .string n5 := by simpa using e5
  have hcs : cs = [.int .i64 n0, .int .i64 n1, .int .i64 n2, .string n3, .string n4, .string n5] := by
    apply List.ext_getElem?
    intro i
    rcases i with _ | _ | _ | _ | _ | _ | i
    · exact c0
    · exact c1
    · exact c2
    · exact c3
    · exact c4
    · exact c5
    · rw [List.getElem?_eq_none (by rw [hl]; show 6 ≤ _; omega), List.getElem?_eq_none (by simp)]
  refine ⟨⟨n0, n1, n2, n3, n4, n5⟩, by rw [hcs]; rfl, i64_wfO w0, i64_wfO w1, i64_wfO w2, ?_, ?_, ?_⟩
  · have := sized_part hsz hj1 hj2 hu (k := 3) (f := f3) (bytes := n3.data.toList) rfl (by rw [List.getElem?_map, s3, x3]; rfl)
    rw [hr] at this; exact this
  · have := sized_part hsz hj1 hj2 hu (k := 4) (f := f4) (bytes := n4.data.toList) rfl (by rw [List.getElem?_map, s4, x4]; rfl)
    rw [hr] at this; exact this
  · have := sized_part hsz hj1 hj2 hu (k := 5) (f := f5) (bytes := n5.data.toList) rfl (by rw [List.getElem?_map, s5, x5]; rfl)
    rw [hr] at this; exact this
set_option maxRecDepth 20000 in
theorem view_reply {r : Reach} {b0 : Nat} {v : Value} {d : DataW H} {p : List MemPlace}
    {ts : List TypeId} {ds : List (DataW H)} (hsz : (DataW.weightsEach Try.prog ts ds).all (· ≤ reachBytes) = true) {j : Nat} (hj1 : ts[j]? = some 26) (hj2 : ds[j]? = some d)
    (hv : Value.okWide Try.prog w r b0 26 v) (h : DataW.Trod enc Try.prog w 0 (fun _ => true) true 26 v d p) :
    ∃ o : RepV, v = o.agg ∧ (-9223372036854775808 ≤ o.err ∧ o.err ≤ 9223372036854775807) ∧ (-9223372036854775808 ≤ o.num ∧ o.num ≤ 9223372036854775807) ∧ o.val.size ≤ 140737488351232 := by
  have hr : reachBytes = 140737488351232 := by decide
  obtain ⟨f0, f1, f2, hu, hone, u0, u1, u2⟩ : ∃ f0 f1 f2 : Field, Try.prog.underlying 26 = some (.struct #[f0, f1, f2]) ∧ oneCellFields Try.prog #[f0, f1, f2] = true ∧ Try.prog.underlying f0.type = some (.int .i64) ∧ Try.prog.underlying f1.type = some .string ∧ Try.prog.underlying f2.type = some (.int .i64) := ⟨_, _, _, Try.underlying26, by kernel_rfl, by kernel_rfl, by kernel_rfl, by kernel_rfl⟩
  obtain ⟨cs, ys, n, rfl, hl, hd, hyl, hfs⟩ := open_struct hu hone (by kernel_rfl) hv h
  subst hd
  obtain ⟨v0, y0, c0, s0, t0⟩ := hfs 0 f0 rfl
  obtain ⟨v1, y1, c1, s1, t1⟩ := hfs 1 f1 rfl
  obtain ⟨v2, y2, c2, s2, t2⟩ := hfs 2 f2 rfl
  obtain ⟨n0, e0, x0, w0⟩ := DataW.trod_int u0 t0
  obtain ⟨n1, e1, x1, w1⟩ := DataW.trod_string u1 t1
  obtain ⟨n2, e2, x2, w2⟩ := DataW.trod_int u2 t2
  obtain rfl : v0 = .int .i64 n0 := by simpa using e0
  obtain rfl : v1 = .string n1 := by simpa using e1
  obtain rfl : v2 = .int .i64 n2 := by simpa using e2
  have hcs : cs = [.int .i64 n0, .string n1, .int .i64 n2] := by
    apply List.ext_getElem?
    intro i
    rcases i with _ | _ | _ | i
    · exact c0
    · exact c1
    · exact c2
    · rw [List.getElem?_eq_none (by rw [hl]; show 3 ≤ _; omega), List.getElem?_eq_none (by simp)]
  refine ⟨⟨n0, n2, n1⟩, by rw [hcs]; rfl, i64_wfO w0, i64_wfO w2, ?_⟩
  have := sized_part hsz hj1 hj2 hu (k := 1) (f := f1) (bytes := n1.data.toList) rfl (by rw [List.getElem?_map, s1, x1]; rfl)
  rw [hr] at this; exact this
end
end Go.Proofs.Ytfogoebflfkknaa
