/- Entries that came in, opened. -/
import Derived.Test.YtmdidmllaldbaaaGreatView
import Derived.Test.YtmdidmllaldbaaaGreatEntB
import Derived.Test.YtmdidmllaldbaaaGreatVar
import Derived.Test.YtmdidmllaldbaaaGreatPairB
import Derived.Test.YtmdidmllaldbaaaGreatRoom
namespace Go.Proofs.YtmdidmllaldbaaaGreat
/-! ### Entries that came in, opened. -/
section
open Go.ChangeShapes Go.WideShapes Go.ChangeAt Go.RowKit Go.Deep
theorem ent_fields : ∃ f0 f1 f2 f3 : Field, Tryz.prog.underlying 51 = some (.struct #[f0, f1, f2, f3]) ∧ oneCellFields Tryz.prog #[f0, f1, f2, f3] = true ∧ Tryz.prog.underlying f0.type = some (.int .i64) ∧ Tryz.prog.underlying f1.type = some (.int .i64) ∧ Tryz.prog.underlying f2.type = some (.int .i64) ∧ Tryz.prog.underlying f3.type = some .string :=
  ⟨_, _, _, _, Tryz.underlying51, by kernel_rfl, by kernel_rfl, by kernel_rfl, by kernel_rfl, by kernel_rfl⟩
def EntOk (e : Ent) : Prop := (-9223372036854775808 ≤ e.ix ∧ e.ix ≤ 9223372036854775807) ∧ (-9223372036854775808 ≤ e.tm ∧ e.tm ≤ 9223372036854775807) ∧ (-9223372036854775808 ≤ e.kd ∧ e.kd ≤ 9223372036854775807) ∧ e.dt.size ≤ 140737488351232
/-- A slice of entries that came in. -/
structure EntsIn (w : World) (ao : Option Addr) (n c : Nat) (l : List Ent) : Prop where
  ents : Ents w w.heap.size ao n l
  le : n ≤ c
  nil_ : ao = none → n = 0 ∧ c = 0
  sz : c * 40 ≤ 140737488351232
  ok : ∀ e ∈ l, EntOk e
section
variable {H : Type} {enc : TypeId × Value → H} {w : World}
theorem i64_wf {n : Int} (h : (Lit.int .i64 n).wf = true) : -9223372036854775808 ≤ n ∧ n ≤ 9223372036854775807 := by
  simpa [Lit.wf, IntKind.min, IntKind.max, IntKind.bits, IntKind.signed] using h
theorem view_entries {ao : Option Addr} {n c : Nat} {d : DataW H} {p : List MemPlace}
    {ts : List TypeId} {ds : List (DataW H)} (hsz : (DataW.weightsEach Tryz.prog ts ds).all (· ≤ reachBytes) = true) {j : Nat} (hj1 : ts[j]? = some 22) (hj2 : ds[j]? = some d)
    (h : DataW.Trod enc Tryz.prog w 0 (fun _ => true) true 22 (.slice ao n c) d p) : ∃ l, EntsIn w ao n c l := by
  obtain ⟨f0, f1, f2, f3, hu, hone, u0, u1, u2, u3⟩ := ent_fields
  obtain ⟨fuel, hf⟩ := h
  have hr : reachBytes = 140737488351232 := by decide
  rcases open_structs Tryz.underlying22 hu hone (by kernel_rfl) hf with hcs | ⟨a, len, cap, m, D, hcs, hl, hm, hx, hel⟩
  · have hcs' : Value.slice ao n c = .slice none 0 0 := by simpa [Value.cells] using hcs
    injection hcs' with e1 e2 e3
    subst e1; subst e2; subst e3
    exact ⟨[], Ents.nil_ _ _ _, by omega, fun _ => ⟨rfl, rfl⟩, by omega, by simp⟩
  · have hcs' : Value.slice ao n c = .slice (some a) len cap := by simpa [Value.cells] using hcs
    injection hcs' with e1 e2 e3
    subst e1; subst e2; subst e3
    have hm' : m = c := by simpa using hm
    subst hm'
    have hd : d = .slice ((List.range n).map D) ((List.range (m - n)).map fun j => D (n + j)) := hx
    subst hd
    have hw := sized_slice hsz hj1 hj2 Tryz.underlying22
    rw [show Tryz.prog.bytesOf 51 = 40 from by kernel_rfl] at hw
    simp only [List.length_map, List.length_range] at hw
    have each : ∀ i, i < n → ∃ e : Ent, w.cell? (a.add (i * 4 + 0)) = some (.int .i64 e.ix) ∧ w.cell? (a.add (i * 4 + 1)) = some (.int .i64 e.tm) ∧ w.cell? (a.add (i * 4 + 2)) = some (.int .i64 e.kd) ∧ w.cell? (a.add (i * 4 + 3)) = some (.string e.dt) ∧ EntOk e := by
      intro i hi
      obtain ⟨ys, k, hD, hyl, hfs⟩ := hel i (by omega)
      obtain ⟨v0, y0, c0, s0, t0⟩ := hfs 0 f0 rfl
      obtain ⟨v1, y1, c1, s1, t1⟩ := hfs 1 f1 rfl
      obtain ⟨v2, y2, c2, s2, t2⟩ := hfs 2 f2 rfl
      obtain ⟨v3, y3, c3, s3, t3⟩ := hfs 3 f3 rfl
      obtain ⟨n0, e0, x0, w0⟩ := DataW.trod_int u0 t0
      obtain ⟨n1, e1, x1, w1⟩ := DataW.trod_int u1 t1
      obtain ⟨n2, e2, x2, w2⟩ := DataW.trod_int u2 t2
      obtain ⟨n3, e3, x3, w3⟩ := DataW.trod_string u3 t3
      obtain rfl : v0 = .int .i64 n0 := by simpa using e0
      obtain rfl : v1 = .int .i64 n1 := by simpa using e1
      obtain rfl : v2 = .int .i64 n2 := by simpa using e2
      obtain rfl : v3 = .string n3 := by simpa using e3
      refine ⟨⟨n0, n1, n2, n3⟩, c0, c1, c2, c3, i64_wf w0, i64_wf w1, i64_wf w2, ?_⟩
      have := sized_field hsz hj1 hj2 Tryz.underlying22 hu (parts := ys.map (·.1)) (by rw [← hD]; exact List.mem_map.2 ⟨i, by simpa using hi, rfl⟩) (k := 3) (f := f3) (bytes := n3.data.toList) rfl (by rw [List.getElem?_map, s3, x3]; rfl)
      rw [hr] at this
      exact this
    haveI : Inhabited Ent := ⟨⟨0, 0, 0, ⟨#[]⟩⟩⟩
    obtain ⟨E, hE⟩ := choose_lt (α := Ent) each
    refine ⟨(List.range n).map E, ⟨by simp, fun hn => ?_⟩, hl, by simp, by omega, fun e he => ?_⟩
    · obtain ⟨b, o, rfl⟩ := addr_plain (show w.cell? (a.add 0) = _ from by simpa using (hE 0 hn).1)
      refine ⟨b, o, rfl, ?_, fun k e hk => ?_⟩
      · have := cell_lt (hE 0 hn).1; simpa [Addr.add] using this
      · have hkn : k < n := by have := (List.getElem?_eq_some_iff.1 hk).1; simpa using this
        have hek : E k = e := by simpa [hkn] using hk
        subst hek
        obtain ⟨g0, g1, g2, g3, _⟩ := hE k hkn
        have ad : ∀ r, (⟨b, o, none⟩ : Addr).add (k * 4 + r) = ⟨b, o + k * 4 + r, none⟩ := by
          intro r; unfold Addr.add; split
          · rename_i h0; have h0' : k * 4 + r = 0 := by simpa using h0
            rw [show o + k * 4 + r = o from by omega]
          · simp [Nat.add_assoc]
        rw [ad] at g0 g1 g2 g3
        exact ⟨g0, g1, g2, g3⟩
    · obtain ⟨i, hi, rfl⟩ := List.mem_map.1 he
      exact (hE i (by simpa using hi)).2.2.2.2
end
end
/-! ### Numbers that came in, opened. -/
section
open Go.ChangeShapes Go.WideShapes Go.ChangeAt Go.RowKit Go.Deep
set_option linter.unusedVariables false
/-- A slice of numbers that came in. -/
structure IntsIn (w : World) (ao : Option Addr) (n c : Nat) (vs : List Int) : Prop where
  len : vs.length = n
  le : n ≤ c
  nil_ : ao = none → n = 0 ∧ c = 0
  sz : c * 8 ≤ 140737488351232
  ok : ∀ v ∈ vs, -9223372036854775808 ≤ v ∧ v ≤ 9223372036854775807
  cell : 0 < n → ∃ b o, ao = some ⟨b, o, none⟩ ∧ b < w.heap.size ∧ ∀ (k : Nat) (v : Int), vs[k]? = some v → w.cell? ⟨b, o + k, none⟩ = some (.int .i64 v)
theorem IntsIn.get {w : World} {ao : Option Addr} {n c : Nat} {vs : List Int} (h : IntsIn w ao n c vs) {k : Nat} (hk : k < n) :
    ∃ b o v, ao = some ⟨b, o, none⟩ ∧ b < w.heap.size ∧ vs[k]? = some v ∧ w.cell? ⟨b, o + k, none⟩ = some (.int .i64 v) := by
  obtain ⟨b, o, ha, hb, hc⟩ := h.cell (by omega)
  have hkl : k < vs.length := by rw [h.len]; exact hk
  exact ⟨b, o, vs[k], ha, hb, List.getElem?_eq_getElem hkl, hc k _ (List.getElem?_eq_getElem hkl)⟩
theorem IntsIn.below {w W : World} {ao : Option Addr} {n c : Nat} {vs : List Int} (h : IntsIn w ao n c vs) (hb : Below w.heap.size w W) : IntsIn W ao n c vs :=
  ⟨h.len, h.le, h.nil_, h.sz, h.ok, fun hn => by
    obtain ⟨b, o, ha, hlt, hc⟩ := h.cell hn
    exact ⟨b, o, ha, Nat.lt_of_lt_of_le hlt hb.size, fun k v hv => (hb.cell (p := ⟨b, o + k, none⟩) hlt).trans (hc k v hv)⟩⟩
theorem add_plain (b o k : Nat) : (⟨b, o, none⟩ : Addr).add k = ⟨b, o + k, none⟩ := by
  unfold Addr.add
  split
  · rename_i h; have : k = 0 := by simpa using h
    subst this; rfl
  · rfl
theorem IntsIn.var {w W : World} {ao : Option Addr} {n c : Nat} {vs : List Int} (h : IntsIn w ao n c vs) (hb : Below w.heap.size w W) (hn : n ≤ 1000000) :
    Calls Tryz.prog 126 #[.slice ao n c] W fun e w' => e = .returned (.string ⟨(vars vs).toArray⟩) ∧ Below W.heap.size W w' := by
  have h' := h.below hb
  refine nvar_any ao n c vs W h'.len (by omega) (fun k hk => ?_) h'.ok
  obtain ⟨b, o, v, ha, hlt, hv, hc⟩ := h'.get hk
  refine ⟨⟨b, o, none⟩, ha, hlt, ?_⟩
  rw [add_plain, hc]
  simp [List.getD, hv]
section
variable {H : Type} {enc : TypeId × Value → H} {w : World}
theorem view_ints {ao : Option Addr} {n c : Nat} {d : DataW H} {p : List MemPlace}
    {ts : List TypeId} {ds : List (DataW H)} (hsz : (DataW.weightsEach Tryz.prog ts ds).all (· ≤ reachBytes) = true) {j : Nat} (hj1 : ts[j]? = some 23) (hj2 : ds[j]? = some d)
    (h : DataW.Trod enc Tryz.prog w 0 (fun _ => true) true 23 (.slice ao n c) d p) : ∃ vs, IntsIn w ao n c vs := by
  obtain ⟨ss, h1, h2, h3, h4, h5, h6⟩ := open_ints_at Tryz.underlying23 Tryz.underlying3 (by kernel_rfl) (by kernel_rfl) hsz hj1 hj2 h
  exact ⟨ss, h1, h2, h3, h4, h5, h6⟩
end
/-- One number in a new block, laid. -/
theorem var_one (v : Int) (W : World) (t : TypeId) (h1 : -9223372036854775808 ≤ v) (h2 : v ≤ 9223372036854775807) :
    Calls Tryz.prog 126 #[.slice (some ⟨W.heap.size, 0, none⟩) 1 1] (W.alloc (.cells #[.int .i64 v] t)) fun e w' => e = .returned (.string ⟨(var1 v).toArray⟩) ∧ Below W.heap.size W w' := by
  have hsz : (W.alloc (.cells #[.int .i64 v] t)).heap.size = W.heap.size + 1 := by simp
  refine (nvar_any (some ⟨W.heap.size, 0, none⟩) 1 1 [v] _ rfl (by omega) (fun k hk => ⟨⟨W.heap.size, 0, none⟩, rfl, by show W.heap.size < _; rw [hsz]; omega, ?_⟩) (by simp; omega)).mono ?_
  · obtain rfl : k = 0 := by omega
    rw [add_lit, World.cell?_alloc_new]; rfl
  · rintro e w' ⟨he, hb⟩
    have hv : vars [v] = var1 v := by simp [vars]
    rw [hv] at he
    exact ⟨he, ((Below.refl _ _).alloc (Nat.le_refl _) _).trans (hb.mono (by rw [hsz]; omega))⟩
/-- Numbers in a new block, laid. -/
theorem var_new (vs : List Int) (W : World) (t : TypeId) (hn : vs.length ≤ 1000) (hv : ∀ v ∈ vs, -9223372036854775808 ≤ v ∧ v ≤ 9223372036854775807) (cs : Array Value) (hcs : cs = (vs.map (Value.int .i64)).toArray) (n : Nat) (hl : vs.length = n) :
    Calls Tryz.prog 126 #[.slice (some ⟨W.heap.size, 0, none⟩) n n] (W.alloc (.cells cs t)) fun e w' => e = .returned (.string ⟨(vars vs).toArray⟩) ∧ Below W.heap.size W w' := by
  subst hcs
  subst hl
  have hsz : (W.alloc (.cells (vs.map (Value.int .i64)).toArray t)).heap.size = W.heap.size + 1 := by simp
  refine (nvar_any (some ⟨W.heap.size, 0, none⟩) vs.length vs.length vs _ rfl (by omega) (fun k hk => ⟨⟨W.heap.size, 0, none⟩, rfl, by show W.heap.size < _; rw [hsz]; omega, ?_⟩) hv).mono ?_
  · rw [add_lit, World.cell?_alloc_new]
    simp [List.getD_eq_getElem?_getD, List.getElem?_eq_getElem hk]
  · rintro e w' ⟨he, hb⟩
    exact ⟨he, ((Below.refl _ _).alloc (Nat.le_refl _) _).trans (hb.mono (by rw [hsz]; omega))⟩
end
/-! ### Pairs that came in, opened. -/
section
open Go.ChangeShapes Go.WideShapes Go.ChangeAt Go.RowKit Go.Deep
theorem par_fields : ∃ f0 f1 : Field, Tryz.prog.underlying 202 = some (.struct #[f0, f1]) ∧ oneCellFields Tryz.prog #[f0, f1] = true ∧ Tryz.prog.underlying f0.type = some .string ∧ Tryz.prog.underlying f1.type = some .string :=
  ⟨_, _, Tryz.underlying202, by kernel_rfl, by kernel_rfl, by kernel_rfl⟩
def ParOk (e : Par) : Prop := e.key.size ≤ 140737488351232 ∧ e.vl.size ≤ 140737488351232
/-- A slice of pairs that came in. -/
structure ParsIn (w : World) (ao : Option Addr) (n c : Nat) (l : List Par) : Prop where
  pars : Pars w w.heap.size ao n l
  le : n ≤ c
  nil_ : ao = none → n = 0 ∧ c = 0
  sz : c * 32 ≤ 140737488351232
  ok : ∀ e ∈ l, ParOk e
section
variable {H : Type} {enc : TypeId × Value → H} {w : World}
theorem view_pairs {ao : Option Addr} {n c : Nat} {d : DataW H} {p : List MemPlace}
    {ts : List TypeId} {ds : List (DataW H)} (hsz : (DataW.weightsEach Tryz.prog ts ds).all (· ≤ reachBytes) = true) {j : Nat} (hj1 : ts[j]? = some 116) (hj2 : ds[j]? = some d)
    (h : DataW.Trod enc Tryz.prog w 0 (fun _ => true) true 116 (.slice ao n c) d p) : ∃ l, ParsIn w ao n c l := by
  obtain ⟨f0, f1, hu, hone, u0, u1⟩ := par_fields
  obtain ⟨fuel, hf⟩ := h
  have hr : reachBytes = 140737488351232 := by decide
  rcases open_structs Tryz.underlying116 hu hone (by kernel_rfl) hf with hcs | ⟨a, len, cap, m, D, hcs, hl, hm, hx, hel⟩
  · have hcs' : Value.slice ao n c = .slice none 0 0 := by simpa [Value.cells] using hcs
    injection hcs' with e1 e2 e3
    subst e1; subst e2; subst e3
    exact ⟨[], Pars.nil_ _ _ _, by omega, fun _ => ⟨rfl, rfl⟩, by omega, by simp⟩
  · have hcs' : Value.slice ao n c = .slice (some a) len cap := by simpa [Value.cells] using hcs
    injection hcs' with e1 e2 e3
    subst e1; subst e2; subst e3
    have hm' : m = c := by simpa using hm
    subst hm'
    have hd : d = .slice ((List.range n).map D) ((List.range (m - n)).map fun j => D (n + j)) := hx
    subst hd
    have hw := sized_slice hsz hj1 hj2 Tryz.underlying116
    rw [show Tryz.prog.bytesOf 202 = 32 from by kernel_rfl] at hw
    simp only [List.length_map, List.length_range] at hw
    have each : ∀ i, i < n → ∃ e : Par, w.cell? (a.add (i * 2 + 0)) = some (.string e.key) ∧ w.cell? (a.add (i * 2 + 1)) = some (.string e.vl) ∧ ParOk e := by
      intro i hi
      obtain ⟨ys, k, hD, hyl, hfs⟩ := hel i (by omega)
      obtain ⟨v0, y0, c0, s0, t0⟩ := hfs 0 f0 rfl
      obtain ⟨v1, y1, c1, s1, t1⟩ := hfs 1 f1 rfl
      obtain ⟨n0, e0, x0, w0⟩ := DataW.trod_string u0 t0
      obtain ⟨n1, e1, x1, w1⟩ := DataW.trod_string u1 t1
      obtain rfl : v0 = .string n0 := by simpa using e0
      obtain rfl : v1 = .string n1 := by simpa using e1
      refine ⟨⟨n0, n1⟩, c0, c1, ?_, ?_⟩
      · have := sized_field hsz hj1 hj2 Tryz.underlying116 hu (parts := ys.map (·.1)) (by rw [← hD]; exact List.mem_map.2 ⟨i, by simpa using hi, rfl⟩) (k := 0) (f := f0) (bytes := n0.data.toList) rfl (by rw [List.getElem?_map, s0, x0]; rfl)
        rw [hr] at this
        exact this
      · have := sized_field hsz hj1 hj2 Tryz.underlying116 hu (parts := ys.map (·.1)) (by rw [← hD]; exact List.mem_map.2 ⟨i, by simpa using hi, rfl⟩) (k := 1) (f := f1) (bytes := n1.data.toList) rfl (by rw [List.getElem?_map, s1, x1]; rfl)
        rw [hr] at this
        exact this
    haveI : Inhabited Par := ⟨⟨⟨#[]⟩, ⟨#[]⟩⟩⟩
    obtain ⟨E, hE⟩ := choose_lt (α := Par) each
    refine ⟨(List.range n).map E, ⟨by simp, fun hn => ?_⟩, hl, by simp, by omega, fun e he => ?_⟩
    · obtain ⟨b, o, rfl⟩ := addr_plain (show w.cell? (a.add 0) = _ from by simpa using (hE 0 hn).1)
      refine ⟨b, o, rfl, ?_, fun k e hk => ?_⟩
      · have := cell_lt (hE 0 hn).1; simpa [Addr.add] using this
      · have hkn : k < n := by have := (List.getElem?_eq_some_iff.1 hk).1; simpa using this
        have hek : E k = e := by simpa [hkn] using hk
        subst hek
        obtain ⟨g0, g1, _⟩ := hE k hkn
        have ad : ∀ r, (⟨b, o, none⟩ : Addr).add (k * 2 + r) = ⟨b, o + k * 2 + r, none⟩ := by
          intro r; unfold Addr.add; split
          · rename_i h0; have h0' : k * 2 + r = 0 := by simpa using h0
            rw [show o + k * 2 + r = o from by omega]
          · simp [Nat.add_assoc]
        rw [ad] at g0 g1
        exact ⟨g0, g1⟩
    · obtain ⟨i, hi, rfl⟩ := List.mem_map.1 he
      exact (hE i (by simpa using hi)).2.2
end
end
/-! ### A struct of one-cell fields that came in by value, opened: its fields' values, and what its texts weigh. -/
section
open Go.ChangeShapes Go.WideShapes Go.ChangeAt Go.RowKit Go.Deep
section
variable {H : Type} {enc : TypeId × Value → H} {P : Program} {w : World} {base : Nat} {spare : Nat → Bool} {held : Bool}
theorem open_struct {r : Reach} {b0 : Nat} {t : TypeId} {fs : Array Field} {v : Value} {d : DataW H} {p : List MemPlace} (hs : P.underlying t = some (.struct fs)) (hone : oneCellFields P fs = true) (hC : P.cellsOf t = fs.size)
    (hv : Value.okWide P w r b0 t v) (h : DataW.Trod enc P w base spare held t v d p) :
    ∃ (cs : List Value) (ys : List (DataW H × List MemPlace)) (n : Nat), v = .agg cs.toArray ∧ cs.length = fs.size ∧ d = .agg (ys.map (·.1)) ∧ ys.length = fs.size ∧
      ∀ (j : Nat) (f : Field), fs[j]? = some f → ∃ (c : Value) (y : DataW H × List MemPlace), cs[j]? = some c ∧ ys[j]? = some y ∧ DataW.trod enc P w base spare held n f.type [c] = some y := by
  obtain ⟨cs, rfl, hsz⟩ := okWide_struct hs hv
  obtain ⟨l⟩ := cs
  obtain ⟨fuel, hf⟩ := h
  obtain ⟨ys, n, _, hx, _, hlen, hg⟩ := DataW.trod_struct hs hf
  simp only [Prod.mk.injEq] at hx
  have hl : l.length = fs.size := hsz.trans hC
  refine ⟨l, ys, n, rfl, hl, hx.1, hlen, fun j f hj => ?_⟩
  obtain ⟨ho, hk⟩ := hone_of hone j f hj
  have hjl : j < fs.size := (Array.getElem?_eq_some_iff.1 hj).1
  have hjc : j < l.length := by omega
  have h1 := hg j f hj
  have e : (Value.agg ⟨l⟩).cells.toList = l := rfl
  rw [e, ho, hk, List.drop_eq_getElem_cons hjc] at h1
  have h2 : (l[j] :: l.drop (j + 1)).take 1 = [l[j]] := rfl
  rw [h2] at h1
  have hys : ys[j]? = some (ys[j]'(by omega)) := List.getElem?_eq_getElem (by omega)
  exact ⟨l[j], ys[j]'(by omega), List.getElem?_eq_getElem hjc, hys, h1.trans hys⟩
/-- A text in a struct that came in is within the reach. -/
theorem sized_part {ts : List TypeId} {ds : List (DataW H)} (h : (DataW.weightsEach P ts ds).all (· ≤ reachBytes) = true) {j : Nat} {t : TypeId} {fs : Array Field} {parts : List (DataW H)} (ht : ts[j]? = some t) (hd : ds[j]? = some (.agg parts)) (he : P.underlying t = some (.struct fs))
    {k : Nat} {f : Field} {bytes : List UInt8} (hf : fs[k]? = some f) (hp : parts[k]? = some (.lit (.string bytes))) : bytes.length ≤ reachBytes := by
  have := List.all_eq_true.1 h bytes.length (DataW.weights_mem_each ht hd _ (by
    rw [DataW.weights, he]
    exact DataW.weights_mem_each (j := k) (t := f.type) (by simp [hf]) hp _ (by simp [DataW.weights])))
  simpa using this
end
end
/-! ### Texts and numbers that came in, opened; and the walk of arboretumbook.Short. -/
section
open Go.ChangeShapes Go.WideShapes Go.ChangeAt Go.RowKit Go.Deep
set_option linter.unusedVariables false
/-- A slice of texts that came in. -/
structure TextsIn (w : World) (ao : Option Addr) (n c : Nat) (ss : List ByteArray) : Prop where
  len : ss.length = n
  le : n ≤ c
  nil_ : ao = none → n = 0 ∧ c = 0
  sz : c * 16 ≤ 140737488351232
  ok : ∀ s ∈ ss, s.size ≤ 140737488351232
  cell : 0 < n → ∃ b o, ao = some ⟨b, o, none⟩ ∧ b < w.heap.size ∧ ∀ (k : Nat) (s : ByteArray), ss[k]? = some s → w.cell? ⟨b, o + k, none⟩ = some (.string s)
theorem TextsIn.get {w : World} {ao : Option Addr} {n c : Nat} {ss : List ByteArray} (h : TextsIn w ao n c ss) {k : Nat} (hk : k < n) :
    ∃ b o s, ao = some ⟨b, o, none⟩ ∧ b < w.heap.size ∧ ss[k]? = some s ∧ s.size ≤ 140737488351232 ∧ w.cell? ⟨b, o + k, none⟩ = some (.string s) := by
  obtain ⟨b, o, ha, hb, hc⟩ := h.cell (by omega)
  have hkl : k < ss.length := by rw [h.len]; exact hk
  exact ⟨b, o, ss[k], ha, hb, List.getElem?_eq_getElem hkl, h.ok _ (List.getElem_mem _), hc k _ (List.getElem?_eq_getElem hkl)⟩
section
variable {H : Type} {enc : TypeId × Value → H} {w : World}
theorem view_strings {ao : Option Addr} {n c : Nat} {d : DataW H} {p : List MemPlace}
    {ts : List TypeId} {ds : List (DataW H)} (hsz : (DataW.weightsEach Tryz.prog ts ds).all (· ≤ reachBytes) = true) {j : Nat} (hj1 : ts[j]? = some 224) (hj2 : ds[j]? = some d)
    (h : DataW.Trod enc Tryz.prog w 0 (fun _ => true) true 224 (.slice ao n c) d p) : ∃ ss, TextsIn w ao n c ss := by
  obtain ⟨ss, h1, h2, h3, h4, h5, h6⟩ := open_texts_at Tryz.underlying224 Tryz.underlying9 (by kernel_rfl) (by kernel_rfl) hsz hj1 hj2 h
  exact ⟨ss, h1, h2, h3, h4, h5, h6⟩
end
/-- Are texts few? -/
def ShortRes (few room : Int) (n sz : Nat) (w : World) (e : Ending) (w' : World) : Prop := ∃ r : Bool, e = .returned (.bool r) ∧ (r = true → (n : Int) ≤ few ∧ ((sz : Nat) : Int) ≤ room) ∧ Below w.heap.size w w'
end
end Go.Proofs.YtmdidmllaldbaaaGreat
