/- Numbers that came in, opened. -/
import Derived.Test.YtmdidmllaldbaaaGreatView
import Derived.Test.YtmdidmllaldbaaaGreatVar
namespace Go.Proofs.YtmdidmllaldbaaaGreat
open Go.ChangeShapes Go.WideShapes Go.ChangeAt Go.RowKit Go.Deep
set_option linter.unusedVariables false
/-- A slice of numbers that came in. -/
structure IntsIn (w : World) (ao : Option Addr) (n c : Nat) (vs : List Int) : Prop where
  len : vs.length = n
  le : n ≤ c
  nil_ : ao = none → n = 0 ∧ c = 0
  sz : c * 8 ≤ 140737488351232
  ok : ∀ v ∈ vs, -9223372036854775808 ≤ v ∧ v ≤ 9223372036854775807
  cell : 0 < n → ∃ b o, ao = some ⟨b, o, none⟩ ∧ b < w.heap.size ∧ ∀ (k : Nat) (v : Int), vs[k]? = some v → w.cell? ⟨b, o + k, none⟩ = some (.int .i64 v)
theorem IntsIn.get {w : World} {ao : Option Addr} {n c : Nat} {vs : List Int} (h : IntsIn w ao n c vs) {k : Nat} (hk : k < n) :
    ∃ b o v, ao = some ⟨b, o, none⟩ ∧ b < w.heap.size ∧ vs[k]? = some v ∧ w.cell? ⟨b, o + k, none⟩ = some (.int .i64 v) := by
  obtain ⟨b, o, ha, hb, hc⟩ := h.cell (by omega)
  have hkl : k < vs.length := by rw [h.len]; exact hk
  exact ⟨b, o, vs[k], ha, hb, List.getElem?_eq_getElem hkl, hc k _ (List.getElem?_eq_getElem hkl)⟩
theorem IntsIn.below {w W : World} {ao : Option Addr} {n c : Nat} {vs : List Int} (h : IntsIn w ao n c vs) (hb : Below w.heap.size w W) : IntsIn W ao n c vs :=
  ⟨h.len, h.le, h.nil_, h.sz, h.ok, fun hn => by
    obtain ⟨b, o, ha, hlt, hc⟩ := h.cell hn
    exact ⟨b, o, ha, Nat.lt_of_lt_of_le hlt hb.size, fun k v hv => (hb.cell (p := ⟨b, o + k, none⟩) hlt).trans (hc k v hv)⟩⟩
theorem add_plain (b o k : Nat) : (⟨b, o, none⟩ : Addr).add k = ⟨b, o + k, none⟩ := by
  unfold Addr.add
  split
  · rename_i h; have : k = 0 := by simpa using h
    subst this; rfl
  · rfl
theorem IntsIn.var {w W : World} {ao : Option Addr} {n c : Nat} {vs : List Int} (h : IntsIn w ao n c vs) (hb : Below w.heap.size w W) (hn : n ≤ 1000000) :
    Calls Tryz.prog 126 #[.slice ao n c] W fun e w' => e = .returned (.string ⟨(vars vs).toArray⟩) ∧ Below W.heap.size W w' := by
  have h' := h.below hb
  refine nvar_any ao n c vs W h'.len (by omega) (fun k hk => ?_) h'.ok
  obtain ⟨b, o, v, ha, hlt, hv, hc⟩ := h'.get hk
  refine ⟨⟨b, o, none⟩, ha, hlt, ?_⟩
  rw [add_plain, hc]
  simp [List.getD, hv]
section
variable {H : Type} {enc : TypeId × Value → H} {w : World}
theorem view_ints {ao : Option Addr} {n c : Nat} {d : DataW H} {p : List MemPlace}
    {ts : List TypeId} {ds : List (DataW H)} (hsz : (DataW.weightsEach Tryz.prog ts ds).all (· ≤ reachBytes) = true) {j : Nat} (hj1 : ts[j]? = some 23) (hj2 : ds[j]? = some d)
    (h : DataW.Trod enc Tryz.prog w 0 (fun _ => true) true 23 (.slice ao n c) d p) : ∃ vs, IntsIn w ao n c vs := by
  obtain ⟨ss, h1, h2, h3, h4, h5, h6⟩ := open_ints_at Tryz.underlying23 Tryz.underlying3 (by kernel_rfl) (by kernel_rfl) hsz hj1 hj2 h
  exact ⟨ss, h1, h2, h3, h4, h5, h6⟩
end
/-- One number in a new block, laid. -/
theorem var_one (v : Int) (W : World) (t : TypeId) (h1 : -9223372036854775808 ≤ v) (h2 : v ≤ 9223372036854775807) :
    Calls Tryz.prog 126 #[.slice (some ⟨W.heap.size, 0, none⟩) 1 1] (W.alloc (.cells #[.int .i64 v] t)) fun e w' => e = .returned (.string ⟨(var1 v).toArray⟩) ∧ Below W.heap.size W w' := by
  have hsz : (W.alloc (.cells #[.int .i64 v] t)).heap.size = W.heap.size + 1 := by simp
  refine (nvar_any (some ⟨W.heap.size, 0, none⟩) 1 1 [v] _ rfl (by omega) (fun k hk => ⟨⟨W.heap.size, 0, none⟩, rfl, by show W.heap.size < _; rw [hsz]; omega, ?_⟩) (by simp; omega)).mono ?_
  · obtain rfl : k = 0 := by omega
    rw [add_lit, World.cell?_alloc_new]; rfl
  · rintro e w' ⟨he, hb⟩
    have hv : vars [v] = var1 v := by simp [vars]
    rw [hv] at he
    exact ⟨he, ((Below.refl _ _).alloc (Nat.le_refl _) _).trans (hb.mono (by rw [hsz]; omega))⟩
/-- Numbers in a new block, laid. -/
theorem var_new (vs : List Int) (W : World) (t : TypeId) (hn : vs.length ≤ 1000) (hv : ∀ v ∈ vs, -9223372036854775808 ≤ v ∧ v ≤ 9223372036854775807) (cs : Array Value) (hcs : cs = (vs.map (Value.int .i64)).toArray) (n : Nat) (hl : vs.length = n) :
    Calls Tryz.prog 126 #[.slice (some ⟨W.heap.size, 0, none⟩) n n] (W.alloc (.cells cs t)) fun e w' => e = .returned (.string ⟨(vars vs).toArray⟩) ∧ Below W.heap.size W w' := by
  subst hcs
  subst hl
  have hsz : (W.alloc (.cells (vs.map (Value.int .i64)).toArray t)).heap.size = W.heap.size + 1 := by simp
  refine (nvar_any (some ⟨W.heap.size, 0, none⟩) vs.length vs.length vs _ rfl (by omega) (fun k hk => ⟨⟨W.heap.size, 0, none⟩, rfl, by show W.heap.size < _; rw [hsz]; omega, ?_⟩) hv).mono ?_
  · rw [add_lit, World.cell?_alloc_new]
    simp [List.getD_eq_getElem?_getD, List.getElem?_eq_getElem hk]
  · rintro e w' ⟨he, hb⟩
    exact ⟨he, ((Below.refl _ _).alloc (Nat.le_refl _) _).trans (hb.mono (by rw [hsz]; omega))⟩
end Go.Proofs.YtmdidmllaldbaaaGreat
