/- Of items that rise each is found at its place, and a key that is not there would stand between those that are less and those that are greater. No condition. -/
import Derived.Test.YtopefaeemkemiaaLeafFindsW
import Derived.Test.YtopefaeemkemiaaLift
import Derived.Test.YtopefaeemkemiaaViewIt
namespace Go.Proofs.Ytopefaeemkemiaa
open Go.ChangeShapes Go.WideShapes Go.ChangeAt Go.RowKit
/-! ### The row's step -/
set_option maxRecDepth 100000 in
theorem lifted_LeafFinds (os : Os) (started : os.Started) (H : Type) (enc : TypeId × Value → H) :
    ReturnsInHanded {} Try.checked os 3 .any (Rows.leafFindsSpec.pre6 enc Try.prog Try.f3 Rows.leafFindsRow.domain false) (Rows.leafFindsSpec.post enc Try.prog Try.f3 false true false false) := by
  refine returnsInHanded_of_change_sized (C := Try.checked) own started (by kernel_rfl) Try.func3
    (ChangeSpec.witness6 (enc := enc) (C := Try.checked) false ⟨#[], #[.slice none 0 0, .string ⟨#[]⟩], []⟩ 8 (by kernel_rfl) (by kernel_rfl) (by kernel_rfl) (by kernel_rfl)) ?_
  intro W base args ds gs before hval0 hW hcnd hsz0 _
  have hval : ∀ (j : Nat) t v, Try.f3.params[j]? = some t → args[j]? = some v → Value.okWide Try.prog W .any base t v := hval0
  have hW' := hW
  obtain ⟨p, q, hA0, hV, rfl, hfz, hnd⟩ := hW
  have hA : DataW.TrodAll enc Try.prog W 0 (fun _ => true) true Try.f3.params.toList args.toList ds p := hA0
  have hsz : (DataW.weightsEach Try.prog (Try.f3.params.toList ++ Rows.leafFindsSpec.plain.varTypes Try.prog) (ds ++ gs)).all (· ≤ reachBytes) = true := hsz0
  rw [Try.params3] at hA hval hsz
  obtain ⟨v0, vs0, d0, ds0, p0, q0, hargs, rfl, rfl, h0, r0⟩ := trodAll_cons hA
  obtain ⟨v1, vs1, d1, ds1, p1, q1, rfl, rfl, rfl, h1, r1⟩ := trodAll_cons r0
  obtain ⟨rfl, rfl, rfl⟩ := trodAll_nil r1
  obtain rfl : args = #[v0, v1] := by cases args; simp_all
  obtain ⟨hV1, hV2⟩ := trodVars_none hV
  subst hV1 hV2
  obtain ⟨ao0, n0, c0, rfl⟩ := okWide_slice Try.underlying22 (hval 0 22 v0 rfl rfl)
  have z0 := view_items (hsz := hsz) (j := 0) rfl rfl h0
  obtain ⟨a1, rfl, rfl, rfl, w1⟩ := Go.ChangeMaps.open_string Try.underlying9 (hval 1 9 v1 rfl rfl) h1
  refine (walk_LeafFinds ao0 n0 c0 z0 a1 w1 ).mono fun e W' ⟨he, hb⟩ => ?_
  subst he
  exact ⟨_, rfl, law_post (s := Rows.leafFindsSpec) laidOut (by kernel_rfl) rfl hW' rfl Try.underlying4 rfl hb⟩
theorem over_LeafFinds : Rows.leafFindsRow.holds Try.pinned (OpenSpec.ofChange Rows.leafFindsSpec) :=
  OpenClaim.holds_of_wide 3 Try.f3 rfl rfl rfl rfl rfl rfl rfl ⟨rfl, rfl, rfl, rfl, rfl⟩ rfl rfl rfl rfl rfl (by kernel_rfl) Try.func3 (by kernel_rfl)
    (of_decide_eq_true (by kernel_rfl)) (by unfold Func.isWrapper; first | (rw [if_pos (by decide +kernel)]; kernel_rfl) | (rw [if_neg (by decide +kernel)]; exact ⟨rfl, rfl⟩))
    (fun os started H enc _ => lifted_LeafFinds os started H enc)
/-- The statement. -/
theorem LeafFinds_holds : Rows.LeafFindsSaid := over_LeafFinds
#print axioms LeafFinds_holds
end Go.Proofs.Ytopefaeemkemiaa
