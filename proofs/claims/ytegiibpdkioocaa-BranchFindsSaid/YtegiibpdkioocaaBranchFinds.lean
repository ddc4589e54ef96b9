/- What is proved: arboretumlaw9.BranchFinds answers true for every list of children and every key, and turns no memory that was there. Conditions: none. -/
import Derived.Test.YtegiibpdkioocaaBranchFindsW
import Derived.Test.YtegiibpdkioocaaLift
import Derived.Test.YtegiibpdkioocaaViewT
namespace Go.Proofs.Ytegiibpdkioocaa
open Go.ChangeShapes Go.WideShapes Go.ChangeAt Go.RowKit
/-! ### The row's step -/
set_option maxRecDepth 100000 in
theorem lifted_BranchFinds (os : Os) (started : os.Started) (H : Type) (enc : TypeId × Value → H) :
    ReturnsInHanded {} Try.checked os 10 .any (Rows.branchFindsSpec.pre6 enc Try.prog Try.f10 Rows.branchFindsRow.domain false) (Rows.branchFindsSpec.post enc Try.prog Try.f10 false true false false) := by
  refine returnsInHanded_of_change_sized (C := Try.checked) own started (by kernel_rfl) Try.func10
    (ChangeSpec.witness6 (enc := enc) (C := Try.checked) false ⟨#[], #[.slice none 0 0, .string ⟨#[]⟩], []⟩ 8 (by kernel_rfl) (by kernel_rfl) (by kernel_rfl) (by kernel_rfl)) ?_
  intro W base args ds gs before hval0 hW hcnd hsz0 _
  have hval : ∀ (j : Nat) t v, Try.f10.params[j]? = some t → args[j]? = some v → Value.okWide Try.prog W .any base t v := hval0
  have hW' := hW
  obtain ⟨p, q, hA0, hV, rfl, hfz, hnd⟩ := hW
  have hA : DataW.TrodAll enc Try.prog W 0 (fun _ => true) true Try.f10.params.toList args.toList ds p := hA0
  have hsz : (DataW.weightsEach Try.prog (Try.f10.params.toList ++ Rows.branchFindsSpec.plain.varTypes Try.prog) (ds ++ gs)).all (· ≤ reachBytes) = true := hsz0
  rw [Try.params10] at hA hval hsz
  obtain ⟨v0, vs0, d0, ds0, p0, q0, hargs, rfl, rfl, h0, r0⟩ := trodAll_cons hA
  obtain ⟨v1, vs1, d1, ds1, p1, q1, rfl, rfl, rfl, h1, r1⟩ := trodAll_cons r0
  obtain ⟨rfl, rfl, rfl⟩ := trodAll_nil r1
  obtain rfl : args = #[v0, v1] := by cases args; simp_all
  obtain ⟨hV1, hV2⟩ := trodVars_none hV
  subst hV1 hV2
  obtain ⟨ao0, n0, c0, rfl⟩ := okWide_slice Try.underlying77 (hval 0 77 v0 rfl rfl)
  have z0 := view_children (hsz := hsz) (j := 0) rfl rfl h0
  obtain ⟨a1, rfl, rfl, rfl, w1⟩ := Go.ChangeMaps.open_string Try.underlying9 (hval 1 9 v1 rfl rfl) h1
  refine (walk_BranchFinds ao0 n0 c0 z0 a1 w1 ).mono fun e W' ⟨he, hb⟩ => ?_
  subst he
  exact ⟨_, rfl, law_post laidOut (by kernel_rfl) rfl hW' rfl Try.underlying4 rfl hb⟩
theorem over_BranchFinds : Rows.branchFindsRow.holds Try.pinned (OpenSpec.ofChange Rows.branchFindsSpec) :=
  OpenClaim.holds_of_wide 10 Try.f10 rfl rfl rfl rfl rfl rfl rfl ⟨rfl, rfl, rfl, rfl, rfl⟩ rfl rfl rfl rfl rfl (by kernel_rfl) Try.func10 (by kernel_rfl)
    (of_decide_eq_true (by kernel_rfl)) (by unfold Func.isWrapper; first | (rw [if_pos (by decide +kernel)]; kernel_rfl) | (rw [if_neg (by decide +kernel)]; exact ⟨rfl, rfl⟩))
    (fun os started H enc _ => lifted_BranchFinds os started H enc)
/-- The statement. -/
theorem BranchFinds_holds : Rows.BranchFindsSaid := over_BranchFinds
#print axioms BranchFinds_holds
end Go.Proofs.Ytegiibpdkioocaa
