/- What is proved: arboretumlaw9.BranchBack answers true for every list of children and every place to cut, and turns no memory that was there. Condition: what is handed in is of bulk at most 1048576. -/
import Derived.Test.YtegiibpdkioocaaBranchBackW
import Derived.Test.YtegiibpdkioocaaLift
import Derived.Test.YtegiibpdkioocaaViewT
import Derived.Test.YtegiibpdkioocaaViewCB
import Derived.Deep.CondSized
namespace Go.Proofs.Ytegiibpdkioocaa
open Go.ChangeShapes Go.WideShapes Go.ChangeAt Go.RowKit
/-! ### The row's step -/
set_option maxRecDepth 100000 in
theorem lifted_BranchBack (os : Os) (started : os.Started) (H : Type) (enc : TypeId × Value → H) (F : Stop.Interp) :
    ReturnsInHanded {} Try.checked os 12 .any ((Rows.OpenSpec.upto Rows.branchBackSpec).pre6 enc Try.prog Try.f12 Rows.branchBackUptoRow.domain false) (((Rows.OpenSpec.upto Rows.branchBackSpec).at F).post enc Try.prog Try.f12 false true false false) := by
  refine returnsInHanded_of_cond_sized (C := Try.checked) (s := Rows.OpenSpec.upto Rows.branchBackSpec) (k := Rows.uptoSmall) rfl own started (by kernel_rfl) Try.func12
    (OpenSpec.witness (enc := enc) (C := Try.checked) (s := Rows.OpenSpec.upto Rows.branchBackSpec) (k := Rows.uptoSmall) rfl false ⟨#[], #[.slice none 0 0, .int .i64 0], []⟩ 8 (by kernel_rfl) (by kernel_rfl) (by kernel_rfl)
      (x := ([.nil, .lit (.int .i64 0)], [], [])) (by kernel_rfl) rfl (by kernel_rfl)) ?_
  intro W base args ds gs before hval0 hW hcnd hk hsz0 _
  have hval : ∀ (j : Nat) t v, Try.f12.params[j]? = some t → args[j]? = some v → Value.okWide Try.prog W .any base t v := hval0
  have hW' := hW
  obtain ⟨p, q, hA0, hV, rfl, hfz, hnd⟩ := hW
  have hA : DataW.TrodAll enc Try.prog W 0 (fun _ => true) true Try.f12.params.toList args.toList ds p := hA0
  have hsz : (DataW.weightsEach Try.prog (Try.f12.params.toList ++ Rows.branchBackSpec.plain.varTypes Try.prog) (ds ++ gs)).all (· ≤ reachBytes) = true := hsz0
  rw [Try.params12] at hA hval hsz
  obtain ⟨v0, vs0, d0, ds0, p0, q0, hargs, rfl, rfl, h0, r0⟩ := trodAll_cons hA
  obtain ⟨v1, vs1, d1, ds1, p1, q1, rfl, rfl, rfl, h1, r1⟩ := trodAll_cons r0
  obtain ⟨rfl, rfl, rfl⟩ := trodAll_nil r1
  obtain rfl : args = #[v0, v1] := by cases args; simp_all
  obtain ⟨hV1, hV2⟩ := trodVars_none hV
  subst hV1 hV2
  have hbk : Rows.uptoBulkAll ([d0, d1] ++ ([] : List (DataW H))) ≤ 1048576 := of_decide_eq_true hk
  simp only [List.append_nil, Rows.uptoBulkAll] at hbk
  obtain ⟨ao0, n0, c0, rfl⟩ := okWide_slice Try.underlying77 (hval 0 77 v0 rfl rfl)
  have z0 := view_children_bulk (hsz := hsz) (j := 0) rfl rfl h0 (K := 1048576) (by omega)
  obtain ⟨a1, rfl, rfl, rfl, w1⟩ := open_int Try.underlying3 (hval 1 3 v1 rfl rfl) h1
  refine (walk_BranchBack ao0 n0 c0 z0 a1 w1 ).mono fun e W' ⟨he, hb⟩ => ?_
  subst he
  exact ⟨_, rfl, law_post (s := Rows.branchBackSpec) laidOut (by kernel_rfl) rfl hW' rfl Try.underlying4 rfl hb⟩
theorem over_BranchBack : Rows.branchBackUptoRow.holds Try.pinned (Rows.OpenSpec.upto Rows.branchBackSpec) :=
  OpenClaim.holds_of_cond 12 Try.f12 rfl rfl rfl rfl rfl rfl rfl ⟨rfl, rfl, rfl, rfl, rfl⟩ rfl rfl rfl rfl rfl (by kernel_rfl) Try.func12 (by kernel_rfl)
    (of_decide_eq_true (by kernel_rfl)) (by unfold Func.isWrapper; first | (rw [if_pos (by decide +kernel)]; kernel_rfl) | (rw [if_neg (by decide +kernel)]; exact ⟨rfl, rfl⟩))
    (fun os started H enc _ F => lifted_BranchBack os started H enc F)
/-- The statement. -/
theorem BranchBackUpto_holds : Rows.BranchBackUptoSaid := over_BranchBack
#print axioms BranchBackUpto_holds
end Go.Proofs.Ytegiibpdkioocaa
