/- What is proved: arboretumlaw29.CliOnce answers true for every list of steps, and turns no memory that was there. Conditions: none. -/
import Derived.Test.YtfogoebflfkknaaCliOnceW
import Derived.Test.YtfogoebflfkknaaLift
import Derived.Test.YtfogoebflfkknaaViewT
namespace Go.Proofs.Ytfogoebflfkknaa
open Go.ChangeShapes Go.WideShapes Go.ChangeAt Go.RowKit
/-! ### The row's step -/
set_option maxRecDepth 100000 in
theorem lifted_CliOnce (os : Os) (started : os.Started) (H : Type) (enc : TypeId × Value → H) :
    ReturnsInHanded {} Try.checked os 6 .any (Rows.cliOnceSpec.pre6 enc Try.prog Try.f6 Rows.cliOnceRow.domain false) (Rows.cliOnceSpec.post enc Try.prog Try.f6 false true false false) := by
  refine returnsInHanded_of_change_sized (C := Try.checked) own started (by kernel_rfl) Try.func6
    (ChangeSpec.witness6 (enc := enc) (C := Try.checked) false ⟨#[], #[.slice none 0 0], []⟩ 8 (by kernel_rfl) (by kernel_rfl) (by kernel_rfl) (by kernel_rfl)) ?_
  intro W base args ds gs before hval0 hW hcnd hsz0 _
  have hval : ∀ (j : Nat) t v, Try.f6.params[j]? = some t → args[j]? = some v → Value.okWide Try.prog W .any base t v := hval0
  have hW' := hW
  obtain ⟨p, q, hA0, hV, rfl, hfz, hnd⟩ := hW
  have hA : DataW.TrodAll enc Try.prog W 0 (fun _ => true) true Try.f6.params.toList args.toList ds p := hA0
  have hsz : (DataW.weightsEach Try.prog (Try.f6.params.toList ++ Rows.cliOnceSpec.plain.varTypes Try.prog) (ds ++ gs)).all (· ≤ reachBytes) = true := hsz0
  rw [Try.params6] at hA hval hsz
  obtain ⟨v0, vs0, d0, ds0, p0, q0, hargs, rfl, rfl, h0, r0⟩ := trodAll_cons hA
  obtain ⟨rfl, rfl, rfl⟩ := trodAll_nil r0
  obtain rfl : args = #[v0] := by cases args; simp_all
  obtain ⟨hV1, hV2⟩ := trodVars_none hV
  subst hV1 hV2
  obtain ⟨ao0, n0, c0, rfl⟩ := okWide_slice Try.underlying68 (hval 0 68 v0 rfl rfl)
  have z0 := view_lops (hsz := hsz) (j := 0) rfl rfl h0
  refine (walk_CliOnce ao0 n0 c0 z0 ).mono fun e W' ⟨he, hb⟩ => ?_
  subst he
  exact ⟨_, rfl, law_post (s := Rows.cliOnceSpec) laidOut (by kernel_rfl) rfl hW' rfl Try.underlying4 rfl hb⟩
theorem over_CliOnce : Rows.cliOnceRow.holds Try.pinned (OpenSpec.ofChange Rows.cliOnceSpec) :=
  OpenClaim.holds_of_wide 6 Try.f6 rfl rfl rfl rfl rfl rfl rfl ⟨rfl, rfl, rfl, rfl, rfl⟩ rfl rfl rfl rfl rfl (by kernel_rfl) Try.func6 (by kernel_rfl)
    (of_decide_eq_true (by kernel_rfl)) (by unfold Func.isWrapper; first | (rw [if_pos (by decide +kernel)]; kernel_rfl) | (rw [if_neg (by decide +kernel)]; exact ⟨rfl, rfl⟩))
    (fun os started H enc _ => lifted_CliOnce os started H enc)
/-- The statement. -/
theorem CliOnce_holds : Rows.CliOnceSaid := over_CliOnce
#print axioms CliOnce_holds
end Go.Proofs.Ytfogoebflfkknaa
