/- What is proved: arboretumlaw1.NumNone answers true for every number, and turns no memory that was there. Conditions: none. -/
import Derived.Test.YtndkpanjgciimaaAliveN
import Derived.Test.YtndkpanjgciimaaLift
namespace Go.Proofs.Ytndkpanjgciimaa
open Go.ChangeShapes Go.WideShapes Go.ChangeAt Go.RowKit
set_option linter.unusedVariables false
set_option maxHeartbeats 400000 in
theorem walk_NumNone (a : Int) (_h : (Lit.int .i64 a).wf = true) (w : World) :
    Calls Try.prog 6 #[.int .i64 a] w fun e w' => e = .returned (.bool true) ∧ Below w.heap.size w w' := by
  go_enter Try.func6, Try.ntmps6
  go_wp2_with (first
    | (go_at_call 10; refine (alive_any _).mono ?_; rintro e w1 ⟨rfl, hb1⟩)
    | (go_at_call 15; refine (rvar_nil _).mono ?_; rintro e w' ⟨rfl, rfl⟩)
    | (go_at_call 16; refine (count_nil _ _).mono ?_; rintro e w' ⟨rfl, rfl⟩)
    | (go_at_call 17; refine (text_nil _ _).mono ?_; rintro e w' ⟨rfl, rfl⟩)
    | (go_at_call 18; refine (bool_nil _).mono ?_; rintro e w' ⟨rfl, rfl⟩)
    | (go_at_call 19; refine (err_nil _).mono ?_; rintro e w' ⟨rfl, rfl⟩)
    | (go_at_call 20; refine (end_nil _).mono ?_; rintro e w' ⟨rfl, rfl⟩))
  go_ret
  exact ⟨rfl, hb1⟩
/-! ### The row's step -/
set_option maxRecDepth 100000 in
theorem lifted_NumNone (os : Os) (started : os.Started) (H : Type) (enc : TypeId × Value → H) :
    ReturnsInHanded {} Try.checked os 6 .any (Rows.numNoneSpec.pre6 enc Try.prog Try.f6 Rows.numNoneRow.domain false) (Rows.numNoneSpec.post enc Try.prog Try.f6 false true false false) := by
  refine returnsInHanded_of_change_sized (C := Try.checked) own started (by kernel_rfl) Try.func6
    (ChangeSpec.witness6 (enc := enc) (C := Try.checked) false ⟨#[], #[.int .i64 0], []⟩ 8 (by kernel_rfl) (by kernel_rfl) (by kernel_rfl) (by kernel_rfl)) ?_
  intro W base args ds gs before hval0 hW hcnd hsz0 _
  have hval : ∀ (j : Nat) t v, Try.f6.params[j]? = some t → args[j]? = some v → Value.okWide Try.prog W .any base t v := hval0
  have hW' := hW
  obtain ⟨p, q, hA0, hV, rfl, hfz, hnd⟩ := hW
  have hA : DataW.TrodAll enc Try.prog W 0 (fun _ => true) true Try.f6.params.toList args.toList ds p := hA0
  have hsz : (DataW.weightsEach Try.prog (Try.f6.params.toList ++ Rows.numNoneSpec.plain.varTypes Try.prog) (ds ++ gs)).all (· ≤ reachBytes) = true := hsz0
  rw [Try.params6] at hA hval hsz
  obtain ⟨v0, vs0, d0, ds0, p0, q0, hargs, rfl, rfl, h0, r0⟩ := trodAll_cons hA
  obtain ⟨rfl, rfl, rfl⟩ := trodAll_nil r0
  obtain rfl : args = #[v0] := by cases args; simp_all
  obtain ⟨hV1, hV2⟩ := trodVars_none hV
  subst hV1 hV2
  obtain ⟨a0, rfl, rfl, rfl, w0⟩ := open_int Try.underlying3 (hval 0 3 v0 rfl rfl) h0
  refine (walk_NumNone a0 w0 W).mono fun e W' ⟨he, hb⟩ => ?_
  subst he
  exact ⟨_, rfl, law_post laidOut (by kernel_rfl) rfl hW' rfl Try.underlying4 rfl hb⟩
theorem over_NumNone : Rows.numNoneRow.holds Try.pinned (OpenSpec.ofChange Rows.numNoneSpec) :=
  OpenClaim.holds_of_wide 6 Try.f6 rfl rfl rfl rfl rfl rfl rfl ⟨rfl, rfl, rfl, rfl, rfl⟩ rfl rfl rfl rfl rfl (by kernel_rfl) Try.func6 (by kernel_rfl)
    (of_decide_eq_true (by kernel_rfl)) (by unfold Func.isWrapper; first | (rw [if_pos (by decide +kernel)]; kernel_rfl) | (rw [if_neg (by decide +kernel)]; exact ⟨rfl, rfl⟩))
    (fun os started H enc _ => lifted_NumNone os started H enc)
/-- The statement. -/
theorem NumNone_holds : Rows.NumNoneSaid := over_NumNone
#print axioms NumNone_holds
end Go.Proofs.Ytndkpanjgciimaa
