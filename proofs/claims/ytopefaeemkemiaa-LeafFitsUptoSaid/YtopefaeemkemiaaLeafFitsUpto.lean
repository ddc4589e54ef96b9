/- arboretumlaw8.LeafFits answers true for every items and every item, and turns no memory that was there. Condition: what is handed in is of bulk at most 1048576. -/
import Derived.Test.YtopefaeemkemiaaLeafFitsW
import Derived.Test.YtopefaeemkemiaaLift
import Derived.Test.YtopefaeemkemiaaViewIt
import Derived.Deep.CondSized
namespace Go.Proofs.Ytopefaeemkemiaa
open Go.ChangeShapes Go.WideShapes Go.ChangeAt Go.RowKit
/-! ### The row's step -/
set_option maxRecDepth 100000 in
theorem lifted_LeafFits (os : Os) (started : os.Started) (H : Type) (enc : TypeId × Value → H) (F : Stop.Interp) :
    ReturnsInHanded {} Try.checked os 5 .any ((Rows.OpenSpec.upto Rows.leafFitsSpec).pre6 enc Try.prog Try.f5 Rows.leafFitsUptoRow.domain false) (((Rows.OpenSpec.upto Rows.leafFitsSpec).at F).post enc Try.prog Try.f5 false true false false) := by
  refine returnsInHanded_of_cond_sized (C := Try.checked) (s := Rows.OpenSpec.upto Rows.leafFitsSpec) (k := Rows.uptoSmall) rfl own started (by kernel_rfl) Try.func5
    (OpenSpec.witness (enc := enc) (C := Try.checked) (s := Rows.OpenSpec.upto Rows.leafFitsSpec) (k := Rows.uptoSmall) rfl false ⟨#[], #[.slice none 0 0, .agg #[.string ⟨#[]⟩, .string ⟨#[]⟩, .int .i64 0, .int .i64 0]], []⟩ 8 (by kernel_rfl) (by kernel_rfl) (by kernel_rfl)
      (x := ([.nil, .agg [.lit (.string []), .lit (.string []), .lit (.int .i64 0), .lit (.int .i64 0)]], [], [])) (by kernel_rfl) rfl (by kernel_rfl)) ?_
  intro W base args ds gs before hval0 hW hcnd hk hsz0 _
  have hval : ∀ (j : Nat) t v, Try.f5.params[j]? = some t → args[j]? = some v → Value.okWide Try.prog W .any base t v := hval0
  have hW' := hW
  obtain ⟨p, q, hA0, hV, rfl, hfz, hnd⟩ := hW
  have hA : DataW.TrodAll enc Try.prog W 0 (fun _ => true) true Try.f5.params.toList args.toList ds p := hA0
  have hsz : (DataW.weightsEach Try.prog (Try.f5.params.toList ++ Rows.leafFitsSpec.plain.varTypes Try.prog) (ds ++ gs)).all (· ≤ reachBytes) = true := hsz0
  rw [Try.params5] at hA hval hsz
  obtain ⟨v0, vs0, d0, ds0, p0, q0, hargs, rfl, rfl, h0, r0⟩ := trodAll_cons hA
  obtain ⟨v1, vs1, d1, ds1, p1, q1, rfl, rfl, rfl, h1, r1⟩ := trodAll_cons r0
  obtain ⟨rfl, rfl, rfl⟩ := trodAll_nil r1
  obtain rfl : args = #[v0, v1] := by cases args; simp_all
  obtain ⟨hV1, hV2⟩ := trodVars_none hV
  subst hV1 hV2
  have hbk : Rows.uptoBulkAll ([d0, d1] ++ ([] : List (DataW H))) ≤ 1048576 := of_decide_eq_true hk
  simp only [List.append_nil, Rows.uptoBulkAll] at hbk
  obtain ⟨ao0, n0, c0, rfl⟩ := okWide_slice Try.underlying22 (hval 0 22 v0 rfl rfl)
  have z0 := view_items_bulk (hsz := hsz) (j := 0) rfl rfl h0 (K := 1048576) (by omega)
  obtain ⟨a1, rfl, w1⟩ := view_item (hsz := hsz) (j := 1) rfl rfl (hval 1 28 v1 rfl rfl) h1
  refine (walk_LeafFits ao0 n0 c0 z0 a1 w1 ).mono fun e W' ⟨he, hb⟩ => ?_
  subst he
  exact ⟨_, rfl, law_post (s := Rows.leafFitsSpec) laidOut (by kernel_rfl) rfl hW' rfl Try.underlying4 rfl hb⟩
theorem over_LeafFits : Rows.leafFitsUptoRow.holds Try.pinned (Rows.OpenSpec.upto Rows.leafFitsSpec) :=
  OpenClaim.holds_of_cond 5 Try.f5 rfl rfl rfl rfl rfl rfl rfl ⟨rfl, rfl, rfl, rfl, rfl⟩ rfl rfl rfl rfl rfl (by kernel_rfl) Try.func5 (by kernel_rfl)
    (of_decide_eq_true (by kernel_rfl)) (by unfold Func.isWrapper; first | (rw [if_pos (by decide +kernel)]; kernel_rfl) | (rw [if_neg (by decide +kernel)]; exact ⟨rfl, rfl⟩))
    (fun os started H enc _ F => lifted_LeafFits os started H enc F)
/-- The statement. -/
theorem LeafFitsUpto_holds : Rows.LeafFitsUptoSaid := over_LeafFits
#print axioms LeafFitsUpto_holds
end Go.Proofs.Ytopefaeemkemiaa
