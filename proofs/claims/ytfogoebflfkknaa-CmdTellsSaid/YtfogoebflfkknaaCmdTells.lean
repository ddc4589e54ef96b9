/- What is proved: arboretumlaw23.CmdTells answers true for every operation, every reply, every two numbers and every text, and turns no memory that was there. Conditions: none. -/
import Derived.Test.YtfogoebflfkknaaCmdTellsW
import Derived.Test.YtfogoebflfkknaaLift
import Derived.Test.YtfogoebflfkknaaViewT
import Derived.Test.YtfogoebflfkknaaViewO
namespace Go.Proofs.Ytfogoebflfkknaa
open Go.ChangeShapes Go.WideShapes Go.ChangeAt Go.RowKit
/-! ### The row's step -/
set_option maxRecDepth 100000 in
theorem lifted_CmdTells (os : Os) (started : os.Started) (H : Type) (enc : TypeId × Value → H) :
    ReturnsInHanded {} Try.checked os 3 .any (Rows.cmdTellsSpec.pre6 enc Try.prog Try.f3 Rows.cmdTellsRow.domain false) (Rows.cmdTellsSpec.post enc Try.prog Try.f3 false true false false) := by
  refine returnsInHanded_of_change_sized (C := Try.checked) own started (by kernel_rfl) Try.func3
    (ChangeSpec.witness6 (enc := enc) (C := Try.checked) false ⟨#[], #[.agg #[.int .i64 0, .int .i64 0, .int .i64 0, .string ⟨#[]⟩, .string ⟨#[]⟩, .string ⟨#[]⟩], .agg #[.int .i64 0, .string ⟨#[]⟩, .int .i64 0], .int .i64 0, .int .i64 0, .string ⟨#[]⟩], []⟩ 8 (by kernel_rfl) (by kernel_rfl) (by kernel_rfl) (by kernel_rfl)) ?_
  intro W base args ds gs before hval0 hW hcnd hsz0 _
  have hval : ∀ (j : Nat) t v, Try.f3.params[j]? = some t → args[j]? = some v → Value.okWide Try.prog W .any base t v := hval0
  have hW' := hW
  obtain ⟨p, q, hA0, hV, rfl, hfz, hnd⟩ := hW
  have hA : DataW.TrodAll enc Try.prog W 0 (fun _ => true) true Try.f3.params.toList args.toList ds p := hA0
  have hsz : (DataW.weightsEach Try.prog (Try.f3.params.toList ++ Rows.cmdTellsSpec.plain.varTypes Try.prog) (ds ++ gs)).all (· ≤ reachBytes) = true := hsz0
  rw [Try.params3] at hA hval hsz
  obtain ⟨v0, vs0, d0, ds0, p0, q0, hargs, rfl, rfl, h0, r0⟩ := trodAll_cons hA
  obtain ⟨v1, vs1, d1, ds1, p1, q1, rfl, rfl, rfl, h1, r1⟩ := trodAll_cons r0
  obtain ⟨v2, vs2, d2, ds2, p2, q2, rfl, rfl, rfl, h2, r2⟩ := trodAll_cons r1
  obtain ⟨v3, vs3, d3, ds3, p3, q3, rfl, rfl, rfl, h3, r3⟩ := trodAll_cons r2
  obtain ⟨v4, vs4, d4, ds4, p4, q4, rfl, rfl, rfl, h4, r4⟩ := trodAll_cons r3
  obtain ⟨rfl, rfl, rfl⟩ := trodAll_nil r4
  obtain rfl : args = #[v0, v1, v2, v3, v4] := by cases args; simp_all
  obtain ⟨hV1, hV2⟩ := trodVars_none hV
  subst hV1 hV2
  obtain ⟨a0, rfl, w0⟩ := view_op (hsz := hsz) (j := 0) rfl rfl (hval 0 23 v0 rfl rfl) h0
  obtain ⟨a1, rfl, w1, x1, y1⟩ := view_reply (hsz := hsz) (j := 1) rfl rfl (hval 1 26 v1 rfl rfl) h1
  obtain ⟨a2, rfl, rfl, rfl, w2⟩ := open_int Try.underlying3 (hval 2 3 v2 rfl rfl) h2
  obtain ⟨a3, rfl, rfl, rfl, w3⟩ := open_int Try.underlying3 (hval 3 3 v3 rfl rfl) h3
  obtain ⟨a4, rfl, rfl, rfl, w4⟩ := Go.ChangeMaps.open_string Try.underlying9 (hval 4 9 v4 rfl rfl) h4
  refine (walk_CmdTells a0 w0 a1 w1 x1 y1 a2 w2 a3 w3 a4 w4 W).mono fun e W' ⟨he, hb⟩ => ?_
  subst he
  exact ⟨_, rfl, law_post (s := Rows.cmdTellsSpec) laidOut (by kernel_rfl) rfl hW' rfl Try.underlying4 rfl hb⟩
theorem over_CmdTells : Rows.cmdTellsRow.holds Try.pinned (OpenSpec.ofChange Rows.cmdTellsSpec) :=
  OpenClaim.holds_of_wide 3 Try.f3 rfl rfl rfl rfl rfl rfl rfl ⟨rfl, rfl, rfl, rfl, rfl⟩ rfl rfl rfl rfl rfl (by kernel_rfl) Try.func3 (by kernel_rfl)
    (of_decide_eq_true (by kernel_rfl)) (by unfold Func.isWrapper; first | (rw [if_pos (by decide +kernel)]; kernel_rfl) | (rw [if_neg (by decide +kernel)]; exact ⟨rfl, rfl⟩))
    (fun os started H enc _ => lifted_CmdTells os started H enc)
/-- The statement. -/
theorem CmdTells_holds : Rows.CmdTellsSaid := over_CmdTells
#print axioms CmdTells_holds
end Go.Proofs.Ytfogoebflfkknaa
