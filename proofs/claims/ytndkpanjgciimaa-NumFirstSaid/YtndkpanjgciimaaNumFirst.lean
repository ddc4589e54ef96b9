/- What is proved: arboretumlaw1.NumFirst answers true for every text and number, and turns no memory that was there. Conditions: none. -/
import Derived.Test.YtndkpanjgciimaaAliveN
import Derived.Test.YtndkpanjgciimaaLift
namespace Go.Proofs.Ytndkpanjgciimaa
open Go.ChangeShapes Go.WideShapes Go.ChangeAt Go.RowKit
set_option linter.unusedVariables false
theorem rCount_off {st : RSt} (m : Int) (h : st.2 ≠ 0) : rCount m st = (0, st) := by unfold rCount; rw [rVar_off h, if_pos h]
theorem rText_off {st : RSt} (m : Int) (h : st.2 ≠ 0) : rText m st = ([], st) := by unfold rText; rw [rCount_off m h, if_pos h]
theorem rBool_off {st : RSt} (h : st.2 ≠ 0) : rBool st = (false, st) := by unfold rBool; rw [if_pos h]
theorem rEnd_off {st : RSt} (h : st.2 ≠ 0) : rEnd st = st.2 := by unfold rEnd; rw [if_pos h]
set_option maxHeartbeats 1000000 in
theorem walk_NumFirst (b : ByteArray) (hb : b.size ≤ maxLen) (m : Int) (hm : (Lit.int .i64 m).wf = true) (w : World) :
    Calls Try.prog 7 #[.string b, .int .i64 m] w fun e w' => e = .returned (.bool true) ∧ Below w.heap.size w w' := by
  unfold maxLen at hb
  by_cases hbig : 3000 < b.size
  · go_enter Try.func7, Try.ntmps7
    go_wp2_with (go_at_call 10; refine (alive_any _).mono ?_; rintro e w1 ⟨rfl, hb1⟩)
    go_ret
    exact ⟨rfl, hb1⟩
  · obtain ⟨st, hst⟩ : ∃ st : RSt, st = (rCount m (b.data.toList, 0)).2 := ⟨_, rfl⟩
    go_enter Try.func7, Try.ntmps7
    go_wp2_with fail
    refine (newReader_any b _ (by omega)).mono ?_
    rintro e w1 ⟨p, rfl, hp, hr1, hw1⟩
    have hrd1 : Rdr w1 p (b.data.toList, 0) := ⟨b, rfl, hb, hr1⟩
    clear hr1
    go_wp2_with fail
    refine (count_any hrd1 m).mono ?_
    rintro e w2 ⟨rfl, hrd2, hg2⟩
    rw [← hst] at hrd2
    have hw2 : Below w.heap.size w w2 := hw1.grown hg2 hw1.size (fun k hk => by injection hk with hk; omega)
    clear hrd1 hw1 hg2 hst
    go_wp2_with fail
    refine (err_any hrd2).mono ?_
    rintro e w' ⟨rfl, rfl⟩
    by_cases he : st.2 = 0
    · have he2 : (st.2 == 0) = true := by simp [he]
      clear he
      go_wp2_with fail
      refine (alive_any _).mono ?_
      rintro e w3 ⟨rfl, hw3⟩
      go_wp2_with fail
      go_ret
      exact ⟨rfl, hw2.trans (hw3.mono hw2.size)⟩
    · have he2 : (st.2 == 0) = false := by simp [he]
      have HE := Lib.hid he
      clear he
      go_wp2_with fail
      refine (alive_any _).mono ?_
      rintro e w3 ⟨rfl, hw3⟩
      have hrd3 : Rdr w3 p st := hrd2.below hw3 hrd2.lt
      have hw3' : Below w.heap.size w w3 := hw2.trans (hw3.mono hw2.size)
      clear hrd2 hw2 hw3
      go_wp2_with fail
      refine (rvar_any hrd3).mono ?_
      rintro e w4 ⟨rfl, hrd4, hg4⟩
      rw [rVar_off HE.out] at hrd4 ⊢
      have hw4 : Below w.heap.size w w4 := hw3'.grown hg4 hw3'.size (fun k hk => by injection hk with hk; omega)
      clear hrd3 hw3' hg4
      go_wp2_with fail
      refine (text_any hrd4 9).mono ?_
      rintro e w5 ⟨r, hr, rfl, hrd5, hg5⟩
      rw [rText_off 9 HE.out] at hrd5 hr
      obtain rfl : r = ⟨#[]⟩ := bytes_ext hr
      have hw5 : Below w.heap.size w w5 := hw4.grown hg5 hw4.size (fun k hk => by injection hk with hk; omega)
      clear hrd4 hw4 hg5 hr
      go_wp2_with fail
      refine (bool_any hrd5).mono ?_
      rintro e w6 ⟨rfl, hrd6, hg6⟩
      rw [rBool_off HE.out] at hrd6 ⊢
      have hw6 : Below w.heap.size w w6 := hw5.grown hg6 hw5.size (fun k hk => by injection hk with hk; omega)
      clear hrd5 hw5 hg6
      go_wp2_with fail
      refine (err_any hrd6).mono ?_
      rintro e w' ⟨rfl, rfl⟩
      go_wp2_with fail
      refine (end_any hrd6).mono ?_
      rintro e w' ⟨rfl, rfl⟩
      rw [rEnd_off HE.out]
      go_wp2_with fail
      go_ret
      exact ⟨rfl, hw6⟩
/-! ### The row's step -/
set_option maxRecDepth 100000 in
theorem lifted_NumFirst (os : Os) (started : os.Started) (H : Type) (enc : TypeId × Value → H) :
    ReturnsInHanded {} Try.checked os 7 .any (Rows.numFirstSpec.pre6 enc Try.prog Try.f7 Rows.numFirstRow.domain false) (Rows.numFirstSpec.post enc Try.prog Try.f7 false true false false) := by
  refine returnsInHanded_of_change_sized (C := Try.checked) own started (by kernel_rfl) Try.func7
    (ChangeSpec.witness6 (enc := enc) (C := Try.checked) false ⟨#[], #[.string ⟨#[]⟩, .int .i64 0], []⟩ 8 (by kernel_rfl) (by kernel_rfl) (by kernel_rfl) (by kernel_rfl)) ?_
  intro W base args ds gs before hval0 hW hcnd hsz0 _
  have hval : ∀ (j : Nat) t v, Try.f7.params[j]? = some t → args[j]? = some v → Value.okWide Try.prog W .any base t v := hval0
  have hW' := hW
  obtain ⟨p, q, hA0, hV, rfl, hfz, hnd⟩ := hW
  have hA : DataW.TrodAll enc Try.prog W 0 (fun _ => true) true Try.f7.params.toList args.toList ds p := hA0
  have hsz : (DataW.weightsEach Try.prog (Try.f7.params.toList ++ Rows.numFirstSpec.plain.varTypes Try.prog) (ds ++ gs)).all (· ≤ reachBytes) = true := hsz0
  rw [Try.params7] at hA hval hsz
  obtain ⟨v0, vs0, d0, ds0, p0, q0, hargs, rfl, rfl, h0, r0⟩ := trodAll_cons hA
  obtain ⟨v1, vs1, d1, ds1, p1, q1, rfl, rfl, rfl, h1, r1⟩ := trodAll_cons r0
  obtain ⟨rfl, rfl, rfl⟩ := trodAll_nil r1
  obtain rfl : args = #[v0, v1] := by cases args; simp_all
  obtain ⟨hV1, hV2⟩ := trodVars_none hV
  subst hV1 hV2
  obtain ⟨a0, rfl, rfl, rfl, w0⟩ := Go.ChangeMaps.open_string Try.underlying9 (hval 0 9 v0 rfl rfl) h0
  obtain ⟨a1, rfl, rfl, rfl, w1⟩ := open_int Try.underlying3 (hval 1 3 v1 rfl rfl) h1
  refine (walk_NumFirst a0 w0 a1 w1 W).mono fun e W' ⟨he, hb⟩ => ?_
  subst he
  exact ⟨_, rfl, law_post laidOut (by kernel_rfl) rfl hW' rfl Try.underlying4 rfl hb⟩
theorem over_NumFirst : Rows.numFirstRow.holds Try.pinned (OpenSpec.ofChange Rows.numFirstSpec) :=
  OpenClaim.holds_of_wide 7 Try.f7 rfl rfl rfl rfl rfl rfl rfl ⟨rfl, rfl, rfl, rfl, rfl⟩ rfl rfl rfl rfl rfl (by kernel_rfl) Try.func7 (by kernel_rfl)
    (of_decide_eq_true (by kernel_rfl)) (by unfold Func.isWrapper; first | (rw [if_pos (by decide +kernel)]; kernel_rfl) | (rw [if_neg (by decide +kernel)]; exact ⟨rfl, rfl⟩))
    (fun os started H enc _ => lifted_NumFirst os started H enc)
/-- The statement. -/
theorem NumFirst_holds : Rows.NumFirstSaid := over_NumFirst
#print axioms NumFirst_holds
end Go.Proofs.Ytndkpanjgciimaa
