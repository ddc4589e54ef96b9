/- What is proved: arboretumlaw1.NumDigits answers true for every two numbers, and turns no memory that was there. Conditions: none. -/
import Derived.Test.YtndkpanjgciimaaAliveN
import Derived.Test.YtndkpanjgciimaaNum2
import Derived.Test.YtndkpanjgciimaaLift
namespace Go.Proofs.Ytndkpanjgciimaa
open Go.ChangeShapes Go.WideShapes Go.ChangeAt Go.RowKit
set_option linter.unusedVariables false
set_option maxHeartbeats 1000000 in
theorem walk_NumDigits (a : Int) (ha : (Lit.int .i64 a).wf = true) (b : Int) (hb : (Lit.int .i64 b).wf = true) (w : World) :
    Calls Try.prog 5 #[.int .i64 a, .int .i64 b] w fun e w' => e = .returned (.bool true) ∧ Below w.heap.size w w' := by
  obtain ⟨ha1, ha2⟩ : -9223372036854775808 ≤ a ∧ a ≤ 9223372036854775807 := by simpa [Lit.wf, IntKind.min, IntKind.max, IntKind.bits, IntKind.signed] using ha
  obtain ⟨hb1, hb2⟩ : -9223372036854775808 ≤ b ∧ b ≤ 9223372036854775807 := by simpa [Lit.wf, IntKind.min, IntKind.max, IntKind.bits, IntKind.signed] using hb
  have HA := Lib.hid fun W => digits_any a W ha1 ha2
  have HB := Lib.hid fun W => digits_any b W hb1 hb2
  have hnum := numS_digits a ha1 ha2
  have hlen : (digits a).length ≤ 9223372036854775807 := by
    have := digF_len 20 a.natAbs []
    unfold digits
    split
    · rw [List.length_cons]; simp at this; omega
    · simp at this; omega
  obtain ⟨A, hA⟩ : ∃ A : ByteArray, A = ⟨(digits a).toArray⟩ := ⟨_, rfl⟩
  obtain ⟨B, hB⟩ : ∃ B : ByteArray, B = ⟨(digits b).toArray⟩ := ⟨_, rfl⟩
  have hAl : A.data.toList = digits a := by rw [hA]
  have hBl : B.data.toList = digits b := by rw [hB]
  rw [← hA] at HA
  rw [← hB] at HB
  have HN := Lib.hid fun W => num2_any A W (by have : A.data.toList.length = A.size := rfl; rw [hAl] at this; omega)
  rw [hAl, hnum] at HN
  have hab : (A.toList == B.toList) = (a == b) := by
    rw [ByteArray.toList_eq, ByteArray.toList_eq, hAl, hBl, Bool.eq_iff_iff]
    simp only [beq_iff_eq]
    exact ⟨digits_inj ha1 ha2 hb1 hb2, fun h => by rw [h]⟩
  obtain ⟨q, hq⟩ : ∃ q, q = (a == b) := ⟨_, rfl⟩
  rw [← hq] at hab
  have hq2 := hq.symm
  clear hq hA hB hAl hBl hnum hlen ha hb
  have hcase : (-1000000000000000000 < a ∧ a < 1000000000000000000) ∨ (¬ -1000000000000000000 < a) ∨ (-1000000000000000000 < a ∧ ¬ a < 1000000000000000000) := by omega
  rcases hcase with ⟨h1, h2⟩ | h1 | ⟨h1, h2⟩
  · rw [if_pos ⟨h1, h2⟩] at HN
    go_enter Try.func5, Try.ntmps5
    go_wp2_with fail
    refine (HA.out _).mono ?_
    rintro e w1 ⟨rfl, hw1⟩
    go_wp2_with (go_at_call 13; refine (HN.out _).mono ?_; rintro e w' ⟨rfl, rfl⟩)
    refine (alive_any _).mono ?_
    rintro e w2 ⟨rfl, hw2⟩
    go_wp2_with fail
    refine (HA.out _).mono ?_
    rintro e w3 ⟨rfl, hw3⟩
    go_wp2_with fail
    refine (HB.out _).mono ?_
    rintro e w4 ⟨rfl, hw4⟩
    go_wp2_with fail
    go_ret
    exact ⟨rfl, hw1.trans ((hw2.trans ((hw3.trans (hw4.mono hw3.size)).mono hw2.size)).mono hw1.size)⟩
  · rw [if_neg (fun h => h1 h.1)] at HN
    go_enter Try.func5, Try.ntmps5
    go_wp2_with fail
    refine (HA.out _).mono ?_
    rintro e w1 ⟨rfl, hw1⟩
    go_wp2_with (go_at_call 13; refine (HN.out _).mono ?_; rintro e w' ⟨rfl, rfl⟩)
    refine (alive_any _).mono ?_
    rintro e w2 ⟨rfl, hw2⟩
    go_wp2_with fail
    refine (HA.out _).mono ?_
    rintro e w3 ⟨rfl, hw3⟩
    go_wp2_with fail
    refine (HB.out _).mono ?_
    rintro e w4 ⟨rfl, hw4⟩
    go_wp2_with fail
    go_ret
    exact ⟨rfl, hw1.trans ((hw2.trans ((hw3.trans (hw4.mono hw3.size)).mono hw2.size)).mono hw1.size)⟩
  · rw [if_neg (fun h => h2 h.2)] at HN
    go_enter Try.func5, Try.ntmps5
    go_wp2_with fail
    refine (HA.out _).mono ?_
    rintro e w1 ⟨rfl, hw1⟩
    go_wp2_with (go_at_call 13; refine (HN.out _).mono ?_; rintro e w' ⟨rfl, rfl⟩)
    refine (alive_any _).mono ?_
    rintro e w2 ⟨rfl, hw2⟩
    go_wp2_with fail
    refine (HA.out _).mono ?_
    rintro e w3 ⟨rfl, hw3⟩
    go_wp2_with fail
    refine (HB.out _).mono ?_
    rintro e w4 ⟨rfl, hw4⟩
    go_wp2_with fail
    go_ret
    exact ⟨rfl, hw1.trans ((hw2.trans ((hw3.trans (hw4.mono hw3.size)).mono hw2.size)).mono hw1.size)⟩
/-! ### The row's step -/
set_option maxRecDepth 100000 in
theorem lifted_NumDigits (os : Os) (started : os.Started) (H : Type) (enc : TypeId × Value → H) :
    ReturnsInHanded {} Try.checked os 5 .any (Rows.numDigitsSpec.pre6 enc Try.prog Try.f5 Rows.numDigitsRow.domain false) (Rows.numDigitsSpec.post enc Try.prog Try.f5 false true false false) := by
  refine returnsInHanded_of_change_sized (C := Try.checked) own started (by kernel_rfl) Try.func5
    (ChangeSpec.witness6 (enc := enc) (C := Try.checked) false ⟨#[], #[.int .i64 0, .int .i64 0], []⟩ 8 (by kernel_rfl) (by kernel_rfl) (by kernel_rfl) (by kernel_rfl)) ?_
  intro W base args ds gs before hval0 hW hcnd hsz0 _
  have hval : ∀ (j : Nat) t v, Try.f5.params[j]? = some t → args[j]? = some v → Value.okWide Try.prog W .any base t v := hval0
  have hW' := hW
  obtain ⟨p, q, hA0, hV, rfl, hfz, hnd⟩ := hW
  have hA : DataW.TrodAll enc Try.prog W 0 (fun _ => true) true Try.f5.params.toList args.toList ds p := hA0
  have hsz : (DataW.weightsEach Try.prog (Try.f5.params.toList ++ Rows.numDigitsSpec.plain.varTypes Try.prog) (ds ++ gs)).all (· ≤ reachBytes) = true := hsz0
  rw [Try.params5] at hA hval hsz
  obtain ⟨v0, vs0, d0, ds0, p0, q0, hargs, rfl, rfl, h0, r0⟩ := trodAll_cons hA
  obtain ⟨v1, vs1, d1, ds1, p1, q1, rfl, rfl, rfl, h1, r1⟩ := trodAll_cons r0
  obtain ⟨rfl, rfl, rfl⟩ := trodAll_nil r1
  obtain rfl : args = #[v0, v1] := by cases args; simp_all
  obtain ⟨hV1, hV2⟩ := trodVars_none hV
  subst hV1 hV2
  obtain ⟨a0, rfl, rfl, rfl, w0⟩ := open_int Try.underlying3 (hval 0 3 v0 rfl rfl) h0
  obtain ⟨a1, rfl, rfl, rfl, w1⟩ := open_int Try.underlying3 (hval 1 3 v1 rfl rfl) h1
  refine (walk_NumDigits a0 w0 a1 w1 W).mono fun e W' ⟨he, hb⟩ => ?_
  subst he
  exact ⟨_, rfl, law_post laidOut (by kernel_rfl) rfl hW' rfl Try.underlying4 rfl hb⟩
theorem over_NumDigits : Rows.numDigitsRow.holds Try.pinned (OpenSpec.ofChange Rows.numDigitsSpec) :=
  OpenClaim.holds_of_wide 5 Try.f5 rfl rfl rfl rfl rfl rfl rfl ⟨rfl, rfl, rfl, rfl, rfl⟩ rfl rfl rfl rfl rfl (by kernel_rfl) Try.func5 (by kernel_rfl)
    (of_decide_eq_true (by kernel_rfl)) (by unfold Func.isWrapper; first | (rw [if_pos (by decide +kernel)]; kernel_rfl) | (rw [if_neg (by decide +kernel)]; exact ⟨rfl, rfl⟩))
    (fun os started H enc _ => lifted_NumDigits os started H enc)
/-- The statement. -/
theorem NumDigits_holds : Rows.NumDigitsSaid := over_NumDigits
#print axioms NumDigits_holds
end Go.Proofs.Ytndkpanjgciimaa
