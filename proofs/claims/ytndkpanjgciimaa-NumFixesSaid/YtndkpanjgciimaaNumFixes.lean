/- What is proved: arboretumlaw1.NumFixes answers true for every two numbers, and turns no memory that was there. Conditions: none. -/
import Derived.Test.YtndkpanjgciimaaAliveN
import Derived.Test.YtndkpanjgciimaaLift
namespace Go.Proofs.Ytndkpanjgciimaa
open Go.ChangeShapes Go.WideShapes Go.ChangeAt Go.RowKit
set_option linter.unusedVariables false
theorem fixB_get (v n i : Nat) (h : i < n) : (fixB v n)[i]? = some (UInt8.ofNat (v / 256 ^ i)) := by
  induction n with
  | zero => omega
  | succ n ih =>
    rw [fixB]
    by_cases h1 : i < n
    · rw [List.getElem?_append_left (by rw [fixB_len]; exact h1), ih h1]
    · obtain rfl : i = n := by omega
      rw [List.getElem?_append_right (by rw [fixB_len]; omega), fixB_len]
      simp
theorem pow8 (n : Nat) : (256 : Nat) ^ n = 2 ^ (8 * n) := by rw [show (256 : Nat) = 2 ^ 8 from rfl, ← Nat.pow_mul]
theorem shr_ne (v n : Nat) (h : ¬ v < 256 ^ n) : (((v : Int) / 2 ^ (8 * n)) != 0) = true := by
  have e := pow8 n
  have : 0 < v / 2 ^ (8 * n) := Nat.div_pos (by omega) (Nat.pow_pos (by omega))
  have e2 : ((v : Int) / 2 ^ (8 * n)) = ((v / 2 ^ (8 * n) : Nat) : Int) := by simp
  rw [e2]; simp; omega
theorem shr_eq (v n : Nat) (h : v < 256 ^ n) : (((v : Int) / 2 ^ (8 * n)) != 0) = false := by
  have e := pow8 n
  have : v / 2 ^ (8 * n) = 0 := Nat.div_eq_of_lt (by omega)
  have e2 : ((v : Int) / 2 ^ (8 * n)) = ((v / 2 ^ (8 * n) : Nat) : Int) := by simp
  rw [e2, this]; rfl
set_option maxHeartbeats 1000000 in
theorem walk_NumFixes (v : Int) (hv : (Lit.int .i64 v).wf = true) (n : Int) (_hn : (Lit.int .i64 n).wf = true) (w : World) :
    Calls Try.prog 4 #[.int .i64 v, .int .i64 n] w fun e w' => e = .returned (.bool true) ∧ Below w.heap.size w w' := by
  by_cases h : n < 1 ∨ 7 < n ∨ v < 0
  · have HF := Lib.hid fun W => fix_bad v n W h
    by_cases h1 : n < 1
    · clear h
      go_enter Try.func4, Try.ntmps4
      go_wp2_with (first | (go_at_call 12; refine (HF.out _).mono ?_; rintro e w' ⟨rfl, rfl⟩) | (go_at_call 10; refine (alive_any _).mono ?_; rintro e w1 ⟨rfl, hb1⟩))
      go_ret
      exact ⟨rfl, hb1⟩
    · by_cases h2 : 7 < n
      · clear h
        go_enter Try.func4, Try.ntmps4
        go_wp2_with (first | (go_at_call 12; refine (HF.out _).mono ?_; rintro e w' ⟨rfl, rfl⟩) | (go_at_call 10; refine (alive_any _).mono ?_; rintro e w1 ⟨rfl, hb1⟩))
        go_ret
        exact ⟨rfl, hb1⟩
      · have h3 : v < 0 := by omega
        clear h
        go_enter Try.func4, Try.ntmps4
        go_wp2_with (first | (go_at_call 12; refine (HF.out _).mono ?_; rintro e w' ⟨rfl, rfl⟩) | (go_at_call 10; refine (alive_any _).mono ?_; rintro e w1 ⟨rfl, hb1⟩))
        go_ret
        exact ⟨rfl, hb1⟩
  · obtain ⟨V, rfl⟩ := Int.eq_ofNat_of_zero_le (show 0 ≤ v by omega)
    obtain ⟨N, rfl⟩ := Int.eq_ofNat_of_zero_le (show 0 ≤ n by omega)
    have hN1 : 1 ≤ N := by omega
    have hN7 : N ≤ 7 := by omega
    have p7 : (256 : Nat) ^ 7 = 72057594037927936 := by decide
    clear h
    by_cases hg : V < 256 ^ N
    · have HF := Lib.hid fun W => fix_good V N W hN1 hN7 hg
      have hle : 256 ^ N ≤ 256 ^ 7 := Nat.pow_le_pow_right (by omega) hN7
      have hV : V < 72057594037927936 := by omega
      have h56 : (((V : Int) / 72057594037927936) != 0) = false := by
        have : (V : Int) / 72057594037927936 = 0 := by omega
        rw [this]; rfl
      have hs8 := shr_eq V N hg
      obtain ⟨s, hs⟩ : ∃ s : ByteArray, s = ⟨(fixB V N).toArray⟩ := ⟨_, rfl⟩
      rw [← hs] at HF
      have hsz : s.size = N := by rw [hs]; show (fixB V N).length = N; exact fixB_len V N
      have hget : ∀ i (hi : i < s.size), s[i].toNat = V / 256 ^ i % 256 := by
        intro i hi
        have h1 := fixB_get V N i (by omega)
        have h2 : s.data.toList[i]? = some s[i] := by rw [List.getElem?_eq_getElem (show i < s.data.toList.length from hi)]; rfl
        have h3 : (fixB V N)[i]? = some s[i] := by rw [← h2, show fixB V N = s.data.toList from by rw [hs]]
        rw [h1] at h3
        injection h3 with h3
        rw [← h3]; simp
      have HG := Lib.hid hget
      have HG0 := Lib.hid hg
      have hszb : ((s.size : Int) != (N : Int)) = false := by rw [hsz]; simp
      have hsz1 : s.size ≤ N := Nat.le_of_eq hsz
      have hsz2 : N ≤ s.size := Nat.le_of_eq hsz.symm
      have hN : (decide ((N : Int) < 7) = true) ∨ (decide ((N : Int) < 7) = false) := by cases decide ((N : Int) < 7) <;> simp
      clear hget hsz hs hg hle p7
      rcases hN with hN | hN
      all_goals
        go_enter Try.func4, Try.ntmps4
        go_wp2_with (go_at_call 12; refine (HF.out _).mono ?_; rintro e w1 ⟨rfl, hb1⟩)
        have HB1 := Lib.hid hb1
        clear hb1
        go_loop [7, 8] (fun t i => ∃ k : Nat, k ≤ N ∧ i = .int .i64 ((k : Int) - 1) ∧ t = .int .i64 ((V / 256 ^ k : Nat) : Int)) (fun _ i => (intOf i + 1).toNat)
        case atStart => exact ⟨N, Nat.le_refl _, rfl, by rw [Nat.div_eq_of_lt HG0.out]; rfl⟩
        case round =>
          obtain ⟨k, hk, rfl, rfl⟩ := hrel
          cases k with
          | zero =>
            rw [show (((0 : Nat) : Int) - 1) = -1 from rfl, show V / 256 ^ 0 = V from by simp]
            go_wp2_with (go_at_call 10; refine (alive_any _).mono ?_; rintro e w2 ⟨rfl, hb2⟩)
            go_ret
            exact ⟨rfl, HB1.out.trans (hb2.mono HB1.out.size)⟩
          | succ j =>
            rw [show (((j + 1 : Nat) : Int) - 1) = (j : Int) from by omega]
            have hjs : j < s.size := by omega
            have hgj := HG.out j hjs
            have hstep : V / 256 ^ (j + 1) * 256 + s[j].toNat = V / 256 ^ j := by
              rw [hgj, Nat.pow_succ, ← Nat.div_div_eq_div_mul]; omega
            have hle2 : V / 256 ^ j ≤ V := Nat.div_le_self _ _
            obtain ⟨T, hT⟩ : ∃ T, T = V / 256 ^ (j + 1) := ⟨_, rfl⟩
            rw [← hT] at hstep ⊢
            have HST := Lib.hid hstep
            have hT2 : T * 256 + s[j].toNat ≤ V := by omega
            clear hgj hT hstep hle2
            go_wp2
            go_round
            case rel => exact ⟨j, by omega, rfl, by rw [← HST.out]; go_num⟩
            case measure => simp [intOf]
    · have HF := Lib.hid fun W => fix_great V N W hN1 hN7 hg
      have hs8 := shr_ne V N hg
      rcases (show (decide ((N : Int) < 7) = true) ∨ (decide ((N : Int) < 7) = false ∧ (((V : Int) / 72057594037927936) != 0) = true) from by
        by_cases h7 : N < 7
        · exact .inl (by simp; omega)
        · refine .inr ⟨by simp; omega, ?_⟩
          obtain rfl : N = 7 := by omega
          have : 1 ≤ V / 72057594037927936 := by rw [p7] at hg; omega
          have e : ((V : Int) / 72057594037927936) = ((V / 72057594037927936 : Nat) : Int) := by omega
          rw [e]; simp; omega) with hN | ⟨hN, h56⟩
      all_goals
        clear hg p7
        go_enter Try.func4, Try.ntmps4
        go_wp2_with (first | (go_at_call 12; refine (HF.out _).mono ?_; rintro e w' ⟨rfl, rfl⟩) | (go_at_call 10; refine (alive_any _).mono ?_; rintro e w1 ⟨rfl, hb1⟩))
        go_ret
        exact ⟨rfl, hb1⟩
/-! ### The row's step -/
set_option maxRecDepth 100000 in
theorem lifted_NumFixes (os : Os) (started : os.Started) (H : Type) (enc : TypeId × Value → H) :
    ReturnsInHanded {} Try.checked os 4 .any (Rows.numFixesSpec.pre6 enc Try.prog Try.f4 Rows.numFixesRow.domain false) (Rows.numFixesSpec.post enc Try.prog Try.f4 false true false false) := by
  refine returnsInHanded_of_change_sized (C := Try.checked) own started (by kernel_rfl) Try.func4
    (ChangeSpec.witness6 (enc := enc) (C := Try.checked) false ⟨#[], #[.int .i64 0, .int .i64 0], []⟩ 8 (by kernel_rfl) (by kernel_rfl) (by kernel_rfl) (by kernel_rfl)) ?_
  intro W base args ds gs before hval0 hW hcnd hsz0 _
  have hval : ∀ (j : Nat) t v, Try.f4.params[j]? = some t → args[j]? = some v → Value.okWide Try.prog W .any base t v := hval0
  have hW' := hW
  obtain ⟨p, q, hA0, hV, rfl, hfz, hnd⟩ := hW
  have hA : DataW.TrodAll enc Try.prog W 0 (fun _ => true) true Try.f4.params.toList args.toList ds p := hA0
  have hsz : (DataW.weightsEach Try.prog (Try.f4.params.toList ++ Rows.numFixesSpec.plain.varTypes Try.prog) (ds ++ gs)).all (· ≤ reachBytes) = true := hsz0
  rw [Try.params4] at hA hval hsz
  obtain ⟨v0, vs0, d0, ds0, p0, q0, hargs, rfl, rfl, h0, r0⟩ := trodAll_cons hA
  obtain ⟨v1, vs1, d1, ds1, p1, q1, rfl, rfl, rfl, h1, r1⟩ := trodAll_cons r0
  obtain ⟨rfl, rfl, rfl⟩ := trodAll_nil r1
  obtain rfl : args = #[v0, v1] := by cases args; simp_all
  obtain ⟨hV1, hV2⟩ := trodVars_none hV
  subst hV1 hV2
  obtain ⟨a0, rfl, rfl, rfl, w0⟩ := open_int Try.underlying3 (hval 0 3 v0 rfl rfl) h0
  obtain ⟨a1, rfl, rfl, rfl, w1⟩ := open_int Try.underlying3 (hval 1 3 v1 rfl rfl) h1
  refine (walk_NumFixes a0 w0 a1 w1 W).mono fun e W' ⟨he, hb⟩ => ?_
  subst he
  exact ⟨_, rfl, law_post laidOut (by kernel_rfl) rfl hW' rfl Try.underlying4 rfl hb⟩
theorem over_NumFixes : Rows.numFixesRow.holds Try.pinned (OpenSpec.ofChange Rows.numFixesSpec) :=
  OpenClaim.holds_of_wide 4 Try.f4 rfl rfl rfl rfl rfl rfl rfl ⟨rfl, rfl, rfl, rfl, rfl⟩ rfl rfl rfl rfl rfl (by kernel_rfl) Try.func4 (by kernel_rfl)
    (of_decide_eq_true (by kernel_rfl)) (by unfold Func.isWrapper; first | (rw [if_pos (by decide +kernel)]; kernel_rfl) | (rw [if_neg (by decide +kernel)]; exact ⟨rfl, rfl⟩))
    (fun os started H enc _ => lifted_NumFixes os started H enc)
/-- The statement. -/
theorem NumFixes_holds : Rows.NumFixesSaid := over_NumFixes
#print axioms NumFixes_holds
end Go.Proofs.Ytndkpanjgciimaa
