/- What is proved: arboretumlaw18.LogAdds answers true for every base, term, texts, place and number, and turns no memory that was there. Conditions: none. -/
import Derived.Test.YticlkfdcocdmaaaSt
import Derived.Test.YticlkfdcocdmaaaViewT
import Derived.Test.YticlkfdcocdmaaaLogAdP
namespace Go.Proofs.Yticlkfdcocdmaaa
open Go.ChangeShapes Go.WideShapes Go.ChangeAt Go.RowKit
set_option linter.unusedVariables false
theorem newA (base term : Int) (W : World) (hb : 0 ≤ base) (ht : 0 ≤ term) : Calls Try.prog 11 #[.int .i64 base, .int .i64 term, .slice none 0 0] W (NewRes base term [] W) :=
  new_good base term none 0 0 [] W (Ents.nil_ _ _ _) (by omega) (fun _ => rfl) (by simp) hb ht rfl
section
variable {w0 W : World} {B b k : Nat} {base term : Int} {ss : List ByteArray} (h : Stan w0 W B b (logA base term ss k)) (hb0 : 0 ≤ base) (hb9 : base ≤ 1099511627776) (hk : k ≤ 60)
include h hb0 hb9 hk
theorem Stan.addA (s : ByteArray) (hs : s.size ≤ 281474976710656) (he : ss[k]? = some s) : Calls Try.prog 18 #[.pointer (some ⟨b, 0, none⟩), .int .i64 term, .int .i64 1, .string s] W fun e w' => e = .returned (.int .i64 (base + k + 1)) ∧ Stan w0 w' B b (logA base term ss (k + 1)) := by
  have hl := lastA base term ss k
  refine (add_any h.1 term 1 s hs h.2.2 (by rw [logA_len]; omega) (by rw [hl]; omega) (by rw [hl]; omega)).mono ?_
  rintro e w' ⟨he', hl', hb⟩
  rw [hl] at he' hl'
  have hg : ss.getD k ⟨#[]⟩ = s := by simp [List.getD, he]
  refine ⟨he', ?_, h.2.1.trans hb, Nat.le_trans h.2.2 hb.size⟩
  have e1 : (⟨(logA base term ss k).base, (logA base term ss k).term, (logA base term ss k).l ++ [⟨base + k + 1, term, 1, s⟩]⟩ : LogV) = logA base term ss (k + 1) := by
    have := logA_succ base term ss k
    unfold entA at this
    rw [hg] at this
    rw [this]
    rfl
  rw [← e1]
  exact hl'
end
theorem Stan.atA {w0 W : World} {B b k : Nat} {base term : Int} {ss : List ByteArray} (hb0 : 0 ≤ base) (hb9 : base ≤ 1099511627776) (hk : k ≤ 60) (s : ByteArray) (he : ss[k]? = some s) (h' : Stan w0 W B b (logA base term ss (k + 1))) : Calls Try.prog 13 #[.pointer (some ⟨b, 0, none⟩), .int .i64 (base + k + 1)] W fun e w' => e = .returned (.tuple #[.agg #[.int .i64 (base + k + 1), .int .i64 term, .int .i64 1, .string s], .bool true]) ∧ Stan w0 w' B b (logA base term ss (k + 1)) := by
  have hg : ss.getD k ⟨#[]⟩ = s := by simp [List.getD, he]
  have hy : atV (logA base term ss (k + 1)) (base + k + 1) = some ⟨base + k + 1, term, 1, s⟩ := by
    have := Go.Proofs.Yticlkfdcocdmaaa.atA base term ss k
    unfold entA at this
    rw [hg] at this
    exact this
  exact h'.at_some (base + k + 1) hb0 (by show base ≤ _; omega) (by omega) hy
/-- What LogAdds asks of Slice's answer. -/
def wantA (base f m : Int) (n : Nat) : Int := if base < f ∧ f ≤ base + n then (if m < 1 then 0 else min m (base + n - f + 1)) else 0
def SliceA (base term : Int) (ss : List ByteArray) (n : Nat) (f m : Int) (w0 : World) (B b : Nat) (e : Ending) (w' : World) : Prop :=
  ∃ ao N c l, e = .returned (.slice ao N c) ∧ Ents w' w'.heap.size ao N l ∧ (N : Int) = wantA base f m n ∧ N ≤ 60 ∧ (∀ (i : Nat) (u : Ent), l[i]? = some u → ∃ j : Nat, f = base + j + 1 ∧ j + i < n ∧ u = entA base term ss (j + i)) ∧ Stan w0 w' B b (logA base term ss n)
theorem Stan.sliceA {w0 W : World} {B b n : Nat} {base term : Int} {ss : List ByteArray} (h : Stan w0 W B b (logA base term ss n)) (hb0 : 0 ≤ base) (hb9 : base ≤ 1099511627776) (hn : n ≤ 60) (f m : Int) (hf : f ≤ 9223372036854775807) :
    Calls Try.prog 19 #[.pointer (some ⟨b, 0, none⟩), .int .i64 f, .int .i64 m] W (SliceA base term ss n f m w0 B b) := by
  refine (slice_any h.1 f m hb0 (by show base ≤ _; omega) hf (by rw [logA_len]; omega)).mono ?_
  rintro e w' ⟨ao, N, c, he, ho, hl, hb⟩
  have hw := sliceA_len base term ss n f m
  rw [hl] at hw
  refine ⟨ao, N, c, _, he, ents_own ho, hw, ?_, fun i u hu => sliceA_get base term ss n f m i u hu, h.step hb⟩
  have : (N : Int) ≤ n := by
    rw [hw]
    split
    · split
      · omega
      · omega
    · omega
  omega
set_option maxRecDepth 20000 in
set_option maxHeartbeats 8000000 in
theorem walk_LogAdds {w : World} (base : Int) (h0 : (Lit.int .i64 base).wf = true) (term : Int) (h1 : (Lit.int .i64 term).wf = true) (ao : Option Addr) (n c : Nat) (h2 : ∃ ss, TextsIn w ao n c ss)
    (f : Int) (h3 : (Lit.int .i64 f).wf = true) (m : Int) (h4 : (Lit.int .i64 m).wf = true) :
    Calls Try.prog 5 #[.int .i64 base, .int .i64 term, .slice ao n c, .int .i64 f, .int .i64 m] w fun e w' => e = .returned (.bool true) ∧ Below w.heap.size w w' := by
  obtain ⟨ss, h2⟩ := h2
  have hf := i64_wf h3
  have hm := i64_wf h4
  clear h0 h1 h3 h4
  have hnn : n ≤ 9223372036854775807 := by have := h2.sz; have := h2.le; omega
  have HT := Lib.hid h2
  clear h2
  by_cases hbad : base < 0 ∨ 1099511627776 < base ∨ term < 0 ∨ 1099511627776 < term
  · have hcases : decide (base < 0) = true ∨ (decide (base < 0) = false ∧ decide (1099511627776 < base) = true) ∨ (decide (base < 0) = false ∧ decide (1099511627776 < base) = false ∧ decide (term < 0) = true) ∨ (decide (base < 0) = false ∧ decide (1099511627776 < base) = false ∧ decide (term < 0) = false ∧ decide (1099511627776 < term) = true) := by
      simp only [decide_eq_true_eq, decide_eq_false_iff_not]; omega
    clear hbad
    rcases hcases with h1 | ⟨h1, h2⟩ | ⟨h1, h2, h3⟩ | ⟨h1, h2, h3, h4⟩
    all_goals
      go_enter Try.func5, Try.ntmps5
      go_wp2_with fail
      refine (alive_any _).mono ?_
      rintro e w1 ⟨rfl, hb1⟩
      go_wp2_with fail
      go_ret
      exact ⟨rfl, hb1⟩
  have hb0 : 0 ≤ base := by omega
  have hb9 : base ≤ 1099511627776 := by omega
  have ht0 : 0 ≤ term := by omega
  have d1 : decide (base < 0) = false := by simpa using hb0
  have d2 : decide (1099511627776 < base) = false := by simpa using hb9
  have d3 : decide (term < 0) = false := by simpa using ht0
  have d4 : decide (1099511627776 < term) = false := by simp; omega
  clear hbad
  go_enter Try.func5, Try.ntmps5
  go_wp2_with fail
  refine (short_any HT.out 60 3000 (by omega) (by omega)).mono ?_
  rintro e w1 ⟨r1, rfl, hr1, hb1⟩
  cases r1 with
  | false =>
    clear hr1
    go_wp2_with fail
    refine (alive_any _).mono ?_
    rintro e w2 ⟨rfl, hb2⟩
    go_wp2_with fail
    go_ret
    exact ⟨rfl, hb1.trans (hb2.mono hb1.size)⟩
  | true =>
  have hn : n ≤ 60 := by have := hr1 rfl; omega
  clear hr1
  go_wp2_with fail
  refine (newA base term w1 hb0 ht0).mono ?_
  rintro e w2 ⟨b, rfl, hl2, hb2⟩
  have S2 : Stan w w2 w.heap.size b (logA base term ss 0) := ⟨hl2.mono hb1.size, hb1.trans (hb2.mono hb1.size), Nat.le_trans hb1.size hb2.size⟩
  have HS2 := Lib.hid S2
  clear S2 hl2 hb2 hb1 d1 d2 d3 d4
  go_wp2_with fail
  go_loopw [13] (fun z wr => ∃ k : Nat, k ≤ n ∧ z = .int .i64 k ∧ Hid (Stan w wr w.heap.size b (logA base term ss k))) (fun z _ => n - (intOf z).toNat)
  case atStart => exact ⟨0, Nat.zero_le _, rfl, HS2⟩
  case round =>
    obtain ⟨k, hk, rfl, HS⟩ := hrel
    by_cases hlt : k < n
    · obtain ⟨g, o, s, rfl, hgB, hek, hds, q1⟩ := HT.out.get hlt
      have k1 := (HS.out.2.1.cell (p := ⟨g, o + k, none⟩) hgB).trans q1
      have HA := Lib.hid (HS.out.addA hb0 hb9 (by omega) s (by omega) hek)
      have HG := Lib.hid (fun (W : World) h' => Stan.atA (w0 := w) (W := W) (B := w.heap.size) (b := b) (term := term) hb0 hb9 (k := k) (by omega) s hek h')
      have hw1 : IntKind.i64.wrap (base + (k : Int)) = base + (k : Int) := IntWalk.i64_in _ (by omega)
      have hw2 : IntKind.i64.wrap (base + (k : Int) + 1) = base + (k : Int) + 1 := IntWalk.i64_in _ (by omega)
      have hx1 : (0 : Int) ≤ k := by omega
      have hx2 : (k : Int) < n := by omega
      clear hek
      go_wp2_with fail
      refine (HA.out).mono ?_
      rintro e3 w3 ⟨rfl, S3⟩
      go_wp2_with fail
      refine (HG.out _ S3).mono ?_
      rintro e4 w4 ⟨rfl, S4⟩
      have k2 : ∀ ob, (w4.alloc ob).cell? ⟨g, o + k, none⟩ = some (.string s) := fun ob => (World.cell?_alloc_lt w4 ob _ (Nat.lt_of_lt_of_le hgB S4.2.2)).trans ((S4.2.1.cell (p := ⟨g, o + k, none⟩) hgB).trans q1)
      have HS4 := Lib.hid S4
      clear S3 S4 k1 q1 HG HA
      go_wp2_with fail
      go_quiet (fail)
      go_wp2_with fail
      go_roundw
      case rel => exact ⟨k + 1, by omega, by go_num, (HS4.out.alloc _).drewN _⟩
      case measure => simp [intOf]; omega
    · obtain rfl : k = n := by omega
      have HSl := Lib.hid (HS.out.sliceA hb0 hb9 hn f m hf.2)
      have hsum : IntKind.i64.wrap (base + (k : Int)) = base + (k : Int) := IntWalk.i64_in _ (by omega)
      go_wp2_with fail
      refine (HSl.out).mono ?_
      rintro e3 w3 ⟨ao3, N, c3, l3, rfl, hE3, hw3, hN60, hg3, S3⟩
      clear HSl HS
      have HE3 := Lib.hid hE3
      have HG3 := Lib.hid hg3
      have HS3 := Lib.hid S3
      have HW3 := Lib.hid hw3
      clear hE3 hg3 S3 hw3
      have hcases : (decide (base < f) = false ∧ ((N : Int) != 0) = false) ∨ (decide (base < f) = true ∧ decide (f ≤ base + (k : Int)) = false ∧ ((N : Int) != 0) = false) ∨
          (decide (base < f) = true ∧ decide (f ≤ base + (k : Int)) = true ∧ base < f ∧ f ≤ base + k ∧ m < 1 ∧ ((N : Int) != 0) = false) ∨ (decide (base < f) = true ∧ decide (f ≤ base + (k : Int)) = true ∧ base < f ∧ f ≤ base + k ∧ 1 ≤ m ∧ m ≤ base + k - f + 1 ∧ m = N) ∨
          (decide (base < f) = true ∧ decide (f ≤ base + (k : Int)) = true ∧ base < f ∧ f ≤ base + k ∧ base + k - f + 1 < m ∧ base + k - f + 1 = N) := by
        have hw := HW3.out
        unfold wantA at hw
        simp only [decide_eq_true_eq, decide_eq_false_iff_not, bne_eq_false_iff_eq]
        by_cases h1 : base < f
        · by_cases h2 : f ≤ base + k
          · rw [if_pos ⟨h1, h2⟩] at hw
            by_cases h3 : m < 1
            · rw [if_pos h3] at hw; exact .inr (.inr (.inl ⟨h1, h2, h1, h2, h3, hw⟩))
            · rw [if_neg h3] at hw; omega
          · rw [if_neg (fun h => h2 h.2)] at hw; omega
        · rw [if_neg (fun h => h1 h.1)] at hw; omega
      clear HW3
      have HF : Hid (-9223372036854775808 ≤ f ∧ f ≤ 9223372036854775807) := Lib.hid hf
      rcases hcases with ⟨t1, t2⟩ | ⟨t1, t2, t3⟩ | ⟨t1, t2, t3, t4, t5, t6⟩ | ⟨t1, t2, t3, t4, t5, t6, t7⟩ | ⟨t1, t2, t3, t4, t5, t6⟩
      case' inr.inr.inl =>
        have z2 : IntKind.i64.wrap (base + (k : Int) - f) = base + k - f := IntWalk.i64_in _ (by omega)
        have z3 : IntKind.i64.wrap (base + (k : Int) - f + 1) = base + k - f + 1 := IntWalk.i64_in _ (by omega)
        have z4 : m ≤ base + k - f + 1 := by omega
        have z5 : m ≤ 0 := by omega
      case' inr.inr.inr.inl =>
        subst t7
        have z2 : IntKind.i64.wrap (base + (k : Int) - f) = base + k - f := IntWalk.i64_in _ (by omega)
        have z3 : IntKind.i64.wrap (base + (k : Int) - f + 1) = base + k - f + 1 := IntWalk.i64_in _ (by omega)
        have z5 : 0 ≤ (N : Int) := by omega
      case' inr.inr.inr.inr =>
        have z2 : IntKind.i64.wrap (base + (k : Int) - f) = base + k - f := IntWalk.i64_in _ (by omega)
        have z3 : IntKind.i64.wrap (base + (k : Int) - f + 1) = (N : Int) := by rw [t6]; exact IntWalk.i64_in _ (by omega)
        have z4 : (N : Int) < m := by omega
        have z5 : 0 ≤ (N : Int) := by omega
        have z6 : 1 ≤ (N : Int) := by omega
        clear t6
      all_goals
        go_wp2_with fail
        obtain ⟨wo, hwo⟩ : ∃ wo : World, wo = w3 := ⟨_, rfl⟩
        subst hwo
        try clear t1
        try clear t2
        try clear t3 z2 z3
        go_loopw [18] (fun z wi => ∃ i : Nat, i ≤ N ∧ z = .int .i64 i ∧ Hid (Stan w wi w.heap.size b (logA base term ss k)) ∧ Hid (Below wo.heap.size wo wi)) (fun z _ => N - (intOf z).toNat)
        case atStart => exact ⟨0, Nat.zero_le _, rfl, HS3, Lib.hid (Below.refl _ _)⟩
        case round =>
          obtain ⟨i, hi, rfl, HSi, HBi⟩ := hrel
          by_cases hil : i < N
          · obtain ⟨g, o, u, rfl, hgB, hek, q1, q2, q3, q4⟩ := (HE3.out.below HBi.out).get hil
            obtain ⟨j, hfj, hjn, hu⟩ := HG3.out i u hek
            obtain ⟨q, hq⟩ : ∃ q, q = j + i := ⟨_, rfl⟩
            rw [← hq] at hjn hu
            obtain ⟨g', o', s, rfl, hgB', hes, hds, r1⟩ := HT.out.get hjn
            have k1 := (HSi.out.2.1.cell (p := ⟨g', o' + q, none⟩) hgB').trans r1
            have hg : ss.getD q ⟨#[]⟩ = s := by simp [List.getD, hes]
            unfold entA at hu
            rw [hg] at hu
            have hux : u.ix = f + i := by rw [hu]; show base + (q : Int) + 1 = _; omega
            have hud : u.dt = s := by rw [hu]
            rw [hux] at q1
            rw [hud] at q4
            have y1 : IntKind.i64.wrap (f + (i : Int)) = f + i := IntWalk.i64_in _ (by omega)
            have y2 : IntKind.i64.wrap (f + (i : Int) - base) = f + i - base := IntWalk.i64_in _ (by omega)
            have y3 : IntKind.i64.wrap (f + (i : Int) - base - 1) = (q : Int) := by rw [IntWalk.i64_in _ (by omega)]; omega
            have hx1 : (0 : Int) ≤ i := by omega
            have hx2 : (i : Int) < N := by omega
            have hx3 : (0 : Int) ≤ q := by omega
            have hx4 : (q : Int) < k := by omega
            clear hek hu hg hes hux hud q2 q3 r1 hfj hq
            go_wp2_with fail
            go_quiet (fail)
            go_wp2_with fail
            go_roundw
            case rel => exact ⟨i + 1, by omega, by go_num, HSi.out.drewN _, Lib.hid (below_drewN HBi.out _)⟩
            case measure => simp [intOf]; omega
          · have HLa := Lib.hid HSi.out.last
            rw [lastA] at HLa
            have hsum2 : IntKind.i64.wrap (base + (k : Int)) = base + (k : Int) := IntWalk.i64_in _ (by omega)
            go_wp2_with fail
            refine (HLa.out).mono ?_
            rintro e5 w5 ⟨rfl, S5⟩
            go_wp2_with fail
            refine S5.alive.mono ?_
            rintro e6 w6 ⟨rfl, S6⟩
            clear S5
            have HLe := Lib.hid S6.len
            rw [logA_len] at HLe
            go_wp2_with fail
            refine (HLe.out).mono ?_
            rintro e7 w7 ⟨rfl, rfl⟩
            go_wp2_with fail
            go_ret
            exact ⟨rfl, S6.2.1⟩
/-! ### The row's step -/
set_option maxRecDepth 100000 in
theorem lifted_LogAdds (os : Os) (started : os.Started) (H : Type) (enc : TypeId × Value → H) :
    ReturnsInHanded {} Try.checked os 5 .any (Rows.logAddsSpec.pre6 enc Try.prog Try.f5 Rows.logAddsRow.domain false) (Rows.logAddsSpec.post enc Try.prog Try.f5 false true false false) := by
  refine returnsInHanded_of_change_sized (C := Try.checked) own started (by kernel_rfl) Try.func5
    (ChangeSpec.witness6 (enc := enc) (C := Try.checked) false ⟨#[], #[.int .i64 0, .int .i64 0, .slice none 0 0, .int .i64 0, .int .i64 0], []⟩ 8 (by kernel_rfl) (by kernel_rfl) (by kernel_rfl) (by kernel_rfl)) ?_
  intro W base args ds gs before hval0 hW hcnd hsz0 _
  have hval : ∀ (j : Nat) t v, Try.f5.params[j]? = some t → args[j]? = some v → Value.okWide Try.prog W .any base t v := hval0
  have hW' := hW
  obtain ⟨p, q, hA0, hV, rfl, hfz, hnd⟩ := hW
  have hA : DataW.TrodAll enc Try.prog W 0 (fun _ => true) true Try.f5.params.toList args.toList ds p := hA0
  have hsz : (DataW.weightsEach Try.prog (Try.f5.params.toList ++ Rows.logAddsSpec.plain.varTypes Try.prog) (ds ++ gs)).all (· ≤ reachBytes) = true := hsz0
  rw [Try.params5] at hA hval hsz
  obtain ⟨v0, vs0, d0, ds0, p0, q0, hargs, rfl, rfl, h0, r0⟩ := trodAll_cons hA
  obtain ⟨v1, vs1, d1, ds1, p1, q1, rfl, rfl, rfl, h1, r1⟩ := trodAll_cons r0
  obtain ⟨v2, vs2, d2, ds2, p2, q2, rfl, rfl, rfl, h2, r2⟩ := trodAll_cons r1
  obtain ⟨v3, vs3, d3, ds3, p3, q3, rfl, rfl, rfl, h3, r3⟩ := trodAll_cons r2
  obtain ⟨v4, vs4, d4, ds4, p4, q4, rfl, rfl, rfl, h4, r4⟩ := trodAll_cons r3
  obtain ⟨rfl, rfl, rfl⟩ := trodAll_nil r4
  obtain rfl : args = #[v0, v1, v2, v3, v4] := by cases args; simp_all
  obtain ⟨hV1, hV2⟩ := trodVars_none hV
  subst hV1 hV2
  obtain ⟨a0, rfl, rfl, rfl, w0⟩ := open_int Try.underlying3 (hval 0 3 v0 rfl rfl) h0
  obtain ⟨a1, rfl, rfl, rfl, w1⟩ := open_int Try.underlying3 (hval 1 3 v1 rfl rfl) h1
  obtain ⟨ao2, n2, c2, rfl⟩ := okWide_slice Try.underlying41 (hval 2 41 v2 rfl rfl)
  have z2 := view_strings (hsz := hsz) (j := 2) rfl rfl h2
  obtain ⟨a3, rfl, rfl, rfl, w3⟩ := open_int Try.underlying3 (hval 3 3 v3 rfl rfl) h3
  obtain ⟨a4, rfl, rfl, rfl, w4⟩ := open_int Try.underlying3 (hval 4 3 v4 rfl rfl) h4
  refine (walk_LogAdds a0 w0 a1 w1 ao2 n2 c2 z2 a3 w3 a4 w4 ).mono fun e W' ⟨he, hb⟩ => ?_
  subst he
  exact ⟨_, rfl, law_post laidOut (by kernel_rfl) rfl hW' rfl Try.underlying4 rfl hb⟩
theorem over_LogAdds : Rows.logAddsRow.holds Try.pinned (OpenSpec.ofChange Rows.logAddsSpec) :=
  OpenClaim.holds_of_wide 5 Try.f5 rfl rfl rfl rfl rfl rfl rfl ⟨rfl, rfl, rfl, rfl, rfl⟩ rfl rfl rfl rfl rfl (by kernel_rfl) Try.func5 (by kernel_rfl)
    (of_decide_eq_true (by kernel_rfl)) (by unfold Func.isWrapper; first | (rw [if_pos (by decide +kernel)]; kernel_rfl) | (rw [if_neg (by decide +kernel)]; exact ⟨rfl, rfl⟩))
    (fun os started H enc _ => lifted_LogAdds os started H enc)
/-- The statement. -/
theorem LogAdds_holds : Rows.LogAddsSaid := over_LogAdds
#print axioms LogAdds_holds
end Go.Proofs.Yticlkfdcocdmaaa
