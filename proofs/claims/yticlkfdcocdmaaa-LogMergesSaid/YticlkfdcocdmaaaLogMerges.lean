/- What is proved: arboretumlaw18.LogMerges answers true for every two lists of entries and every three numbers, and turns no memory that was there. Conditions: none. -/
import Derived.Test.YticlkfdcocdmaaaSt
import Derived.Test.YticlkfdcocdmaaaLogMgP
namespace Go.Proofs.Yticlkfdcocdmaaa
open Go.ChangeShapes Go.WideShapes Go.ChangeAt Go.RowKit
set_option linter.unusedVariables false
theorem Stan.merge {w0 W : World} {B b : Nat} {x : LogV} (h : Stan w0 W B b x) {ao : Option Addr} {n c : Nat} {l : List Ent} (hE : EntsIn w0 ao n c l) (hB : B = w0.heap.size) (prev term keep : Int) (hp : prev ≤ 9223372036854775807) (hb0 : x.base = 0) (hl : x.l.length ≤ 200) (hn : n ≤ 200) :
    Calls Try.prog 12 #[.pointer (some ⟨b, 0, none⟩), .int .i64 prev, .int .i64 term, .int .i64 keep, .slice ao n c] W fun e w' => e = .returned (.tuple #[.int .i64 (mergeV x prev term keep l).2.1, .bool (mergeV x prev term keep l).2.2]) ∧ Stan w0 w' B b (mergeV x prev term keep l).1 := by
  subst hB
  refine (merge_any (w := W) (B := w0.heap.size) (x := x) (l := l) ⟨h.1, h.2.2, (hE.ents.below h.2.1).mono h.2.2, fun e => (hE.nil_ e).1, by omega, by omega, fun e he => (hE.ok e he).1.2, by omega, fun e he => by have := (hE.ok e he).2.2.2; omega⟩ c hE.le prev term keep hp).mono ?_
  rintro e w' ⟨he, hl', hb⟩
  exact ⟨he, hl', h.2.1.trans hb, Nat.le_trans h.2.2 hb.size⟩
set_option maxRecDepth 20000 in
set_option maxHeartbeats 8000000 in
theorem walk_LogMerges {w : World} (ao0 : Option Addr) (n0 c0 : Nat) (h0 : ∃ l, EntsIn w ao0 n0 c0 l) (ao1 : Option Addr) (n1 c1 : Nat) (h1 : ∃ l, EntsIn w ao1 n1 c1 l)
    (prev : Int) (h2 : (Lit.int .i64 prev).wf = true) (term : Int) (h3 : (Lit.int .i64 term).wf = true) (keep : Int) (h4 : (Lit.int .i64 keep).wf = true) :
    Calls Try.prog 3 #[.slice ao0 n0 c0, .slice ao1 n1 c1, .int .i64 prev, .int .i64 term, .int .i64 keep] w fun e w' => e = .returned (.bool true) ∧ Below w.heap.size w w' := by
  obtain ⟨F, h0⟩ := h0
  obtain ⟨l, h1⟩ := h1
  have hprev := (i64_wf h2).2
  clear h2 h3 h4
  have hn0 : n0 ≤ 140737488351232 := by have := h0.sz; have := h0.le; omega
  have hn1 : n1 ≤ 140737488351232 := by have := h1.sz; have := h1.le; omega
  have H0 := Lib.hid h0
  have H1 := Lib.hid h1
  clear h0 h1
  by_cases h60 : 60 < n0
  · go_enter Try.func3, Try.ntmps3
    go_wp2_with fail
    refine (alive_any _).mono ?_
    rintro e w1 ⟨rfl, hb1⟩
    go_wp2_with fail
    go_ret
    exact ⟨rfl, hb1⟩
  by_cases h61 : 60 < n1
  · go_enter Try.func3, Try.ntmps3
    go_wp2_with fail
    refine (alive_any _).mono ?_
    rintro e w1 ⟨rfl, hb1⟩
    go_wp2_with fail
    go_ret
    exact ⟨rfl, hb1⟩
  have h60' : n0 ≤ 60 := by omega
  have h61' : n1 ≤ 60 := by omega
  clear h60 h61
  go_enter Try.func3, Try.ntmps3
  go_wp2_with fail
  refine (H0.out.small (Below.refl _ _)).mono ?_
  rintro e w1 ⟨r1, rfl, hb1⟩
  cases r1 with
  | false =>
    go_wp2_with fail
    refine (alive_any _).mono ?_
    rintro e w2 ⟨rfl, hb2⟩
    go_wp2_with fail
    go_ret
    exact ⟨rfl, hb1.trans (hb2.mono hb1.size)⟩
  | true =>
  go_wp2_with fail
  refine (H1.out.small hb1).mono ?_
  rintro e w2 ⟨r2, rfl, hb2⟩
  clear hb1
  cases r2 with
  | false =>
    go_wp2_with fail
    refine (alive_any _).mono ?_
    rintro e w3 ⟨rfl, hb3⟩
    go_wp2_with fail
    go_ret
    exact ⟨rfl, hb2.trans (hb3.mono hb2.size)⟩
  | true =>
  go_wp2_with fail
  cases hf : folB 0 0 F with
  | false =>
    have HF := Lib.hid hf
    clear hf
    refine (H0.out.unfolded hb2 HF.out).mono ?_
    rintro e w3 ⟨rfl, hb3⟩
    go_wp2_with fail
    refine (alive_any _).mono ?_
    rintro e w4 ⟨rfl, hb4⟩
    go_wp2_with fail
    go_ret
    have hb23 := hb2.trans (hb3.mono hb2.size)
    exact ⟨rfl, hb23.trans (hb4.mono hb23.size)⟩
  | true =>
  have HF := Lib.hid hf
  have HLaw := Lib.hid (mergeLaw F l prev term keep hf (by rw [H0.out.ents.1]; exact h60') (by rw [H1.out.ents.1]; exact h61'))
  have HFl : Hid (F.length = n0) := Lib.hid H0.out.ents.1
  have HLl : Hid (l.length = n1) := Lib.hid H1.out.ents.1
  clear hf
  refine (H0.out.folded hb2 HF.out).mono ?_
  rintro e w3 ⟨b, rfl, hl3, hb3⟩
  have S3 : Stan w w3 w.heap.size b (log0 F) := ⟨hl3.mono hb2.size, hb2.trans (hb3.mono hb2.size), Nat.le_trans hb2.size hb3.size⟩
  clear hl3 hb3 hb2
  go_wp2_with fail
  refine (S3.merge H1.out rfl prev term keep hprev rfl (by show F.length ≤ 200; rw [HFl.out]; omega) (by omega)).mono ?_
  rintro e w4 ⟨rfl, S4⟩
  clear S3
  obtain ⟨x1, hx1⟩ : ∃ x1, x1 = (mergeV (log0 F) prev term keep l).1 := ⟨_, rfl⟩
  obtain ⟨i, hi⟩ : ∃ i, i = (mergeV (log0 F) prev term keep l).2.1 := ⟨_, rfl⟩
  obtain ⟨ok, hok⟩ : ∃ ok, ok = (mergeV (log0 F) prev term keep l).2.2 := ⟨_, rfl⟩
  have hr : mergeV (log0 F) prev term keep l = (x1, i, ok) := by rw [hx1, hi, hok]
  rw [hr] at HLaw S4 ⊢
  clear hx1 hi hok hr
  have HS4 := Lib.hid S4
  clear S4
  have HB0 : Hid (x1.base = 0) := Lib.hid HLaw.out.base
  have HXl : Hid (x1.l.length ≤ 120) := Lib.hid (by have := HLaw.out.len; rw [HFl.out, HLl.out] at this; show x1.l.length ≤ 120; change x1.l.length ≤ n0 + n1 at this; omega)
  go_wp2_with fail
  go_loopw [15] (fun z wr => ∃ k : Nat, k ≤ n0 ∧ z = .int .i64 k ∧ Hid (Stan w wr w.heap.size b x1)) (fun z _ => n0 - (intOf z).toNat)
  case atStart => exact ⟨0, Nat.zero_le _, rfl, HS4⟩
  case round =>
    obtain ⟨k, hk, rfl, HS⟩ := hrel
    by_cases hgo : ∃ e, F[k]? = some e ∧ e.ix ≤ keep
    · obtain ⟨e, hek, hkp⟩ := hgo
      have hlt : k < n0 := by have := (List.getElem?_eq_some_iff.1 hek).1; have := HFl.out; omega
      obtain ⟨g, o, e', rfl, hgB, hek', q1, q2, q3, q4⟩ := H0.out.ents.get hlt
      obtain rfl : e = e' := by rw [hek] at hek'; injection hek'
      have k1 := (HS.out.2.1.cell (p := ⟨g, o + k * 4, none⟩) hgB).trans q1
      have hix : e.ix ≤ 9223372036854775807 := (H0.out.ok e (List.mem_of_getElem? hek)).1.2
      have hx1 : (0 : Int) ≤ k := by omega
      have hx2 : (k : Int) < n0 := by omega
      have hd : decide (e.ix ≤ keep) = true := by simpa using hkp
      obtain ⟨y, hy, hyt⟩ := HLaw.out.keeps k e hek hkp
      have HAt := Lib.hid (HS.out.at_some (y := y) e.ix (by rw [HB0.out]; omega) (by rw [HB0.out]; omega) hix hy)
      rw [hyt] at HAt
      clear hek hkp hy hyt hek' q1 q3 q4
      go_wp2_with fail
      refine (HAt.out).mono ?_
      rintro e5 w5 ⟨rfl, S5⟩
      have k2 := (S5.2.1.cell (p := ⟨g, o + k * 4 + 1, none⟩) hgB).trans q2
      have k2' : ∀ ob, (w5.alloc ob).cell? ⟨g, o + k * 4 + 1, none⟩ = some (.int .i64 e.tm) := fun ob => (World.cell?_alloc_lt w5 ob _ (Nat.lt_of_lt_of_le hgB S5.2.2)).trans k2
      have HS5 := Lib.hid S5
      clear S5 HAt q2
      go_wp2_with fail
      go_quiet (fail)
      go_wp2_with fail
      go_roundw
      case rel => exact ⟨k + 1, by omega, by go_num, (HS5.out.alloc _).drewN _⟩
      case measure => simp [intOf]; omega
    · have hexit : ¬ k < n0 ∨ (k < n0 ∧ ∃ g o v, ao0 = some ⟨g, o, none⟩ ∧ wr.cell? ⟨g, o + k * 4, none⟩ = some (.int .i64 v) ∧ decide (v ≤ keep) = false) := by
        by_cases hlt : k < n0
        · obtain ⟨g, o, e, ha, hgB, hek, q1, q2, q3, q4⟩ := H0.out.ents.get hlt
          exact .inr ⟨hlt, g, o, e.ix, ha, (HS.out.2.1.cell (p := ⟨g, o + k * 4, none⟩) hgB).trans q1, by
            rw [decide_eq_false_iff_not]; intro hc; exact hgo ⟨e, hek, hc⟩⟩
        · exact .inl hlt
      clear hgo
      rcases hexit with hge | ⟨hlt, g, o, v, rfl, k1, hd⟩
      all_goals
        cases ok with
        | false =>
          obtain ⟨hi, hla⟩ := HLaw.out.no rfl
          subst hi
          have HLa := Lib.hid HS.out.last
          rw [hla, HFl.out] at HLa
          clear hla
          go_wp2_with fail
          refine (HLa.out).mono ?_
          rintro e5 w5 ⟨rfl, S5⟩
          go_wp2_with fail
          refine S5.alive.mono ?_
          rintro e6 w6 ⟨rfl, S6⟩
          clear S5
          go_wp2_with fail
          go_ret
          exact ⟨rfl, S6.2.1⟩
        | true =>
          obtain ⟨hp0, hp1⟩ := HLaw.out.range rfl
          rw [HFl.out] at hp1
          have HTerm := Lib.hid (HLaw.out.terms rfl)
          have HAgain := Lib.hid (HLaw.out.again rfl)
          have hla := HLaw.out.last rfl
          rw [HFl.out, HLl.out] at hla
          have HSa := HS
          clear HS HLaw
          obtain ⟨wo, hwo⟩ : ∃ wo : World, wo = wr := ⟨_, rfl⟩
          subst hwo
          go_wp2_with fail
          try clear k1 hd
          go_loopw [20] (fun z wi => ∃ j : Nat, j ≤ n1 ∧ z = .int .i64 j ∧ Hid (Stan w wi w.heap.size b x1)) (fun z _ => n1 - (intOf z).toNat)
          case atStart => exact ⟨0, Nat.zero_le _, rfl, HSa⟩
          case round =>
            obtain ⟨j, hj, rfl, HS⟩ := hrel
            by_cases hjl : j < n1
            · obtain ⟨g1, o1, e1, rfl, hgB1, hek1, q1, q2, q3, q4⟩ := H1.out.ents.get hjl
              have k1 := (HS.out.2.1.cell (p := ⟨g1, o1 + j * 4, none⟩) hgB1).trans q1
              have hix1 : e1.ix ≤ 9223372036854775807 := (H1.out.ok e1 (List.mem_of_getElem? hek1)).1.2
              have hx1 : (0 : Int) ≤ j := by omega
              have hx2 : (j : Int) < n1 := by omega
              have HT := Lib.hid (HS.out.term e1.ix (by rw [HB0.out]; omega) (by rw [HB0.out]; omega) hix1)
              rw [HTerm.out j e1 hek1] at HT
              clear hek1 q1 q3 q4 hla
              go_wp2_with fail
              refine (HT.out).mono ?_
              rintro e5 w5 ⟨rfl, S5⟩
              have k2 := (S5.2.1.cell (p := ⟨g1, o1 + j * 4 + 1, none⟩) hgB1).trans q2
              have HS5 := Lib.hid S5
              clear S5 HT q2
              go_wp2_with fail
              go_roundw
              case rel => exact ⟨j + 1, by omega, by go_num, HS5⟩
              case measure => simp [intOf]; omega
            · have HLa := Lib.hid HS.out.last
              rcases hla with ⟨hi, hla⟩ | ⟨hi, hla⟩
              · subst hi
                rw [hla] at HLa
                have HLb := Lib.hid hla
                clear hla
                go_wp2_with fail
                refine (HLa.out).mono ?_
                rintro e5 w5 ⟨rfl, S5⟩
                go_wp2_with fail
                refine (S5.merge H1.out rfl prev term keep hprev HB0.out (by have := HXl.out; omega) (by omega)).mono ?_
                rw [HAgain.out]
                rintro e6 w6 ⟨rfl, S6⟩
                clear S5
                have HLc := Lib.hid S6.last
                dsimp only at HLc
                rw [HLb.out] at HLc
                go_wp2_with fail
                refine (HLc.out).mono ?_
                rintro e7 w7 ⟨rfl, S7⟩
                clear S6
                go_wp2_with fail
                refine S7.alive.mono ?_
                rintro e8 w8 ⟨rfl, S8⟩
                clear S7
                go_wp2_with fail
                go_ret
                exact ⟨rfl, S8.2.1⟩
              · rw [hla] at HLa
                have HLb := Lib.hid hla
                have hi0 : (i == 0) = false := by rw [beq_eq_false_iff_ne]; omega
                have hi1 : decide (0 < i) = true := by simpa using hi
                have hw : IntKind.i64.wrap (prev + (n1 : Int)) = prev + (n1 : Int) := IntWalk.i64_in _ (by omega)
                clear hla
                go_wp2_with fail
                refine (HLa.out).mono ?_
                rintro e5 w5 ⟨rfl, S5⟩
                go_wp2_with fail
                refine (S5.merge H1.out rfl prev term keep hprev HB0.out (by have := HXl.out; omega) (by omega)).mono ?_
                rw [HAgain.out]
                rintro e6 w6 ⟨rfl, S6⟩
                clear S5
                have HLc := Lib.hid S6.last
                dsimp only at HLc
                rw [HLb.out] at HLc
                go_wp2_with fail
                refine (HLc.out).mono ?_
                rintro e7 w7 ⟨rfl, S7⟩
                clear S6
                go_wp2_with fail
                refine S7.alive.mono ?_
                rintro e8 w8 ⟨rfl, S8⟩
                clear S7
                go_wp2_with fail
                go_ret
                exact ⟨rfl, S8.2.1⟩
/-! ### The row's step -/
set_option maxRecDepth 100000 in
theorem lifted_LogMerges (os : Os) (started : os.Started) (H : Type) (enc : TypeId × Value → H) :
    ReturnsInHanded {} Try.checked os 3 .any (Rows.logMergesSpec.pre6 enc Try.prog Try.f3 Rows.logMergesRow.domain false) (Rows.logMergesSpec.post enc Try.prog Try.f3 false true false false) := by
  refine returnsInHanded_of_change_sized (C := Try.checked) own started (by kernel_rfl) Try.func3
    (ChangeSpec.witness6 (enc := enc) (C := Try.checked) false ⟨#[], #[.slice none 0 0, .slice none 0 0, .int .i64 0, .int .i64 0, .int .i64 0], []⟩ 8 (by kernel_rfl) (by kernel_rfl) (by kernel_rfl) (by kernel_rfl)) ?_
  intro W base args ds gs before hval0 hW hcnd hsz0 _
  have hval : ∀ (j : Nat) t v, Try.f3.params[j]? = some t → args[j]? = some v → Value.okWide Try.prog W .any base t v := hval0
  have hW' := hW
  obtain ⟨p, q, hA0, hV, rfl, hfz, hnd⟩ := hW
  have hA : DataW.TrodAll enc Try.prog W 0 (fun _ => true) true Try.f3.params.toList args.toList ds p := hA0
  have hsz : (DataW.weightsEach Try.prog (Try.f3.params.toList ++ Rows.logMergesSpec.plain.varTypes Try.prog) (ds ++ gs)).all (· ≤ reachBytes) = true := hsz0
  rw [Try.params3] at hA hval hsz
  obtain ⟨v0, vs0, d0, ds0, p0, q0, hargs, rfl, rfl, h0, r0⟩ := trodAll_cons hA
  obtain ⟨v1, vs1, d1, ds1, p1, q1, rfl, rfl, rfl, h1, r1⟩ := trodAll_cons r0
  obtain ⟨v2, vs2, d2, ds2, p2, q2, rfl, rfl, rfl, h2, r2⟩ := trodAll_cons r1
  obtain ⟨v3, vs3, d3, ds3, p3, q3, rfl, rfl, rfl, h3, r3⟩ := trodAll_cons r2
  obtain ⟨v4, vs4, d4, ds4, p4, q4, rfl, rfl, rfl, h4, r4⟩ := trodAll_cons r3
  obtain ⟨rfl, rfl, rfl⟩ := trodAll_nil r4
  obtain rfl : args = #[v0, v1, v2, v3, v4] := by cases args; simp_all
  obtain ⟨hV1, hV2⟩ := trodVars_none hV
  subst hV1 hV2
  obtain ⟨ao0, n0, c0, rfl⟩ := okWide_slice Try.underlying22 (hval 0 22 v0 rfl rfl)
  have z0 := view_entries (hsz := hsz) (j := 0) rfl rfl h0
  obtain ⟨ao1, n1, c1, rfl⟩ := okWide_slice Try.underlying22 (hval 1 22 v1 rfl rfl)
  have z1 := view_entries (hsz := hsz) (j := 1) rfl rfl h1
  obtain ⟨a2, rfl, rfl, rfl, w2⟩ := open_int Try.underlying3 (hval 2 3 v2 rfl rfl) h2
  obtain ⟨a3, rfl, rfl, rfl, w3⟩ := open_int Try.underlying3 (hval 3 3 v3 rfl rfl) h3
  obtain ⟨a4, rfl, rfl, rfl, w4⟩ := open_int Try.underlying3 (hval 4 3 v4 rfl rfl) h4
  refine (walk_LogMerges ao0 n0 c0 z0 ao1 n1 c1 z1 a2 w2 a3 w3 a4 w4 ).mono fun e W' ⟨he, hb⟩ => ?_
  subst he
  exact ⟨_, rfl, law_post laidOut (by kernel_rfl) rfl hW' rfl Try.underlying4 rfl hb⟩
theorem over_LogMerges : Rows.logMergesRow.holds Try.pinned (OpenSpec.ofChange Rows.logMergesSpec) :=
  OpenClaim.holds_of_wide 3 Try.f3 rfl rfl rfl rfl rfl rfl rfl ⟨rfl, rfl, rfl, rfl, rfl⟩ rfl rfl rfl rfl rfl (by kernel_rfl) Try.func3 (by kernel_rfl)
    (of_decide_eq_true (by kernel_rfl)) (by unfold Func.isWrapper; first | (rw [if_pos (by decide +kernel)]; kernel_rfl) | (rw [if_neg (by decide +kernel)]; exact ⟨rfl, rfl⟩))
    (fun os started H enc _ => lifted_LogMerges os started H enc)
/-- The statement. -/
theorem LogMerges_holds : Rows.LogMergesSaid := over_LogMerges
#print axioms LogMerges_holds
end Go.Proofs.Yticlkfdcocdmaaa
