/- What is proved: arboretumlaw18.LogNewer answers true for every two lists of entries, and turns no memory that was there. Conditions: none. -/
import Derived.Test.YticlkfdcocdmaaaAliveL
import Derived.Test.YticlkfdcocdmaaaLogG
import Derived.Test.YticlkfdcocdmaaaViewE
namespace Go.Proofs.Yticlkfdcocdmaaa
open Go.ChangeShapes Go.WideShapes Go.ChangeAt Go.RowKit
set_option linter.unusedVariables false
theorem EntsIn.folded {w W : World} {ao : Option Addr} {n c : Nat} {l : List Ent} (h : EntsIn w ao n c l) (hb : Below w.heap.size w W) (hf : folB 0 0 l = true) : Calls Try.prog 11 #[.int .i64 0, .int .i64 0, .slice ao n c] W (NewRes 0 0 l W) :=
  new_good 0 0 ao n c l W ((h.ents.below hb).mono hb.size) (by have := h.sz; have := h.le; omega) (fun e => (h.nil_ e).1) (fun e he => by have := (h.ok e he).2.2.2; omega) (by omega) (by omega) hf
theorem EntsIn.unfolded {w W : World} {ao : Option Addr} {n c : Nat} {l : List Ent} (h : EntsIn w ao n c l) (hb : Below w.heap.size w W) (hf : folB 0 0 l = false) : Calls Try.prog 11 #[.int .i64 0, .int .i64 0, .slice ao n c] W fun e w' => e = .returned (.tuple #[.pointer none, .int .i64 1]) ∧ Below W.heap.size W w' :=
  new_bad 0 0 ao n c l W ((h.ents.below hb).mono hb.size) (by have := h.sz; have := h.le; omega) (by omega) (by omega) hf
theorem newer_self (x : LogV) : newerV x (lastV x).1 (lastV x).2 = true := by unfold newerV; simp
theorem newer_or (x y : LogV) (h : newerV x (lastV y).1 (lastV y).2 = false) : newerV y (lastV x).1 (lastV x).2 = true := by
  unfold newerV at h ⊢
  simp at h ⊢
  omega
theorem newer_eq (x y : LogV) (h1 : newerV x (lastV y).1 (lastV y).2 = true) (h2 : newerV y (lastV x).1 (lastV x).2 = true) : (lastV x).1 = (lastV y).1 ∧ (lastV x).2 = (lastV y).2 := by
  unfold newerV at h1 h2
  simp at h1 h2
  omega
/-- A log's Newer, from a world on. -/
theorem LogAt.news {w W : World} {B b : Nat} {x : LogV} (h : LogAt w B b x) (i t : Int) {r : Bool} (hr : newerV x i t = r) (hb : Below w.heap.size w W) :
    Calls Try.prog 16 #[.pointer (some ⟨b, 0, none⟩), .int .i64 i, .int .i64 t] W fun e w' => e = .returned (.bool r) ∧ Below w.heap.size w w' := by
  subst hr
  refine (newer_any (h.below hb (Nat.le_refl _)) i t).mono ?_
  rintro e w' ⟨he, hb'⟩
  exact ⟨he, hb.trans (hb'.mono hb.size)⟩
set_option maxRecDepth 20000 in
set_option maxHeartbeats 4000000 in
theorem walk_LogNewer {w : World} (ao0 : Option Addr) (n0 c0 : Nat) (h0 : ∃ l, EntsIn w ao0 n0 c0 l) (ao1 : Option Addr) (n1 c1 : Nat) (h1 : ∃ l, EntsIn w ao1 n1 c1 l) :
    Calls Try.prog 4 #[.slice ao0 n0 c0, .slice ao1 n1 c1] w fun e w' => e = .returned (.bool true) ∧ Below w.heap.size w w' := by
  obtain ⟨la, h0⟩ := h0
  obtain ⟨lb, h1⟩ := h1
  have H0 := Lib.hid h0
  have H1 := Lib.hid h1
  clear h0 h1
  cases ha : folB 0 0 la with
  | false =>
    have HA := Lib.hid ha
    clear ha
    cases hb : folB 0 0 lb with
    | false =>
      have HB := Lib.hid hb
      clear hb
      go_enter Try.func4, Try.ntmps4
      go_wp2_with fail
      refine (H0.out.unfolded (Below.refl _ _) HA.out).mono ?_
      rintro e w1 ⟨rfl, hb1⟩
      go_wp2_with fail
      refine (H1.out.unfolded hb1 HB.out).mono ?_
      rintro e w2 ⟨rfl, hb2⟩
      go_wp2_with fail
      refine (alive_any _).mono ?_
      rintro e w3 ⟨rfl, hb3⟩
      go_wp2_with fail
      go_ret
      have hb12 := hb1.trans (hb2.mono hb1.size)
      exact ⟨rfl, hb12.trans (hb3.mono hb12.size)⟩
    | true =>
      have HB := Lib.hid hb
      clear hb
      go_enter Try.func4, Try.ntmps4
      go_wp2_with fail
      refine (H0.out.unfolded (Below.refl _ _) HA.out).mono ?_
      rintro e w1 ⟨rfl, hb1⟩
      go_wp2_with fail
      refine (H1.out.folded hb1 HB.out).mono ?_
      rintro e w2 ⟨b2, rfl, hl2, hb2⟩
      go_wp2_with fail
      refine (alive_any _).mono ?_
      rintro e w3 ⟨rfl, hb3⟩
      go_wp2_with fail
      go_ret
      have hb12 := hb1.trans (hb2.mono hb1.size)
      exact ⟨rfl, hb12.trans (hb3.mono hb12.size)⟩
  | true =>
    have HA := Lib.hid ha
    clear ha
    cases hb : folB 0 0 lb with
    | false =>
      have HB := Lib.hid hb
      clear hb
      go_enter Try.func4, Try.ntmps4
      go_wp2_with fail
      refine (H0.out.folded (Below.refl _ _) HA.out).mono ?_
      rintro e w1 ⟨b1, rfl, hl1, hb1⟩
      go_wp2_with fail
      refine (H1.out.unfolded hb1 HB.out).mono ?_
      rintro e w2 ⟨rfl, hb2⟩
      go_wp2_with fail
      refine (alive_any _).mono ?_
      rintro e w3 ⟨rfl, hb3⟩
      go_wp2_with fail
      go_ret
      have hb12 := hb1.trans (hb2.mono hb1.size)
      exact ⟨rfl, hb12.trans (hb3.mono hb12.size)⟩
    | true =>
      have HB := Lib.hid hb
      clear hb
      go_enter Try.func4, Try.ntmps4
      go_wp2_with fail
      refine (H0.out.folded (Below.refl _ _) HA.out).mono ?_
      rintro e w1 ⟨b1, rfl, hl1, hb1⟩
      go_wp2_with fail
      refine (H1.out.folded hb1 HB.out).mono ?_
      rintro e w2 ⟨b2, rfl, hl2, hb2⟩
      have hb12 : Below w.heap.size w w2 := hb1.trans (hb2.mono hb1.size)
      have HX := Lib.hid (hl1.below hb2 (Nat.le_refl _))
      have HY := Lib.hid hl2
      have HBW := Lib.hid hb12
      have HN0 : Hid (n0 ≤ 140737488351232) := Lib.hid (by have := H0.out.sz; have := H0.out.le; omega)
      clear hl1 hl2 hb1 hb2 hb12 H0 H1 HA HB
      by_cases hlong : 60 < n0 ∨ 60 < n1
      · by_cases h60 : 60 < n0
        · clear hlong
          go_wp2_with fail
          refine (alive_any _).mono ?_
          rintro e w3 ⟨rfl, hb3⟩
          go_wp2_with fail
          go_ret
          exact ⟨rfl, HBW.out.trans (hb3.mono HBW.out.size)⟩
        · have h61 : 60 < n1 := by omega
          clear hlong
          go_wp2_with fail
          refine (alive_any _).mono ?_
          rintro e w3 ⟨rfl, hb3⟩
          go_wp2_with fail
          go_ret
          exact ⟨rfl, HBW.out.trans (hb3.mono HBW.out.size)⟩
      · have h60 : n0 ≤ 60 := by omega
        have h61 : n1 ≤ 60 := by omega
        clear hlong
        have HL1 := Lib.hid (last_any HX.out)
        have HL2 : Hid (∀ W, Below w2.heap.size w2 W → Calls Try.prog 14 #[.pointer (some ⟨b2, 0, none⟩)] W fun r w' => r = .returned (.tuple #[.int .i64 (lastV ⟨0, 0, lb⟩).1, .int .i64 (lastV ⟨0, 0, lb⟩).2]) ∧ Below W.heap.size W w') := Lib.hid (fun W hb => last_any (HY.out.below hb (Nat.le_refl _)))
        have HS := Lib.hid (newer_self ⟨0, 0, la⟩)
        have HO := Lib.hid (newer_or ⟨0, 0, la⟩ ⟨0, 0, lb⟩)
        have HE := Lib.hid (newer_eq ⟨0, 0, la⟩ ⟨0, 0, lb⟩)
        obtain ⟨i, hi⟩ : ∃ i, i = (lastV ⟨0, 0, la⟩).1 := ⟨_, rfl⟩
        obtain ⟨s, hs⟩ : ∃ s, s = (lastV ⟨0, 0, la⟩).2 := ⟨_, rfl⟩
        obtain ⟨j, hj⟩ : ∃ j, j = (lastV ⟨0, 0, lb⟩).1 := ⟨_, rfl⟩
        obtain ⟨t, ht⟩ : ∃ t, t = (lastV ⟨0, 0, lb⟩).2 := ⟨_, rfl⟩
        rw [← hi, ← hs] at HL1 HS HO HE
        rw [← hj, ← ht] at HL2 HO HE
        clear hi hs hj ht
        go_wp2_with fail
        refine HL1.out.mono ?_
        rintro e w3 ⟨rfl, hb3⟩
        go_wp2_with fail
        refine (HL2.out _ hb3).mono ?_
        rintro e w4 ⟨rfl, hb4'⟩
        have hb4 := hb3.trans (hb4'.mono hb3.size)
        clear hb3 hb4'
        go_wp2_with fail
        refine (alive_any _).mono ?_
        rintro e w5 ⟨rfl, hb5'⟩
        have hb5 := hb4.trans (hb5'.mono hb4.size)
        clear hb4 hb5'
        go_wp2_with fail
        refine (HX.out.news i s HS.out hb5).mono ?_
        rintro e w6 ⟨rfl, hb6⟩
        clear hb5
        cases hp : newerV ⟨0, 0, la⟩ j t with
        | false =>
          have HP := Lib.hid hp
          have HQ := Lib.hid (HO.out hp)
          clear hp
          go_wp2_with fail
          refine (HX.out.news j t HP.out hb6).mono ?_
          rintro e w7 ⟨rfl, hb7⟩
          clear hb6
          go_wp2_with fail
          refine (HY.out.news i s HQ.out hb7).mono ?_
          rintro e w8 ⟨rfl, hb8⟩
          clear hb7
          go_wp2_with fail
          refine (HX.out.news j t HP.out hb8).mono ?_
          rintro e w9 ⟨rfl, hb9⟩
          clear hb8
          go_wp2_with fail
          go_ret
          exact ⟨rfl, HBW.out.trans (hb9.mono HBW.out.size)⟩
        | true =>
          have HP := Lib.hid hp
          clear hp
          cases hq : newerV ⟨0, 0, lb⟩ i s with
          | false =>
            have HQ := Lib.hid hq
            clear hq
            go_wp2_with fail
            refine (HX.out.news j t HP.out hb6).mono ?_
            rintro e w7 ⟨rfl, hb7⟩
            clear hb6
            go_wp2_with fail
            refine (HX.out.news j t HP.out hb7).mono ?_
            rintro e w8 ⟨rfl, hb8⟩
            clear hb7
            go_wp2_with fail
            refine (HY.out.news i s HQ.out hb8).mono ?_
            rintro e w9 ⟨rfl, hb9⟩
            clear hb8
            go_wp2_with fail
            go_ret
            exact ⟨rfl, HBW.out.trans (hb9.mono HBW.out.size)⟩
          | true =>
            have HQ := Lib.hid hq
            obtain ⟨rfl, rfl⟩ := HE.out HP.out hq
            clear hq HO HE HL1 HL2
            go_wp2_with fail
            refine (HX.out.news _ _ HP.out hb6).mono ?_
            rintro e w7 ⟨rfl, hb7⟩
            clear hb6
            go_wp2_with fail
            refine (HX.out.news _ _ HP.out hb7).mono ?_
            rintro e w8 ⟨rfl, hb8⟩
            clear hb7
            go_wp2_with fail
            refine (HY.out.news _ _ HQ.out hb8).mono ?_
            rintro e w9 ⟨rfl, hb9⟩
            clear hb8
            go_wp2_with fail
            go_ret
            exact ⟨rfl, HBW.out.trans (hb9.mono HBW.out.size)⟩
/-! ### The row's step -/
set_option maxRecDepth 100000 in
theorem lifted_LogNewer (os : Os) (started : os.Started) (H : Type) (enc : TypeId × Value → H) :
    ReturnsInHanded {} Try.checked os 4 .any (Rows.logNewerSpec.pre6 enc Try.prog Try.f4 Rows.logNewerRow.domain false) (Rows.logNewerSpec.post enc Try.prog Try.f4 false true false false) := by
  refine returnsInHanded_of_change_sized (C := Try.checked) own started (by kernel_rfl) Try.func4
    (ChangeSpec.witness6 (enc := enc) (C := Try.checked) false ⟨#[], #[.slice none 0 0, .slice none 0 0], []⟩ 8 (by kernel_rfl) (by kernel_rfl) (by kernel_rfl) (by kernel_rfl)) ?_
  intro W base args ds gs before hval0 hW hcnd hsz0 _
  have hval : ∀ (j : Nat) t v, Try.f4.params[j]? = some t → args[j]? = some v → Value.okWide Try.prog W .any base t v := hval0
  have hW' := hW
  obtain ⟨p, q, hA0, hV, rfl, hfz, hnd⟩ := hW
  have hA : DataW.TrodAll enc Try.prog W 0 (fun _ => true) true Try.f4.params.toList args.toList ds p := hA0
  have hsz : (DataW.weightsEach Try.prog (Try.f4.params.toList ++ Rows.logNewerSpec.plain.varTypes Try.prog) (ds ++ gs)).all (· ≤ reachBytes) = true := hsz0
  rw [Try.params4] at hA hval hsz
  obtain ⟨v0, vs0, d0, ds0, p0, q0, hargs, rfl, rfl, h0, r0⟩ := trodAll_cons hA
  obtain ⟨v1, vs1, d1, ds1, p1, q1, rfl, rfl, rfl, h1, r1⟩ := trodAll_cons r0
  obtain ⟨rfl, rfl, rfl⟩ := trodAll_nil r1
  obtain rfl : args = #[v0, v1] := by cases args; simp_all
  obtain ⟨hV1, hV2⟩ := trodVars_none hV
  subst hV1 hV2
  obtain ⟨ao0, n0, c0, rfl⟩ := okWide_slice Try.underlying22 (hval 0 22 v0 rfl rfl)
  have z0 := view_entries (hsz := hsz) (j := 0) rfl rfl h0
  obtain ⟨ao1, n1, c1, rfl⟩ := okWide_slice Try.underlying22 (hval 1 22 v1 rfl rfl)
  have z1 := view_entries (hsz := hsz) (j := 1) rfl rfl h1
  refine (walk_LogNewer ao0 n0 c0 z0 ao1 n1 c1 z1).mono fun e W' ⟨he, hb⟩ => ?_
  subst he
  exact ⟨_, rfl, law_post laidOut (by kernel_rfl) rfl hW' rfl Try.underlying4 rfl hb⟩
theorem over_LogNewer : Rows.logNewerRow.holds Try.pinned (OpenSpec.ofChange Rows.logNewerSpec) :=
  OpenClaim.holds_of_wide 4 Try.f4 rfl rfl rfl rfl rfl rfl rfl ⟨rfl, rfl, rfl, rfl, rfl⟩ rfl rfl rfl rfl rfl (by kernel_rfl) Try.func4 (by kernel_rfl)
    (of_decide_eq_true (by kernel_rfl)) (by unfold Func.isWrapper; first | (rw [if_pos (by decide +kernel)]; kernel_rfl) | (rw [if_neg (by decide +kernel)]; exact ⟨rfl, rfl⟩))
    (fun os started H enc _ => lifted_LogNewer os started H enc)
/-- The statement. -/
theorem LogNewer_holds : Rows.LogNewerSaid := over_LogNewer
#print axioms LogNewer_holds
end Go.Proofs.Yticlkfdcocdmaaa
