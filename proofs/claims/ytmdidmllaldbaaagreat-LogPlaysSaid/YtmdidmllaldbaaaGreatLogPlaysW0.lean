/- The walk of arboretumlaw18.LogPlays, part 0: what is left of it is the first part of front0. -/
import Derived.Test.YtmdidmllaldbaaaGreatLogPlaysB
import Derived.Deep.QuietTactic
import Derived.Deep.CutBlock
import Derived.Deep.RegionHeld3
namespace Go.Proofs.YtmdidmllaldbaaaGreat
open Go.RowKit
set_option linter.unusedVariables false
set_option linter.unusedSimpArgs false
def LogPlaysLaw : Prop := ∀ (w : World) (base : Int) (hbw : (Lit.int .i64 base).wf = true) (term : Int) (htw : (Lit.int .i64 term).wf = true) (ao1 : Option Addr) (n1 c1 : Nat) (z1 : ∃ l, EntsIn w ao1 n1 c1 l) (zero : Bool) (ao2 : Option Addr) (n2 c2 : Nat) (z2 : ∃ l, LopsIn w ao2 n2 c2 l), Calls Tryz.prog 5 #[.int .i64 base, .int .i64 term, .slice ao1 n1 c1, .bool zero, .slice ao2 n2 c2] w fun e w' => e = .returned (.bool true) ∧ Below w.heap.size w w'
set_option maxRecDepth 100000 in
set_option maxHeartbeats 32000000 in
noncomputable def front0 : Σ' R : Prop, Later R → LogPlaysLaw := by
  apply PSigma.mk
  case snd =>
    intro hR
    unfold LogPlaysLaw
    intro w base hbw term htw ao1 n1 c1 z1 zero ao2 n2 c2 z2
    obtain ⟨l1, z1⟩ := z1
    obtain ⟨l2, z2⟩ := z2
    have hb1 := i64_wf hbw
    have ht1 := i64_wf htw
    have HE := Lib.hid z1
    have HO := Lib.hid z2
    have hnn : n1 ≤ 140737488351232 := by have := z1.sz; have := z1.le; omega
    have hmm : n2 ≤ 140737488351232 := by have := z2.sz; have := z2.le; omega
    clear z1 z2 hbw htw
    go_enter Tryz.func5, Tryz.ntmps5
    go_wp2_with fail
    refine (light18_any HO.out).mono ?_
    rintro e w1 ⟨r1, rfl, hr1, hbw1⟩
    have HB1 := Lib.hid hbw1
    clear hbw1
    cases r1 with
    | false =>
      clear hr1
      go_wp2_with fail
      refine (alive_any _).mono ?_
      rintro e w2 ⟨rfl, hb2⟩
      go_wp2_with fail
      go_ret
      exact ⟨rfl, HB1.out.trans (hb2.mono HB1.out.size)⟩
    | true =>
    obtain ⟨h120, hlight⟩ := hr1 rfl
    have HLt := Lib.hid hlight
    clear hr1 hlight
    by_cases h60 : 60 < n1
    · clear hR
      as_aux_lemma =>
        have hd : decide (60 < n1) = true := by simpa using h60
        have hd' : decide ((60 : Int) < (n1 : Int)) = true := by simp; omega
        go_wp2_with fail
        refine (alive_any _).mono ?_
        rintro e w2 ⟨rfl, hb2⟩
        go_wp2_with fail
        go_ret
        exact ⟨rfl, HB1.out.trans (hb2.mono HB1.out.size)⟩
    have hd60 : decide (60 < n1) = false := by simpa using h60
    have hd60' : decide ((60 : Int) < (n1 : Int)) = false := by simp; omega
    go_wp2_with fail
    refine (small_any (HE.out.carry HB1.out)).mono ?_
    rintro e w2 ⟨r2, rfl, hr2, hbw2⟩
    have HB2 := Lib.hid (HB1.out.trans (hbw2.mono HB1.out.size))
    clear hbw2 HB1
    cases r2 with
    | false =>
      clear hr2
      go_wp2_with fail
      refine (alive_any _).mono ?_
      rintro e w3 ⟨rfl, hb3⟩
      go_wp2_with fail
      go_ret
      exact ⟨rfl, HB2.out.trans (hb3.mono HB2.out.size)⟩
    | true =>
    obtain ⟨_, hsum⟩ := hr2 rfl
    have HSm := Lib.hid hsum
    clear hr2 hsum
    by_cases hbig : 1152921504606846976 < base
    · have hd : decide (1152921504606846976 < base) = true := by simpa using hbig
      go_wp2_with fail
      refine (alive_any _).mono ?_
      rintro e w3 ⟨rfl, hb3⟩
      go_wp2_with fail
      go_ret
      exact ⟨rfl, HB2.out.trans (hb3.mono HB2.out.size)⟩
    by_cases htig : 1152921504606846976 < term
    · have hd0 : decide (1152921504606846976 < base) = false := by simpa using hbig
      have hd : decide (1152921504606846976 < term) = true := by simpa using htig
      go_wp2_with fail
      refine (alive_any _).mono ?_
      rintro e w3 ⟨rfl, hb3⟩
      go_wp2_with fail
      go_ret
      exact ⟨rfl, HB2.out.trans (hb3.mono HB2.out.size)⟩
    have hd0 : decide (1152921504606846976 < base) = false := by simpa using hbig
    have hd1 : decide (1152921504606846976 < term) = false := by simpa using htig
    have hll : l1.length = n1 := HE.out.ents.1
    go_wp2_with fail
    refine (lentE_any (HE.out.carry HB2.out) (by omega)).mono ?_
    rintro e v1 ⟨g1, d1, rfl, hL1, hbv1⟩
    have HL1 := Lib.hid hL1
    have HV1 := Lib.hid (HB2.out.trans (hbv1.mono HB2.out.size))
    have HG1 : Hid (w.heap.size ≤ g1 ∧ g1 < v1.heap.size) := Lib.hid ⟨by have := hL1.2.1; have := HB2.out.size; omega, hL1.lt⟩
    clear hL1 hbv1 HB2
    have HNp := Lib.hid (newF_any (c := d1) base term (HL1.out.list hll) (by omega) (fun h => by cases h) (fun e he => by have := (HE.out.ok e he).2.2.2; omega))
    go_wp2_with fail
    refine HNp.out.mono ?_
    rintro e v2 ⟨q, e0, rfl, hb2, hq⟩
    have HV2 := Lib.hid hb2
    have HQ := Lib.hid hq
    have HNr := Lib.hid (rnewF_any (c := c1) base term ((HE.out.carry (HV1.out.trans (hb2.mono HV1.out.size))).ents) (by omega) HE.out.nil_ (by omega))
    clear hb2 hq HNp
    go_wp2_with fail
    refine HNr.out.mono ?_
    rintro e v3 ⟨rq, f0, rfl, hb3, hrq⟩
    obtain rfl : f0 = e0 := by
      rcases HQ.out with ⟨h1, h2, _⟩ | ⟨h1, h2, _⟩ <;> rcases hrq with ⟨k1, k2, _⟩ | ⟨k1, k2, _⟩
      · omega
      · exact absurd h1 k1
      · exact absurd k1 h1
      · omega
    have HV3 := Lib.hid (HV2.out.trans (hb3.mono HV2.out.size))
    have HRQ := Lib.hid hrq
    have HV23 := Lib.hid hb3
    obtain ⟨no, hno1, hno2⟩ : ∃ no : Bool, q.isNone = no ∧ (f0 == 0) = !no := by
      rcases HQ.out with ⟨h1, h2, b, h3, _⟩ | ⟨h1, h2, h3⟩
      · exact ⟨false, by rw [h3]; rfl, by rw [h2]; rfl⟩
      · exact ⟨true, by rw [h3]; rfl, by rw [h2]; rfl⟩
    have HSy := Lib.hid (staysE_any (d := c1) (HL1.out.below HV3.out) (HE.out.carry (HV1.out.trans (HV3.out.mono HV1.out.size))).ents (by omega))
    clear hb3 hrq HNr
    go_wp2_with fail
    refine HSy.out.mono ?_
    rintro e v4 ⟨rfl, hb4⟩
    have HV4 := Lib.hid (HV3.out.trans (hb4.mono HV3.out.size))
    have HV34 := Lib.hid hb4
    clear hb4 HSy
    rename_i za1 za2 za3 za4 za5 za6 za7 za8
    revert w base term ao1 n1 c1 zero ao2 n2 c2 l1 l2 hb1 ht1 HE HO hnn hmm za1 w1 h120 HLt h60 hd60 hd60' w2 za2 HSm hd0 hd1 hll hbig htig v1 g1 d1 HL1 HV1 HG1 v2 q HV2 v3 rq f0 HQ HV3 HRQ HV23 no hno1 hno2 za3 za4 za5 za6 za7 za8 v4 HV4 HV34
    exact hR.out
end Go.Proofs.YtmdidmllaldbaaaGreat
