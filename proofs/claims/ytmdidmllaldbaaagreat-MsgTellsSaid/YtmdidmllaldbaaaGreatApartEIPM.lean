/- The walk of a Book's Apart, of lists of the kinds Entries, Ints, Pairs, Msgs (printed by wip/gen_apart.py). -/
import Derived.Test.YtmdidmllaldbaaaGreatBkNil
import Derived.Test.YtmdidmllaldbaaaGreatSince
import Derived.Test.YtmdidmllaldbaaaGreatBkE
import Derived.Test.YtmdidmllaldbaaaGreatBkI
import Derived.Test.YtmdidmllaldbaaaGreatBkP
import Derived.Test.YtmdidmllaldbaaaGreatBkM
namespace Go.Proofs.YtmdidmllaldbaaaGreat
open Go.RowKit
set_option linter.unusedVariables false
set_option linter.unusedSimpArgs false
set_option maxRecDepth 20000 in
set_option maxHeartbeats 8000000 in
theorem apartEIPM_any {w : World} {B bn : Nat} {o : Nat → Tag} {cs : Array Value} {ovE wvE : Value} {rowsE : List (KRow Ent)} {ovI wvI : Value} {rowsI : List (KRow Int)} {ovP wvP : Value} {rowsP : List (KRow Par)} {ovM wvM : Value} {rowsM : List (KRow MM)} (hB : BookAt w B 39 o bn cs) (hBw : B ≤ w.heap.size) (c0 : cs[0]? = some (.slice none 0 0)) (c2 : cs[2]? = some ovI) (c3 : cs[3]? = some wvI) (hKI : Kept w B o 1 23 3 1 encI ovI wvI rowsI) (c4 : cs[4]? = some (.slice none 0 0)) (c6 : cs[6]? = some (.slice none 0 0)) (c8 : cs[8]? = some ovP) (c9 : cs[9]? = some wvP) (hKP : Kept w B o 4 116 202 2 parCells ovP wvP rowsP) (c10 : cs[10]? = some ovE) (c11 : cs[11]? = some wvE) (hKE : Kept w B o 5 22 51 4 entCells ovE wvE rowsE) (c12 : cs[12]? = some ovM) (c13 : cs[13]? = some wvM) (hKM : KeptM w B o 6 127 118 14 encM ovM wvM rowsM) (c14 : cs[14]? = some (.slice none 0 0)) (c16 : cs[16]? = some (.slice none 0 0)) (c18 : cs[18]? = some (.slice none 0 0)) (c20 : cs[20]? = some (.slice none 0 0)) :
    Calls Tryz.prog 32 #[.pointer (some ⟨bn, 0, none⟩)] w fun e w' => e = .returned (.bool true) ∧ Turn o (fun t => t.1 < 50) w w' := by
  have HBk := Lib.hid hB
  have HKE := Lib.hid hKE
  have HKI := Lib.hid hKI
  have HKP := Lib.hid hKP
  have HKM := Lib.hid hKM
  have HT : Hid (Turn o (fun t => t.1 < 50) w w) := Lib.hid (Turn.refl _ _ _)
  have HA : Hid (Agree o o w.heap.size) := Lib.hid (Agree.refl _ _)
  have HS : Hid (B ≤ w.heap.size) := Lib.hid hBw
  have HZ : Hid (w.heap.size ≤ w.heap.size) := Lib.hid (Nat.le_refl _)
  clear hB hBw hKE hKI hKP hKM
  go_enter Tryz.func32, Tryz.ntmps32
  go_wp2_with fail
  refine (stillTexts_nil HBk.out c0).mono ?_
  rintro e _ ⟨rfl, rfl⟩
  go_wp2_with fail
  refine (stillI_any HBk.out c2 c3 HKI.out).mono ?_
  rintro e w1 ⟨rfl, hb⟩
  have HT := Lib.hid (HT.out.below hb)
  have HBk := Lib.hid (HBk.out.below hb)
  have HS := Lib.hid (Nat.le_trans HS.out hb.size)
  have HZ := Lib.hid (Nat.le_trans HZ.out hb.size)
  have HKE := Lib.hid (HKE.out.below hb)
  have HKI := Lib.hid (HKI.out.below hb)
  have HKP := Lib.hid (HKP.out.below hb)
  have HKM := Lib.hid (HKM.out.below hb)
  clear hb
  go_wp2_with fail
  refine (stillItems_nil HBk.out c4).mono ?_
  rintro e _ ⟨rfl, rfl⟩
  go_wp2_with fail
  refine (stillChildren_nil HBk.out c6).mono ?_
  rintro e _ ⟨rfl, rfl⟩
  go_wp2_with fail
  refine (stillP_any HBk.out c8 c9 HKP.out).mono ?_
  rintro e w2 ⟨rfl, hb⟩
  have HT := Lib.hid (HT.out.below hb)
  have HBk := Lib.hid (HBk.out.below hb)
  have HS := Lib.hid (Nat.le_trans HS.out hb.size)
  have HZ := Lib.hid (Nat.le_trans HZ.out hb.size)
  have HKE := Lib.hid (HKE.out.below hb)
  have HKI := Lib.hid (HKI.out.below hb)
  have HKP := Lib.hid (HKP.out.below hb)
  have HKM := Lib.hid (HKM.out.below hb)
  clear hb
  go_wp2_with fail
  refine (stillE_any HBk.out c10 c11 HKE.out).mono ?_
  rintro e w3 ⟨rfl, hb⟩
  have HT := Lib.hid (HT.out.below hb)
  have HBk := Lib.hid (HBk.out.below hb)
  have HS := Lib.hid (Nat.le_trans HS.out hb.size)
  have HZ := Lib.hid (Nat.le_trans HZ.out hb.size)
  have HKE := Lib.hid (HKE.out.below hb)
  have HKI := Lib.hid (HKI.out.below hb)
  have HKP := Lib.hid (HKP.out.below hb)
  have HKM := Lib.hid (HKM.out.below hb)
  clear hb
  go_wp2_with fail
  refine (stillM_any HBk.out c12 c13 HKM.out).mono ?_
  rintro e w4 ⟨rfl, hb⟩
  have HT := Lib.hid (HT.out.below hb)
  have HBk := Lib.hid (HBk.out.below hb)
  have HS := Lib.hid (Nat.le_trans HS.out hb.size)
  have HZ := Lib.hid (Nat.le_trans HZ.out hb.size)
  have HKE := Lib.hid (HKE.out.below hb)
  have HKI := Lib.hid (HKI.out.below hb)
  have HKP := Lib.hid (HKP.out.below hb)
  have HKM := Lib.hid (HKM.out.below hb)
  clear hb
  go_wp2_with fail
  refine (stillDues_nil HBk.out c14).mono ?_
  rintro e _ ⟨rfl, rfl⟩
  go_wp2_with fail
  refine (stillPackets_nil HBk.out c16).mono ?_
  rintro e _ ⟨rfl, rfl⟩
  go_wp2_with fail
  refine (stillEvents_nil HBk.out c18).mono ?_
  rintro e _ ⟨rfl, rfl⟩
  go_wp2_with fail
  refine (stillSteps_nil HBk.out c20).mono ?_
  rintro e _ ⟨rfl, rfl⟩
  go_wp2_with fail
  refine (bputM_any HBk.out c12 HKM.out).mono ?_
  rintro e w5 ⟨rfl, hT, hM⟩
  have HT := Lib.hid (HT.out.trans (hT.wide (fun t ht => by obtain ⟨h1, h2⟩ := ht; omega)) HA.out)
  have HBk := Lib.hid (HBk.out.turn hT (by simp) (Agree.refl _ _))
  have HS := Lib.hid (Nat.le_trans HS.out hT.size)
  have HZ := Lib.hid (Nat.le_trans HZ.out hT.size)
  have HKE := Lib.hid (HKE.out.turn hT (by intro r i; simp) (Agree.refl _ _))
  have HKI := Lib.hid (HKI.out.turn hT (by intro r i; simp) (Agree.refl _ _))
  have HKP := Lib.hid (HKP.out.turn hT (by intro r i; simp) (Agree.refl _ _))
  have HKM := Lib.hid hM
  clear hT hM
  go_wp2_with fail
  refine (putSteps_nil HBk.out c20).mono ?_
  rintro e _ ⟨rfl, rfl⟩
  go_wp2_with fail
  refine (putTexts_nil HBk.out c0).mono ?_
  rintro e _ ⟨rfl, rfl⟩
  go_wp2_with fail
  refine (bputI_any HBk.out c2 HKI.out).mono ?_
  rintro e w6 ⟨rfl, hT, hM⟩
  have HT := Lib.hid (HT.out.trans (hT.wide (fun t ht => by obtain ⟨h1, h2⟩ := ht; omega)) HA.out)
  have HBk := Lib.hid (HBk.out.turn hT (by simp) (Agree.refl _ _))
  have HS := Lib.hid (Nat.le_trans HS.out hT.size)
  have HZ := Lib.hid (Nat.le_trans HZ.out hT.size)
  have HKE := Lib.hid (HKE.out.turn hT (by intro r i; simp) (Agree.refl _ _))
  have HKP := Lib.hid (HKP.out.turn hT (by intro r i; simp) (Agree.refl _ _))
  have HKM := Lib.hid (HKM.out.turn hT (by intro r i; simp) (Agree.refl _ _))
  have HKI := Lib.hid hM
  clear hT hM
  go_wp2_with fail
  refine (putItems_nil HBk.out c4).mono ?_
  rintro e _ ⟨rfl, rfl⟩
  go_wp2_with fail
  refine (putChildren_nil HBk.out c6).mono ?_
  rintro e _ ⟨rfl, rfl⟩
  go_wp2_with fail
  refine (bputP_any HBk.out c8 HKP.out).mono ?_
  rintro e w7 ⟨rfl, hT, hM⟩
  have HT := Lib.hid (HT.out.trans (hT.wide (fun t ht => by obtain ⟨h1, h2⟩ := ht; omega)) HA.out)
  have HBk := Lib.hid (HBk.out.turn hT (by simp) (Agree.refl _ _))
  have HS := Lib.hid (Nat.le_trans HS.out hT.size)
  have HZ := Lib.hid (Nat.le_trans HZ.out hT.size)
  have HKE := Lib.hid (HKE.out.turn hT (by intro r i; simp) (Agree.refl _ _))
  have HKI := Lib.hid (HKI.out.turn hT (by intro r i; simp) (Agree.refl _ _))
  have HKM := Lib.hid (HKM.out.turn hT (by intro r i; simp) (Agree.refl _ _))
  have HKP := Lib.hid hM
  clear hT hM
  go_wp2_with fail
  refine (bputE_any HBk.out c10 HKE.out).mono ?_
  rintro e w8 ⟨rfl, hT, hM⟩
  have HT := Lib.hid (HT.out.trans (hT.wide (fun t ht => by obtain ⟨h1, h2⟩ := ht; omega)) HA.out)
  have HBk := Lib.hid (HBk.out.turn hT (by simp) (Agree.refl _ _))
  have HS := Lib.hid (Nat.le_trans HS.out hT.size)
  have HZ := Lib.hid (Nat.le_trans HZ.out hT.size)
  have HKI := Lib.hid (HKI.out.turn hT (by intro r i; simp) (Agree.refl _ _))
  have HKP := Lib.hid (HKP.out.turn hT (by intro r i; simp) (Agree.refl _ _))
  have HKM := Lib.hid (HKM.out.turn hT (by intro r i; simp) (Agree.refl _ _))
  have HKE := Lib.hid hM
  clear hT hM
  go_wp2_with fail
  refine (putDues_nil HBk.out c14).mono ?_
  rintro e _ ⟨rfl, rfl⟩
  go_wp2_with fail
  refine (putPackets_nil HBk.out c16).mono ?_
  rintro e _ ⟨rfl, rfl⟩
  go_wp2_with fail
  refine (putEvents_nil HBk.out c18).mono ?_
  rintro e _ ⟨rfl, rfl⟩
  go_wp2_with fail
  refine (growTexts_nil HBk.out c0).mono ?_
  rintro e _ ⟨rfl, rfl⟩
  go_wp2_with fail
  refine (growI_any HBk.out HS.out c2 HKI.out).mono ?_
  rintro e w9 ⟨gvI, oI, grI, rfl, hA, hT, hM⟩
  obtain ⟨gaI, gcI, hgv, _⟩ := own_shape hM.outg
  subst hgv
  have HT := Lib.hid (HT.out.trans (hT.wide (fun t ht => by obtain ⟨h1, h2⟩ := ht; omega)) HA.out)
  have HBk := Lib.hid (HBk.out.turn hT (by simp) hA)
  have HS := Lib.hid (Nat.le_trans HS.out hT.size)
  have HKE := Lib.hid (HKE.out.turn hT (by intro r i; simp) hA)
  have HKP := Lib.hid (HKP.out.turn hT (by intro r i; simp) hA)
  have HKM := Lib.hid (HKM.out.turn hT (by intro r i; simp) hA)
  have HA := Lib.hid (HA.out.trans hA HZ.out)
  have HZ := Lib.hid (Nat.le_trans HZ.out hT.size)
  have HKI := Lib.hid hM
  clear hT hM hA
  go_wp2_with fail
  refine (growItems_nil HBk.out c4).mono ?_
  rintro e _ ⟨rfl, rfl⟩
  go_wp2_with fail
  refine (growChildren_nil HBk.out c6).mono ?_
  rintro e _ ⟨rfl, rfl⟩
  go_wp2_with fail
  refine (growP_any HBk.out HS.out c8 HKP.out).mono ?_
  rintro e w10 ⟨gvP, oP, grP, rfl, hA, hT, hM⟩
  obtain ⟨gaP, gcP, hgv, _⟩ := own_shape hM.outg
  subst hgv
  have HT := Lib.hid (HT.out.trans (hT.wide (fun t ht => by obtain ⟨h1, h2⟩ := ht; omega)) HA.out)
  have HBk := Lib.hid (HBk.out.turn hT (by simp) hA)
  have HS := Lib.hid (Nat.le_trans HS.out hT.size)
  have HKE := Lib.hid (HKE.out.turn hT (by intro r i; simp) hA)
  have HKI := Lib.hid (HKI.out.turn hT (by intro r i; simp) hA)
  have HKM := Lib.hid (HKM.out.turn hT (by intro r i; simp) hA)
  have HA := Lib.hid (HA.out.trans hA HZ.out)
  have HZ := Lib.hid (Nat.le_trans HZ.out hT.size)
  have HKP := Lib.hid hM
  clear hT hM hA
  go_wp2_with fail
  refine (growE_any HBk.out HS.out c10 HKE.out).mono ?_
  rintro e w11 ⟨gvE, oE, grE, rfl, hA, hT, hM⟩
  obtain ⟨gaE, gcE, hgv, _⟩ := own_shape hM.outg
  subst hgv
  have HT := Lib.hid (HT.out.trans (hT.wide (fun t ht => by obtain ⟨h1, h2⟩ := ht; omega)) HA.out)
  have HBk := Lib.hid (HBk.out.turn hT (by simp) hA)
  have HS := Lib.hid (Nat.le_trans HS.out hT.size)
  have HKI := Lib.hid (HKI.out.turn hT (by intro r i; simp) hA)
  have HKP := Lib.hid (HKP.out.turn hT (by intro r i; simp) hA)
  have HKM := Lib.hid (HKM.out.turn hT (by intro r i; simp) hA)
  have HA := Lib.hid (HA.out.trans hA HZ.out)
  have HZ := Lib.hid (Nat.le_trans HZ.out hT.size)
  have HKE := Lib.hid hM
  clear hT hM hA
  go_wp2_with fail
  refine (growM_any HBk.out HS.out c12 HKM.out).mono ?_
  rintro e w12 ⟨gvM, oM, grM, rfl, hA, hT, hM⟩
  obtain ⟨gaM, gcM, hgv, _⟩ := own_shape hM.outg
  subst hgv
  have HT := Lib.hid (HT.out.trans (hT.wide (fun t ht => by obtain ⟨h1, h2⟩ := ht; omega)) HA.out)
  have HBk := Lib.hid (HBk.out.turn hT (by simp) hA)
  have HS := Lib.hid (Nat.le_trans HS.out hT.size)
  have HKE := Lib.hid (HKE.out.turn hT (by intro r i; simp) hA)
  have HKI := Lib.hid (HKI.out.turn hT (by intro r i; simp) hA)
  have HKP := Lib.hid (HKP.out.turn hT (by intro r i; simp) hA)
  have HA := Lib.hid (HA.out.trans hA HZ.out)
  have HZ := Lib.hid (Nat.le_trans HZ.out hT.size)
  have HKM := Lib.hid hM
  clear hT hM hA
  go_wp2_with fail
  refine (growDues_nil HBk.out c14).mono ?_
  rintro e _ ⟨rfl, rfl⟩
  go_wp2_with fail
  refine (growPackets_nil HBk.out c16).mono ?_
  rintro e _ ⟨rfl, rfl⟩
  go_wp2_with fail
  refine (growEvents_nil HBk.out c18).mono ?_
  rintro e _ ⟨rfl, rfl⟩
  go_wp2_with fail
  refine (growSteps_nil HBk.out c20).mono ?_
  rintro e _ ⟨rfl, rfl⟩
  obtain ⟨oaE, ocE, hovE, _⟩ := own_shape HKE.out.out
  obtain ⟨noE, hnoE⟩ : ∃ n, (rowsE.map (fun r => (r.v, r.l.length))).length = n := ⟨_, rfl⟩
  obtain ⟨ngE, hngE⟩ : ∃ n, grE.length = n := ⟨_, rfl⟩
  rw [hnoE] at hovE
  rw [hngE]
  have HOE : Hid (∀ W, Below w12.heap.size w12 W → Calls Tryz.prog 170 #[.slice oaE noE ocE] W fun e w' => e = .returned (.bool true) ∧ Below W.heap.size W w') := Lib.hid (fun W hb => markedE_any (rows := rowsE.map (fun r => (r.v, r.l.length))) (Nat.le_trans HS.out hb.size) (by have := own_below HKE.out.out hb; rw [hovE, hnoE] at this; exact this) (by have := HKE.out.few; omega) hnoE (fun r hr => by have := HKE.out.short r hr; omega) (fun i r hr => (HKE.out.row i r hr).1.below hb))
  have HGE : Hid (∀ W, Below w12.heap.size w12 W → Calls Tryz.prog 170 #[.slice gaE ngE gcE] W fun e w' => e = .returned (.bool true) ∧ Below W.heap.size W w') := Lib.hid (fun W hb => markedE_any (rows := grE) (Nat.le_trans HS.out hb.size) (by have := own_below HKE.out.outg hb; rw [hngE] at this; exact this) (by have := HKE.out.fewg; omega) hngE HKE.out.shortg (fun i r hr => (HKE.out.rowg i r hr).1.below hb))
  obtain ⟨oaI, ocI, hovI, _⟩ := own_shape HKI.out.out
  obtain ⟨noI, hnoI⟩ : ∃ n, (rowsI.map (fun r => (r.v, r.l.length))).length = n := ⟨_, rfl⟩
  obtain ⟨ngI, hngI⟩ : ∃ n, grI.length = n := ⟨_, rfl⟩
  rw [hnoI] at hovI
  rw [hngI]
  have HOI : Hid (∀ W, Below w12.heap.size w12 W → Calls Tryz.prog 166 #[.slice oaI noI ocI] W fun e w' => e = .returned (.bool true) ∧ Below W.heap.size W w') := Lib.hid (fun W hb => markedI_any (rows := rowsI.map (fun r => (r.v, r.l.length))) (Nat.le_trans HS.out hb.size) (by have := own_below HKI.out.out hb; rw [hovI, hnoI] at this; exact this) (by have := HKI.out.few; omega) hnoI (fun r hr => by have := HKI.out.short r hr; omega) (fun i r hr => (HKI.out.row i r hr).1.below hb))
  have HGI : Hid (∀ W, Below w12.heap.size w12 W → Calls Tryz.prog 166 #[.slice gaI ngI gcI] W fun e w' => e = .returned (.bool true) ∧ Below W.heap.size W w') := Lib.hid (fun W hb => markedI_any (rows := grI) (Nat.le_trans HS.out hb.size) (by have := own_below HKI.out.outg hb; rw [hngI] at this; exact this) (by have := HKI.out.fewg; omega) hngI HKI.out.shortg (fun i r hr => (HKI.out.rowg i r hr).1.below hb))
  obtain ⟨oaP, ocP, hovP, _⟩ := own_shape HKP.out.out
  obtain ⟨noP, hnoP⟩ : ∃ n, (rowsP.map (fun r => (r.v, r.l.length))).length = n := ⟨_, rfl⟩
  obtain ⟨ngP, hngP⟩ : ∃ n, grP.length = n := ⟨_, rfl⟩
  rw [hnoP] at hovP
  rw [hngP]
  have HOP : Hid (∀ W, Below w12.heap.size w12 W → Calls Tryz.prog 169 #[.slice oaP noP ocP] W fun e w' => e = .returned (.bool true) ∧ Below W.heap.size W w') := Lib.hid (fun W hb => markedP_any (rows := rowsP.map (fun r => (r.v, r.l.length))) (Nat.le_trans HS.out hb.size) (by have := own_below HKP.out.out hb; rw [hovP, hnoP] at this; exact this) (by have := HKP.out.few; omega) hnoP (fun r hr => by have := HKP.out.short r hr; omega) (fun i r hr => (HKP.out.row i r hr).1.below hb))
  have HGP : Hid (∀ W, Below w12.heap.size w12 W → Calls Tryz.prog 169 #[.slice gaP ngP gcP] W fun e w' => e = .returned (.bool true) ∧ Below W.heap.size W w') := Lib.hid (fun W hb => markedP_any (rows := grP) (Nat.le_trans HS.out hb.size) (by have := own_below HKP.out.outg hb; rw [hngP] at this; exact this) (by have := HKP.out.fewg; omega) hngP HKP.out.shortg (fun i r hr => (HKP.out.rowg i r hr).1.below hb))
  obtain ⟨oaM, ocM, hovM, _⟩ := own_shape HKM.out.out
  obtain ⟨noM, hnoM⟩ : ∃ n, (rowsM.map (fun r => (r.v, r.l.length))).length = n := ⟨_, rfl⟩
  obtain ⟨ngM, hngM⟩ : ∃ n, grM.length = n := ⟨_, rfl⟩
  rw [hnoM] at hovM
  rw [hngM]
  have HOM : Hid (∀ W, Below w12.heap.size w12 W → Calls Tryz.prog 171 #[.slice oaM noM ocM] W fun e w' => e = .returned (.bool true) ∧ Below W.heap.size W w') := Lib.hid (fun W hb => markedM_any (rows := rowsM.map (fun r => (r.v, r.l.length))) (Nat.le_trans HS.out hb.size) (by have := own_below HKM.out.out hb; rw [hovM, hnoM] at this; exact this) (by have := HKM.out.few; omega) hnoM (fun r hr => by have := HKM.out.short r hr; omega) (fun i r hr => (HKM.out.row i r hr).1.below hb))
  have HGM : Hid (∀ W, Below w12.heap.size w12 W → Calls Tryz.prog 171 #[.slice gaM ngM gcM] W fun e w' => e = .returned (.bool true) ∧ Below W.heap.size W w') := Lib.hid (fun W hb => markedM_any (rows := grM) (Nat.le_trans HS.out hb.size) (by have := own_below HKM.out.outg hb; rw [hngM] at this; exact this) (by have := HKM.out.fewg; omega) hngM HKM.out.shortg (fun i r hr => (HKM.out.rowg i r hr).1.below hb))
  have HB : Hid (Below w12.heap.size w12 w12) := Lib.hid (Below.refl _ _)
  go_wp2_with fail
  refine (markedTexts_nil _).mono ?_
  rintro e _ ⟨rfl, rfl⟩
  have cb : w12.cell? ⟨bn, 0, none⟩ = some (.slice none 0 0) := by rw [blk_cell (HBk.out.below HB.out).1, c0]
  go_wp2_with fail
  refine (markedTexts_nil _).mono ?_
  rintro e _ ⟨rfl, rfl⟩
  clear cb
  go_wp2_with fail
  refine (HGI.out _ HB.out).mono ?_
  rintro e w13 ⟨rfl, hb⟩
  have HB := Lib.hid (HB.out.trans (hb.mono HB.out.size))
  clear hb
  have cb : w13.cell? ⟨bn, 2, none⟩ = some (.slice oaI noI ocI) := by rw [blk_cell (HBk.out.below HB.out).1, c2, hovI]
  go_wp2_with fail
  refine (HOI.out _ HB.out).mono ?_
  rintro e w14 ⟨rfl, hb⟩
  have HB := Lib.hid (HB.out.trans (hb.mono HB.out.size))
  clear hb
  clear cb
  go_wp2_with fail
  refine (markedItems_nil _).mono ?_
  rintro e _ ⟨rfl, rfl⟩
  have cb : w14.cell? ⟨bn, 4, none⟩ = some (.slice none 0 0) := by rw [blk_cell (HBk.out.below HB.out).1, c4]
  go_wp2_with fail
  refine (markedItems_nil _).mono ?_
  rintro e _ ⟨rfl, rfl⟩
  clear cb
  go_wp2_with fail
  refine (markedChildren_nil _).mono ?_
  rintro e _ ⟨rfl, rfl⟩
  have cb : w14.cell? ⟨bn, 6, none⟩ = some (.slice none 0 0) := by rw [blk_cell (HBk.out.below HB.out).1, c6]
  go_wp2_with fail
  refine (markedChildren_nil _).mono ?_
  rintro e _ ⟨rfl, rfl⟩
  clear cb
  go_wp2_with fail
  refine (HGP.out _ HB.out).mono ?_
  rintro e w15 ⟨rfl, hb⟩
  have HB := Lib.hid (HB.out.trans (hb.mono HB.out.size))
  clear hb
  have cb : w15.cell? ⟨bn, 8, none⟩ = some (.slice oaP noP ocP) := by rw [blk_cell (HBk.out.below HB.out).1, c8, hovP]
  go_wp2_with fail
  refine (HOP.out _ HB.out).mono ?_
  rintro e w16 ⟨rfl, hb⟩
  have HB := Lib.hid (HB.out.trans (hb.mono HB.out.size))
  clear hb
  clear cb
  go_wp2_with fail
  refine (HGE.out _ HB.out).mono ?_
  rintro e w17 ⟨rfl, hb⟩
  have HB := Lib.hid (HB.out.trans (hb.mono HB.out.size))
  clear hb
  have cb : w17.cell? ⟨bn, 10, none⟩ = some (.slice oaE noE ocE) := by rw [blk_cell (HBk.out.below HB.out).1, c10, hovE]
  go_wp2_with fail
  refine (HOE.out _ HB.out).mono ?_
  rintro e w18 ⟨rfl, hb⟩
  have HB := Lib.hid (HB.out.trans (hb.mono HB.out.size))
  clear hb
  clear cb
  go_wp2_with fail
  refine (HGM.out _ HB.out).mono ?_
  rintro e w19 ⟨rfl, hb⟩
  have HB := Lib.hid (HB.out.trans (hb.mono HB.out.size))
  clear hb
  have cb : w19.cell? ⟨bn, 12, none⟩ = some (.slice oaM noM ocM) := by rw [blk_cell (HBk.out.below HB.out).1, c12, hovM]
  go_wp2_with fail
  refine (HOM.out _ HB.out).mono ?_
  rintro e w20 ⟨rfl, hb⟩
  have HB := Lib.hid (HB.out.trans (hb.mono HB.out.size))
  clear hb
  clear cb
  go_wp2_with fail
  refine (markedDues_nil _).mono ?_
  rintro e _ ⟨rfl, rfl⟩
  have cb : w20.cell? ⟨bn, 14, none⟩ = some (.slice none 0 0) := by rw [blk_cell (HBk.out.below HB.out).1, c14]
  go_wp2_with fail
  refine (markedDues_nil _).mono ?_
  rintro e _ ⟨rfl, rfl⟩
  clear cb
  go_wp2_with fail
  refine (markedPackets_nil _).mono ?_
  rintro e _ ⟨rfl, rfl⟩
  have cb : w20.cell? ⟨bn, 16, none⟩ = some (.slice none 0 0) := by rw [blk_cell (HBk.out.below HB.out).1, c16]
  go_wp2_with fail
  refine (markedPackets_nil _).mono ?_
  rintro e _ ⟨rfl, rfl⟩
  clear cb
  go_wp2_with fail
  refine (markedEvents_nil _).mono ?_
  rintro e _ ⟨rfl, rfl⟩
  have cb : w20.cell? ⟨bn, 18, none⟩ = some (.slice none 0 0) := by rw [blk_cell (HBk.out.below HB.out).1, c18]
  go_wp2_with fail
  refine (markedEvents_nil _).mono ?_
  rintro e _ ⟨rfl, rfl⟩
  clear cb
  go_wp2_with fail
  refine (markedSteps_nil _).mono ?_
  rintro e _ ⟨rfl, rfl⟩
  have cb : w20.cell? ⟨bn, 20, none⟩ = some (.slice none 0 0) := by rw [blk_cell (HBk.out.below HB.out).1, c20]
  go_wp2_with fail
  refine (markedSteps_nil _).mono ?_
  rintro e _ ⟨rfl, rfl⟩
  clear cb
  go_wp2_with fail
  go_ret
  exact ⟨rfl, HT.out.below HB.out⟩
end Go.Proofs.YtmdidmllaldbaaaGreat
