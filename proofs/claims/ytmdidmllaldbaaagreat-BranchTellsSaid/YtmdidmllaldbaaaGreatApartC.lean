/- The walk of a Book's Apart, of lists of the kinds Children (printed by wip/gen_apart.py). -/
import Derived.Test.YtmdidmllaldbaaaGreatBkNil
import Derived.Test.YtmdidmllaldbaaaGreatSince
import Derived.Test.YtmdidmllaldbaaaGreatBkC
namespace Go.Proofs.YtmdidmllaldbaaaGreat
open Go.RowKit
set_option linter.unusedVariables false
set_option linter.unusedSimpArgs false
set_option maxRecDepth 20000 in
set_option maxHeartbeats 8000000 in
theorem apartC_any {w : World} {B bn : Nat} {o : Nat → Tag} {cs : Array Value} {ovC wvC : Value} {rowsC : List (KRow Chd)} (hB : BookAt w B 39 o bn cs) (hBw : B ≤ w.heap.size) (c0 : cs[0]? = some (.slice none 0 0)) (c2 : cs[2]? = some (.slice none 0 0)) (c4 : cs[4]? = some (.slice none 0 0)) (c6 : cs[6]? = some ovC) (c7 : cs[7]? = some wvC) (hKC : Kept w B o 3 66 192 2 chdCells ovC wvC rowsC) (c8 : cs[8]? = some (.slice none 0 0)) (c10 : cs[10]? = some (.slice none 0 0)) (c12 : cs[12]? = some (.slice none 0 0)) (c14 : cs[14]? = some (.slice none 0 0)) (c16 : cs[16]? = some (.slice none 0 0)) (c18 : cs[18]? = some (.slice none 0 0)) (c20 : cs[20]? = some (.slice none 0 0)) :
    Calls Tryz.prog 32 #[.pointer (some ⟨bn, 0, none⟩)] w fun e w' => e = .returned (.bool true) ∧ Turn o (fun t => t.1 < 50) w w' := by
  have HBk := Lib.hid hB
  have HKC := Lib.hid hKC
  have HT : Hid (Turn o (fun t => t.1 < 50) w w) := Lib.hid (Turn.refl _ _ _)
  have HA : Hid (Agree o o w.heap.size) := Lib.hid (Agree.refl _ _)
  have HS : Hid (B ≤ w.heap.size) := Lib.hid hBw
  have HZ : Hid (w.heap.size ≤ w.heap.size) := Lib.hid (Nat.le_refl _)
  clear hB hBw hKC
  go_enter Tryz.func32, Tryz.ntmps32
  go_wp2_with fail
  refine (stillTexts_nil HBk.out c0).mono ?_
  rintro e _ ⟨rfl, rfl⟩
  go_wp2_with fail
  refine (stillInts_nil HBk.out c2).mono ?_
  rintro e _ ⟨rfl, rfl⟩
  go_wp2_with fail
  refine (stillItems_nil HBk.out c4).mono ?_
  rintro e _ ⟨rfl, rfl⟩
  go_wp2_with fail
  refine (stillC_any HBk.out c6 c7 HKC.out).mono ?_
  rintro e w1 ⟨rfl, hb⟩
  have HT := Lib.hid (HT.out.below hb)
  have HBk := Lib.hid (HBk.out.below hb)
  have HS := Lib.hid (Nat.le_trans HS.out hb.size)
  have HZ := Lib.hid (Nat.le_trans HZ.out hb.size)
  have HKC := Lib.hid (HKC.out.below hb)
  clear hb
  go_wp2_with fail
  refine (stillPairs_nil HBk.out c8).mono ?_
  rintro e _ ⟨rfl, rfl⟩
  go_wp2_with fail
  refine (stillEntries_nil HBk.out c10).mono ?_
  rintro e _ ⟨rfl, rfl⟩
  go_wp2_with fail
  refine (stillMsgs_nil HBk.out c12).mono ?_
  rintro e _ ⟨rfl, rfl⟩
  go_wp2_with fail
  refine (stillDues_nil HBk.out c14).mono ?_
  rintro e _ ⟨rfl, rfl⟩
  go_wp2_with fail
  refine (stillPackets_nil HBk.out c16).mono ?_
  rintro e _ ⟨rfl, rfl⟩
  go_wp2_with fail
  refine (stillEvents_nil HBk.out c18).mono ?_
  rintro e _ ⟨rfl, rfl⟩
  go_wp2_with fail
  refine (stillSteps_nil HBk.out c20).mono ?_
  rintro e _ ⟨rfl, rfl⟩
  go_wp2_with fail
  refine (putMsgs_nil HBk.out c12).mono ?_
  rintro e _ ⟨rfl, rfl⟩
  go_wp2_with fail
  refine (putSteps_nil HBk.out c20).mono ?_
  rintro e _ ⟨rfl, rfl⟩
  go_wp2_with fail
  refine (putTexts_nil HBk.out c0).mono ?_
  rintro e _ ⟨rfl, rfl⟩
  go_wp2_with fail
  refine (putInts_nil HBk.out c2).mono ?_
  rintro e _ ⟨rfl, rfl⟩
  go_wp2_with fail
  refine (putItems_nil HBk.out c4).mono ?_
  rintro e _ ⟨rfl, rfl⟩
  go_wp2_with fail
  refine (bputC_any HBk.out c6 HKC.out).mono ?_
  rintro e w2 ⟨rfl, hT, hM⟩
  have HT := Lib.hid (HT.out.trans (hT.wide (fun t ht => by obtain ⟨h1, h2⟩ := ht; omega)) HA.out)
  have HBk := Lib.hid (HBk.out.turn hT (by simp) (Agree.refl _ _))
  have HS := Lib.hid (Nat.le_trans HS.out hT.size)
  have HZ := Lib.hid (Nat.le_trans HZ.out hT.size)
  have HKC := Lib.hid hM
  clear hT hM
  go_wp2_with fail
  refine (putPairs_nil HBk.out c8).mono ?_
  rintro e _ ⟨rfl, rfl⟩
  go_wp2_with fail
  refine (putEntries_nil HBk.out c10).mono ?_
  rintro e _ ⟨rfl, rfl⟩
  go_wp2_with fail
  refine (putDues_nil HBk.out c14).mono ?_
  rintro e _ ⟨rfl, rfl⟩
  go_wp2_with fail
  refine (putPackets_nil HBk.out c16).mono ?_
  rintro e _ ⟨rfl, rfl⟩
  go_wp2_with fail
  refine (putEvents_nil HBk.out c18).mono ?_
  rintro e _ ⟨rfl, rfl⟩
  go_wp2_with fail
  refine (growTexts_nil HBk.out c0).mono ?_
  rintro e _ ⟨rfl, rfl⟩
  go_wp2_with fail
  refine (growInts_nil HBk.out c2).mono ?_
  rintro e _ ⟨rfl, rfl⟩
  go_wp2_with fail
  refine (growItems_nil HBk.out c4).mono ?_
  rintro e _ ⟨rfl, rfl⟩
  go_wp2_with fail
  refine (growC_any HBk.out HS.out c6 HKC.out).mono ?_
  rintro e w3 ⟨gvC, oC, grC, rfl, hA, hT, hM⟩
  obtain ⟨gaC, gcC, hgv, _⟩ := own_shape hM.outg
  subst hgv
  have HT := Lib.hid (HT.out.trans (hT.wide (fun t ht => by obtain ⟨h1, h2⟩ := ht; omega)) HA.out)
  have HBk := Lib.hid (HBk.out.turn hT (by simp) hA)
  have HS := Lib.hid (Nat.le_trans HS.out hT.size)
  have HA := Lib.hid (HA.out.trans hA HZ.out)
  have HZ := Lib.hid (Nat.le_trans HZ.out hT.size)
  have HKC := Lib.hid hM
  clear hT hM hA
  go_wp2_with fail
  refine (growPairs_nil HBk.out c8).mono ?_
  rintro e _ ⟨rfl, rfl⟩
  go_wp2_with fail
  refine (growEntries_nil HBk.out c10).mono ?_
  rintro e _ ⟨rfl, rfl⟩
  go_wp2_with fail
  refine (growMsgs_nil HBk.out c12).mono ?_
  rintro e _ ⟨rfl, rfl⟩
  go_wp2_with fail
  refine (growDues_nil HBk.out c14).mono ?_
  rintro e _ ⟨rfl, rfl⟩
  go_wp2_with fail
  refine (growPackets_nil HBk.out c16).mono ?_
  rintro e _ ⟨rfl, rfl⟩
  go_wp2_with fail
  refine (growEvents_nil HBk.out c18).mono ?_
  rintro e _ ⟨rfl, rfl⟩
  go_wp2_with fail
  refine (growSteps_nil HBk.out c20).mono ?_
  rintro e _ ⟨rfl, rfl⟩
  obtain ⟨oaC, ocC, hovC, _⟩ := own_shape HKC.out.out
  obtain ⟨noC, hnoC⟩ : ∃ n, (rowsC.map (fun r => (r.v, r.l.length))).length = n := ⟨_, rfl⟩
  obtain ⟨ngC, hngC⟩ : ∃ n, grC.length = n := ⟨_, rfl⟩
  rw [hnoC] at hovC
  rw [hngC]
  have HOC : Hid (∀ W, Below w3.heap.size w3 W → Calls Tryz.prog 168 #[.slice oaC noC ocC] W fun e w' => e = .returned (.bool true) ∧ Below W.heap.size W w') := Lib.hid (fun W hb => markedC_any (rows := rowsC.map (fun r => (r.v, r.l.length))) (Nat.le_trans HS.out hb.size) (by have := own_below HKC.out.out hb; rw [hovC, hnoC] at this; exact this) (by have := HKC.out.few; omega) hnoC (fun r hr => by have := HKC.out.short r hr; omega) (fun i r hr => (HKC.out.row i r hr).1.below hb))
  have HGC : Hid (∀ W, Below w3.heap.size w3 W → Calls Tryz.prog 168 #[.slice gaC ngC gcC] W fun e w' => e = .returned (.bool true) ∧ Below W.heap.size W w') := Lib.hid (fun W hb => markedC_any (rows := grC) (Nat.le_trans HS.out hb.size) (by have := own_below HKC.out.outg hb; rw [hngC] at this; exact this) (by have := HKC.out.fewg; omega) hngC HKC.out.shortg (fun i r hr => (HKC.out.rowg i r hr).1.below hb))
  have HB : Hid (Below w3.heap.size w3 w3) := Lib.hid (Below.refl _ _)
  go_wp2_with fail
  refine (markedTexts_nil _).mono ?_
  rintro e _ ⟨rfl, rfl⟩
  have cb : w3.cell? ⟨bn, 0, none⟩ = some (.slice none 0 0) := by rw [blk_cell (HBk.out.below HB.out).1, c0]
  go_wp2_with fail
  refine (markedTexts_nil _).mono ?_
  rintro e _ ⟨rfl, rfl⟩
  clear cb
  go_wp2_with fail
  refine (markedInts_nil _).mono ?_
  rintro e _ ⟨rfl, rfl⟩
  have cb : w3.cell? ⟨bn, 2, none⟩ = some (.slice none 0 0) := by rw [blk_cell (HBk.out.below HB.out).1, c2]
  go_wp2_with fail
  refine (markedInts_nil _).mono ?_
  rintro e _ ⟨rfl, rfl⟩
  clear cb
  go_wp2_with fail
  refine (markedItems_nil _).mono ?_
  rintro e _ ⟨rfl, rfl⟩
  have cb : w3.cell? ⟨bn, 4, none⟩ = some (.slice none 0 0) := by rw [blk_cell (HBk.out.below HB.out).1, c4]
  go_wp2_with fail
  refine (markedItems_nil _).mono ?_
  rintro e _ ⟨rfl, rfl⟩
  clear cb
  go_wp2_with fail
  refine (HGC.out _ HB.out).mono ?_
  rintro e w4 ⟨rfl, hb⟩
  have HB := Lib.hid (HB.out.trans (hb.mono HB.out.size))
  clear hb
  have cb : w4.cell? ⟨bn, 6, none⟩ = some (.slice oaC noC ocC) := by rw [blk_cell (HBk.out.below HB.out).1, c6, hovC]
  go_wp2_with fail
  refine (HOC.out _ HB.out).mono ?_
  rintro e w5 ⟨rfl, hb⟩
  have HB := Lib.hid (HB.out.trans (hb.mono HB.out.size))
  clear hb
  clear cb
  go_wp2_with fail
  refine (markedPairs_nil _).mono ?_
  rintro e _ ⟨rfl, rfl⟩
  have cb : w5.cell? ⟨bn, 8, none⟩ = some (.slice none 0 0) := by rw [blk_cell (HBk.out.below HB.out).1, c8]
  go_wp2_with fail
  refine (markedPairs_nil _).mono ?_
  rintro e _ ⟨rfl, rfl⟩
  clear cb
  go_wp2_with fail
  refine (markedEntries_nil _).mono ?_
  rintro e _ ⟨rfl, rfl⟩
  have cb : w5.cell? ⟨bn, 10, none⟩ = some (.slice none 0 0) := by rw [blk_cell (HBk.out.below HB.out).1, c10]
  go_wp2_with fail
  refine (markedEntries_nil _).mono ?_
  rintro e _ ⟨rfl, rfl⟩
  clear cb
  go_wp2_with fail
  refine (markedMsgs_nil _).mono ?_
  rintro e _ ⟨rfl, rfl⟩
  have cb : w5.cell? ⟨bn, 12, none⟩ = some (.slice none 0 0) := by rw [blk_cell (HBk.out.below HB.out).1, c12]
  go_wp2_with fail
  refine (markedMsgs_nil _).mono ?_
  rintro e _ ⟨rfl, rfl⟩
  clear cb
  go_wp2_with fail
  refine (markedDues_nil _).mono ?_
  rintro e _ ⟨rfl, rfl⟩
  have cb : w5.cell? ⟨bn, 14, none⟩ = some (.slice none 0 0) := by rw [blk_cell (HBk.out.below HB.out).1, c14]
  go_wp2_with fail
  refine (markedDues_nil _).mono ?_
  rintro e _ ⟨rfl, rfl⟩
  clear cb
  go_wp2_with fail
  refine (markedPackets_nil _).mono ?_
  rintro e _ ⟨rfl, rfl⟩
  have cb : w5.cell? ⟨bn, 16, none⟩ = some (.slice none 0 0) := by rw [blk_cell (HBk.out.below HB.out).1, c16]
  go_wp2_with fail
  refine (markedPackets_nil _).mono ?_
  rintro e _ ⟨rfl, rfl⟩
  clear cb
  go_wp2_with fail
  refine (markedEvents_nil _).mono ?_
  rintro e _ ⟨rfl, rfl⟩
  have cb : w5.cell? ⟨bn, 18, none⟩ = some (.slice none 0 0) := by rw [blk_cell (HBk.out.below HB.out).1, c18]
  go_wp2_with fail
  refine (markedEvents_nil _).mono ?_
  rintro e _ ⟨rfl, rfl⟩
  clear cb
  go_wp2_with fail
  refine (markedSteps_nil _).mono ?_
  rintro e _ ⟨rfl, rfl⟩
  have cb : w5.cell? ⟨bn, 20, none⟩ = some (.slice none 0 0) := by rw [blk_cell (HBk.out.below HB.out).1, c20]
  go_wp2_with fail
  refine (markedSteps_nil _).mono ?_
  rintro e _ ⟨rfl, rfl⟩
  clear cb
  go_wp2_with fail
  go_ret
  exact ⟨rfl, HT.out.below HB.out⟩
end Go.Proofs.YtmdidmllaldbaaaGreat
