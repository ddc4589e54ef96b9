/- The walk of a Book's Apart, of lists of the kinds Items (printed by wip/gen_apart.py). -/
import Derived.Test.YtmdidmllaldbaaaGreatBkNil
import Derived.Test.YtmdidmllaldbaaaGreatSince
import Derived.Test.YtmdidmllaldbaaaGreatBkT
namespace Go.Proofs.YtmdidmllaldbaaaGreat
open Go.RowKit
set_option linter.unusedVariables false
set_option linter.unusedSimpArgs false
set_option maxRecDepth 20000 in
set_option maxHeartbeats 8000000 in
theorem apartT_any {w : World} {B bn : Nat} {o : Nat → Tag} {cs : Array Value} {ovT wvT : Value} {rowsT : List (KRow Itm)} (hB : BookAt w B 39 o bn cs) (hBw : B ≤ w.heap.size) (c0 : cs[0]? = some (.slice none 0 0)) (c2 : cs[2]? = some (.slice none 0 0)) (c4 : cs[4]? = some ovT) (c5 : cs[5]? = some wvT) (hKT : Kept w B o 2 131 133 4 itmCells ovT wvT rowsT) (c6 : cs[6]? = some (.slice none 0 0)) (c8 : cs[8]? = some (.slice none 0 0)) (c10 : cs[10]? = some (.slice none 0 0)) (c12 : cs[12]? = some (.slice none 0 0)) (c14 : cs[14]? = some (.slice none 0 0)) (c16 : cs[16]? = some (.slice none 0 0)) (c18 : cs[18]? = some (.slice none 0 0)) (c20 : cs[20]? = some (.slice none 0 0)) :
    Calls Tryz.prog 32 #[.pointer (some ⟨bn, 0, none⟩)] w fun e w' => e = .returned (.bool true) ∧ Turn o (fun t => t.1 < 50) w w' := by
  have HBk := Lib.hid hB
  have HKT := Lib.hid hKT
  have HT : Hid (Turn o (fun t => t.1 < 50) w w) := Lib.hid (Turn.refl _ _ _)
  have HA : Hid (Agree o o w.heap.size) := Lib.hid (Agree.refl _ _)
  have HS : Hid (B ≤ w.heap.size) := Lib.hid hBw
  have HZ : Hid (w.heap.size ≤ w.heap.size) := Lib.hid (Nat.le_refl _)
  clear hB hBw hKT
  go_enter Tryz.func32, Tryz.ntmps32
  go_wp2_with fail
  refine (stillTexts_nil HBk.out c0).mono ?_
  rintro e _ ⟨rfl, rfl⟩
  go_wp2_with fail
  refine (stillInts_nil HBk.out c2).mono ?_
  rintro e _ ⟨rfl, rfl⟩
  go_wp2_with fail
  refine (stillT_any HBk.out c4 c5 HKT.out).mono ?_
  rintro e w1 ⟨rfl, hb⟩
  have HT := Lib.hid (HT.out.below hb)
  have HBk := Lib.hid (HBk.out.below hb)
  have HS := Lib.hid (Nat.le_trans HS.out hb.size)
  have HZ := Lib.hid (Nat.le_trans HZ.out hb.size)
  have HKT := Lib.hid (HKT.out.below hb)
  clear hb
  go_wp2_with fail
  refine (stillChildren_nil HBk.out c6).mono ?_
  rintro e _ ⟨rfl, rfl⟩
  go_wp2_with fail
  refine (stillPairs_nil HBk.out c8).mono ?_
  rintro e _ ⟨rfl, rfl⟩
  go_wp2_with fail
  refine (stillEntries_nil HBk.out c10).mono ?_
  rintro e _ ⟨rfl, rfl⟩
  go_wp2_with fail
  refine (stillMsgs_nil HBk.out c12).mono ?_
  rintro e _ ⟨rfl, rfl⟩
  go_wp2_with fail
  refine (stillDues_nil HBk.out c14).mono ?_
  rintro e _ ⟨rfl, rfl⟩
  go_wp2_with fail
  refine (stillPackets_nil HBk.out c16).mono ?_
  rintro e _ ⟨rfl, rfl⟩
  go_wp2_with fail
  refine (stillEvents_nil HBk.out c18).mono ?_
  rintro e _ ⟨rfl, rfl⟩
  go_wp2_with fail
  refine (stillSteps_nil HBk.out c20).mono ?_
  rintro e _ ⟨rfl, rfl⟩
  go_wp2_with fail
  refine (putMsgs_nil HBk.out c12).mono ?_
  rintro e _ ⟨rfl, rfl⟩
  go_wp2_with fail
  refine (putSteps_nil HBk.out c20).mono ?_
  rintro e _ ⟨rfl, rfl⟩
  go_wp2_with fail
  refine (putTexts_nil HBk.out c0).mono ?_
  rintro e _ ⟨rfl, rfl⟩
  go_wp2_with fail
  refine (putInts_nil HBk.out c2).mono ?_
  rintro e _ ⟨rfl, rfl⟩
  go_wp2_with fail
  refine (bputT_any HBk.out c4 HKT.out).mono ?_
  rintro e w2 ⟨rfl, hT, hM⟩
  have HT := Lib.hid (HT.out.trans (hT.wide (fun t ht => by obtain ⟨h1, h2⟩ := ht; omega)) HA.out)
  have HBk := Lib.hid (HBk.out.turn hT (by simp) (Agree.refl _ _))
  have HS := Lib.hid (Nat.le_trans HS.out hT.size)
  have HZ := Lib.hid (Nat.le_trans HZ.out hT.size)
  have HKT := Lib.hid hM
  clear hT hM
  go_wp2_with fail
  refine (putChildren_nil HBk.out c6).mono ?_
  rintro e _ ⟨rfl, rfl⟩
  go_wp2_with fail
  refine (putPairs_nil HBk.out c8).mono ?_
  rintro e _ ⟨rfl, rfl⟩
  go_wp2_with fail
  refine (putEntries_nil HBk.out c10).mono ?_
  rintro e _ ⟨rfl, rfl⟩
  go_wp2_with fail
  refine (putDues_nil HBk.out c14).mono ?_
  rintro e _ ⟨rfl, rfl⟩
  go_wp2_with fail
  refine (putPackets_nil HBk.out c16).mono ?_
  rintro e _ ⟨rfl, rfl⟩
  go_wp2_with fail
  refine (putEvents_nil HBk.out c18).mono ?_
  rintro e _ ⟨rfl, rfl⟩
  go_wp2_with fail
  refine (growTexts_nil HBk.out c0).mono ?_
  rintro e _ ⟨rfl, rfl⟩
  go_wp2_with fail
  refine (growInts_nil HBk.out c2).mono ?_
  rintro e _ ⟨rfl, rfl⟩
  go_wp2_with fail
  refine (growT_any HBk.out HS.out c4 HKT.out).mono ?_
  rintro e w3 ⟨gvT, oT, grT, rfl, hA, hT, hM⟩
  obtain ⟨gaT, gcT, hgv, _⟩ := own_shape hM.outg
  subst hgv
  have HT := Lib.hid (HT.out.trans (hT.wide (fun t ht => by obtain ⟨h1, h2⟩ := ht; omega)) HA.out)
  have HBk := Lib.hid (HBk.out.turn hT (by simp) hA)
  have HS := Lib.hid (Nat.le_trans HS.out hT.size)
  have HA := Lib.hid (HA.out.trans hA HZ.out)
  have HZ := Lib.hid (Nat.le_trans HZ.out hT.size)
  have HKT := Lib.hid hM
  clear hT hM hA
  go_wp2_with fail
  refine (growChildren_nil HBk.out c6).mono ?_
  rintro e _ ⟨rfl, rfl⟩
  go_wp2_with fail
  refine (growPairs_nil HBk.out c8).mono ?_
  rintro e _ ⟨rfl, rfl⟩
  go_wp2_with fail
  refine (growEntries_nil HBk.out c10).mono ?_
  rintro e _ ⟨rfl, rfl⟩
  go_wp2_with fail
  refine (growMsgs_nil HBk.out c12).mono ?_
  rintro e _ ⟨rfl, rfl⟩
  go_wp2_with fail
  refine (growDues_nil HBk.out c14).mono ?_
  rintro e _ ⟨rfl, rfl⟩
  go_wp2_with fail
  refine (growPackets_nil HBk.out c16).mono ?_
  rintro e _ ⟨rfl, rfl⟩
  go_wp2_with fail
  refine (growEvents_nil HBk.out c18).mono ?_
  rintro e _ ⟨rfl, rfl⟩
  go_wp2_with fail
  refine (growSteps_nil HBk.out c20).mono ?_
  rintro e _ ⟨rfl, rfl⟩
  obtain ⟨oaT, ocT, hovT, _⟩ := own_shape HKT.out.out
  obtain ⟨noT, hnoT⟩ : ∃ n, (rowsT.map (fun r => (r.v, r.l.length))).length = n := ⟨_, rfl⟩
  obtain ⟨ngT, hngT⟩ : ∃ n, grT.length = n := ⟨_, rfl⟩
  rw [hnoT] at hovT
  rw [hngT]
  have HOT : Hid (∀ W, Below w3.heap.size w3 W → Calls Tryz.prog 167 #[.slice oaT noT ocT] W fun e w' => e = .returned (.bool true) ∧ Below W.heap.size W w') := Lib.hid (fun W hb => markedT_any (rows := rowsT.map (fun r => (r.v, r.l.length))) (Nat.le_trans HS.out hb.size) (by have := own_below HKT.out.out hb; rw [hovT, hnoT] at this; exact this) (by have := HKT.out.few; omega) hnoT (fun r hr => by have := HKT.out.short r hr; omega) (fun i r hr => (HKT.out.row i r hr).1.below hb))
  have HGT : Hid (∀ W, Below w3.heap.size w3 W → Calls Tryz.prog 167 #[.slice gaT ngT gcT] W fun e w' => e = .returned (.bool true) ∧ Below W.heap.size W w') := Lib.hid (fun W hb => markedT_any (rows := grT) (Nat.le_trans HS.out hb.size) (by have := own_below HKT.out.outg hb; rw [hngT] at this; exact this) (by have := HKT.out.fewg; omega) hngT HKT.out.shortg (fun i r hr => (HKT.out.rowg i r hr).1.below hb))
  have HB : Hid (Below w3.heap.size w3 w3) := Lib.hid (Below.refl _ _)
  go_wp2_with fail
  refine (markedTexts_nil _).mono ?_
  rintro e _ ⟨rfl, rfl⟩
  have cb : w3.cell? ⟨bn, 0, none⟩ = some (.slice none 0 0) := by rw [blk_cell (HBk.out.below HB.out).1, c0]
  go_wp2_with fail
  refine (markedTexts_nil _).mono ?_
  rintro e _ ⟨rfl, rfl⟩
  clear cb
  go_wp2_with fail
  refine (markedInts_nil _).mono ?_
  rintro e _ ⟨rfl, rfl⟩
  have cb : w3.cell? ⟨bn, 2, none⟩ = some (.slice none 0 0) := by rw [blk_cell (HBk.out.below HB.out).1, c2]
  go_wp2_with fail
  refine (markedInts_nil _).mono ?_
  rintro e _ ⟨rfl, rfl⟩
  clear cb
  go_wp2_with fail
  refine (HGT.out _ HB.out).mono ?_
  rintro e w4 ⟨rfl, hb⟩
  have HB := Lib.hid (HB.out.trans (hb.mono HB.out.size))
  clear hb
  have cb : w4.cell? ⟨bn, 4, none⟩ = some (.slice oaT noT ocT) := by rw [blk_cell (HBk.out.below HB.out).1, c4, hovT]
  go_wp2_with fail
  refine (HOT.out _ HB.out).mono ?_
  rintro e w5 ⟨rfl, hb⟩
  have HB := Lib.hid (HB.out.trans (hb.mono HB.out.size))
  clear hb
  clear cb
  go_wp2_with fail
  refine (markedChildren_nil _).mono ?_
  rintro e _ ⟨rfl, rfl⟩
  have cb : w5.cell? ⟨bn, 6, none⟩ = some (.slice none 0 0) := by rw [blk_cell (HBk.out.below HB.out).1, c6]
  go_wp2_with fail
  refine (markedChildren_nil _).mono ?_
  rintro e _ ⟨rfl, rfl⟩
  clear cb
  go_wp2_with fail
  refine (markedPairs_nil _).mono ?_
  rintro e _ ⟨rfl, rfl⟩
  have cb : w5.cell? ⟨bn, 8, none⟩ = some (.slice none 0 0) := by rw [blk_cell (HBk.out.below HB.out).1, c8]
  go_wp2_with fail
  refine (markedPairs_nil _).mono ?_
  rintro e _ ⟨rfl, rfl⟩
  clear cb
  go_wp2_with fail
  refine (markedEntries_nil _).mono ?_
  rintro e _ ⟨rfl, rfl⟩
  have cb : w5.cell? ⟨bn, 10, none⟩ = some (.slice none 0 0) := by rw [blk_cell (HBk.out.below HB.out).1, c10]
  go_wp2_with fail
  refine (markedEntries_nil _).mono ?_
  rintro e _ ⟨rfl, rfl⟩
  clear cb
  go_wp2_with fail
  refine (markedMsgs_nil _).mono ?_
  rintro e _ ⟨rfl, rfl⟩
  have cb : w5.cell? ⟨bn, 12, none⟩ = some (.slice none 0 0) := by rw [blk_cell (HBk.out.below HB.out).1, c12]
  go_wp2_with fail
  refine (markedMsgs_nil _).mono ?_
  rintro e _ ⟨rfl, rfl⟩
  clear cb
  go_wp2_with fail
  refine (markedDues_nil _).mono ?_
  rintro e _ ⟨rfl, rfl⟩
  have cb : w5.cell? ⟨bn, 14, none⟩ = some (.slice none 0 0) := by rw [blk_cell (HBk.out.below HB.out).1, c14]
  go_wp2_with fail
  refine (markedDues_nil _).mono ?_
  rintro e _ ⟨rfl, rfl⟩
  clear cb
  go_wp2_with fail
  refine (markedPackets_nil _).mono ?_
  rintro e _ ⟨rfl, rfl⟩
  have cb : w5.cell? ⟨bn, 16, none⟩ = some (.slice none 0 0) := by rw [blk_cell (HBk.out.below HB.out).1, c16]
  go_wp2_with fail
  refine (markedPackets_nil _).mono ?_
  rintro e _ ⟨rfl, rfl⟩
  clear cb
  go_wp2_with fail
  refine (markedEvents_nil _).mono ?_
  rintro e _ ⟨rfl, rfl⟩
  have cb : w5.cell? ⟨bn, 18, none⟩ = some (.slice none 0 0) := by rw [blk_cell (HBk.out.below HB.out).1, c18]
  go_wp2_with fail
  refine (markedEvents_nil _).mono ?_
  rintro e _ ⟨rfl, rfl⟩
  clear cb
  go_wp2_with fail
  refine (markedSteps_nil _).mono ?_
  rintro e _ ⟨rfl, rfl⟩
  have cb : w5.cell? ⟨bn, 20, none⟩ = some (.slice none 0 0) := by rw [blk_cell (HBk.out.below HB.out).1, c20]
  go_wp2_with fail
  refine (markedSteps_nil _).mono ?_
  rintro e _ ⟨rfl, rfl⟩
  clear cb
  go_wp2_with fail
  go_ret
  exact ⟨rfl, HT.out.below HB.out⟩
end Go.Proofs.YtmdidmllaldbaaaGreat
