/- The walk of arboretumlaw9.alive. -/
import Derived.Test.YtmdidmllaldbaaaGreatRiseC
import Derived.Test.YtmdidmllaldbaaaGreatGetC
import Derived.Test.YtmdidmllaldbaaaGreatReplC
import Derived.Laws.StructEq
namespace Go.Proofs.YtmdidmllaldbaaaGreat
open Go.RowKit
set_option linter.unusedVariables false
/-- A block of children. -/
theorem chds_blk {w : World} {g : Nat} {cs : Array Value} {T : TypeId} {l : List Chd} (hk : w.heap[g]? = some (.cells cs T (0, 0))) (hcs : cs = (chdCells l).toArray) : Chds w w.heap.size (some ⟨g, 0, none⟩) l.length l := by
  refine ⟨rfl, fun _ => ⟨g, 0, rfl, blk_lt hk, fun k e he => ?_⟩⟩
  subst hcs
  have c : ∀ r, r < 2 → w.cell? ⟨g, k * 2 + r, none⟩ = e.cells[r]? := fun r hr => by
    rw [blk_cell hk]
    have := chdCells_get l k r hr
    rw [he] at this
    simpa using this
  rw [Nat.zero_add]
  exact ⟨c 0 (by omega), c 1 (by omega)⟩
def aL : List Chd := [⟨⟨#[]⟩, 2⟩, ⟨⟨#[109]⟩, 3⟩]
def aX : List Chd := [⟨⟨#[120]⟩, 7⟩, ⟨⟨#[99]⟩, 8⟩]
def aBlk : Obj := .cells #[.string ⟨#[]⟩, .int .i64 2, .string ⟨#[109]⟩, .int .i64 3] 192
theorem aL_ok : ∀ e ∈ aL, ChdOk e := by
  intro e he
  simp only [aL, List.mem_cons, List.not_mem_nil, or_false] at he
  rcases he with rfl | rfl
  · exact ⟨⟨by decide, by decide⟩, by decide⟩
  · exact ⟨⟨by decide, by decide⟩, by decide⟩
/-- The list that alive holds stands at block g. -/
def AL (w : World) (g : Nat) : Prop := w.heap[g]? = some aBlk
theorem AL.chds {w : World} {g : Nat} (h : AL w g) : ChdsOk w (some ⟨g, 0, none⟩) 2 aL := ⟨chds_blk (l := aL) h rfl, aL_ok, by omega, by decide⟩
theorem AL.below {w w' : World} {g : Nat} (h : AL w g) (hb : Below w.heap.size w w') : AL w' g := (hb.block g (blk_lt h)).trans h
theorem findOk_m {k : Nat} (h : FindOk aL ⟨#[109]⟩ k) : k = 1 := by
  obtain ⟨_, h1, h2, h3⟩ := h
  have := h1 (by decide)
  have hk : k = 0 ∨ k = 1 := by simp [aL] at this; omega
  rcases hk with rfl | rfl
  · exact absurd (h3 ⟨⟨#[109]⟩, 3⟩ rfl) (by decide +kernel)
  · rfl
theorem findOk_a {k : Nat} (h : FindOk aL ⟨#[97]⟩ k) : k = 0 := by
  obtain ⟨_, h1, h2, h3⟩ := h
  have := h1 (by decide)
  have hk : k = 0 ∨ k = 1 := by simp [aL] at this; omega
  rcases hk with rfl | rfl
  · rfl
  · exact absurd (h2 ⟨⟨#[109]⟩, 3⟩ (by omega) rfl) (by decide +kernel)
theorem al9_put {W : World} {g : Nat} (h : AL W g) : Calls Tryz.prog 36 #[.slice (some ⟨g, 0, none⟩) 2 2] W fun e w' => e = .returned (.tuple #[.string ⟨(layB aL).toArray⟩, .int .i64 0]) ∧ Below W.heap.size W w' := by
  have := putC_any (c := 2) h.chds
  rw [show putC aL = (layB aL, 0) from by decide +kernel] at this
  exact this
theorem al9_get (W : World) : Calls Tryz.prog 38 #[.string ⟨(layB aL).toArray⟩] W fun e w' => ∃ g c, e = .returned (.tuple #[.slice (some ⟨g, 0, none⟩) 2 c, .int .i64 0]) ∧ w'.cell? ⟨g, 2, none⟩ = some (.string ⟨#[109]⟩) ∧ w'.cell? ⟨g, 3, none⟩ = some (.int .i64 3) ∧ g < w'.heap.size ∧ Below W.heap.size W w' := by
  refine (getC_any ⟨(layB aL).toArray⟩ W (by decide +kernel)).mono ?_
  unfold GetResC
  rw [show getC (ByteArray.mk (layB aL).toArray).data.toList = (aL, 0) from by kernel_rfl]
  rintro e w' ⟨ao, N, c, he, ho, hl, hb⟩
  have hN : N = 2 := by rw [← hl]; rfl
  subst hN
  obtain ⟨g, cap, hv, hgb, hglt⟩ := ho.form (by omega)
  injection hv with h1 _ h2
  subst h1
  exact ⟨g, c, he, by rw [ho.cellAt 2 (by omega)]; rfl, by rw [ho.cellAt 3 (by omega)]; rfl, hglt, hb⟩
theorem al9_repl {W : World} {g x : Nat} (h : AL W g) (hx : W.heap[x]? = some (.cells #[.string ⟨#[120]⟩, .int .i64 7, .string ⟨#[99]⟩, .int .i64 8] 192 (0, 0))) :
    Calls Tryz.prog 40 #[.slice (some ⟨g, 0, none⟩) 2 2, .int .i64 0, .slice (some ⟨x, 0, none⟩) 2 2] W fun e w' => ∃ g c, e = .returned (.slice (some ⟨g, 0, none⟩) 3 c) ∧ w'.cell? ⟨g, 0, none⟩ = some (.string ⟨#[]⟩) ∧ w'.cell? ⟨g, 1, none⟩ = some (.int .i64 7) ∧ g < w'.heap.size ∧ Below W.heap.size W w' := by
  refine (replace_any h.chds.chds (Nat.le_refl _) (by omega) 0 (by omega) ⟨chds_blk (l := aX) hx rfl, fun h => by cases h⟩ (by decide)).mono ?_
  rintro e w' ⟨ao, c, he, ho, hb⟩
  obtain ⟨g', cap, hv, hgb, hglt⟩ := ho.form (by omega)
  injection hv with h1 _ h2
  subst h1
  exact ⟨g', c, he, by rw [ho.cellAt 0 (by omega)]; rfl, by rw [ho.cellAt 1 (by omega)]; rfl, hglt, hb⟩
theorem al9_size {W : World} {g : Nat} (h : AL W g) : Calls Tryz.prog 45 #[.slice (some ⟨g, 0, none⟩) 2 2] W fun e w' => e = .returned (.int .i64 5) ∧ Below W.heap.size W w' := by
  have := sizeC_any (c := 2) h.chds
  rw [show ((layB aL).length : Int) = 5 from by decide +kernel] at this
  exact this
theorem al9_find {W : World} {g : Nat} (h : AL W g) (key : ByteArray) (r : Nat) (hr : ∀ k, FindOk aL key k → k = r) : Calls Tryz.prog 50 #[.slice (some ⟨g, 0, none⟩) 2 2, .string key] W fun e w' => e = .returned (.int .i64 r) ∧ W = w' := by
  refine (find_any h.chds.chds (by omega) key).mono ?_
  rintro e w' ⟨k, he, hk, hw⟩
  rw [hr k hk] at he
  exact ⟨he, hw⟩
set_option maxRecDepth 20000 in
set_option maxHeartbeats 8000000 in
theorem aliveC9_any (w : World) :
    Calls Tryz.prog 34 #[] w fun e w' => e = .returned (.bool true) ∧ Below w.heap.size w w' := by
  have hA0 : AL (w.alloc aBlk) w.heap.size := heap_alloc_new w _
  have HA0 := Lib.hid hA0
  have HB0 : Hid (Below w.heap.size w (w.alloc aBlk)) := Lib.hid ((Below.refl _ _).alloc (Nat.le_refl _) _)
  have HS : Hid ((ByteArray.mk (layB aL).toArray).size = 5) := Lib.hid (by decide +kernel)
  have HGt := Lib.hid (fun W => al9_get W)
  have HPt := Lib.hid (al9_put hA0)
  obtain ⟨S, hS⟩ : ∃ S, S = ByteArray.mk (layB aL).toArray := ⟨_, rfl⟩
  rw [← hS] at HPt HGt HS
  unfold aBlk at *
  clear hS hA0
  go_enter Tryz.func34, Tryz.ntmps34
  go_wp2_with fail
  refine HPt.out.mono ?_
  rintro e w1 ⟨rfl, hb1⟩
  have HA1 := Lib.hid (HA0.out.below hb1)
  have HB1 := Lib.hid (HB0.out.trans (hb1.mono HB0.out.size))
  clear hb1 HA0 HB0 HPt
  go_wp2_with fail
  refine (HGt.out _).mono ?_
  rintro e w2 ⟨gm, cm, rfl, hm2, hm3, hgm, hb2⟩
  have HA2 := Lib.hid (HA1.out.below hb2)
  have HB2 := Lib.hid (HB1.out.trans (hb2.mono HB1.out.size))
  have HM2 := Lib.hid (And.intro hm2 (And.intro hm3 hgm))
  clear hb2 HA1 HB1 hm2 hm3 hgm HGt
  go_wp2_with fail
  refine (al9_repl (HA2.out.below ((Below.refl _ _).alloc (Nat.le_refl _) _)) (heap_alloc_new w2 _)).mono ?_
  rintro e w3 ⟨gr, cr, rfl, hr0, hr1, hgr, hb3⟩
  have hb3' := ((Below.refl w2.heap.size w2).alloc (Nat.le_refl _) (.cells #[.string ⟨#[120]⟩, .int .i64 7, .string ⟨#[99]⟩, .int .i64 8] 192)).trans (hb3.mono (by simp))
  have HA3 := Lib.hid (HA2.out.below hb3')
  have HB3 := Lib.hid (HB2.out.trans (hb3'.mono HB2.out.size))
  obtain ⟨m2, m3, gm2⟩ := HM2.out
  have hc3 : ∀ W, Below w3.heap.size w3 W → W.cell? ⟨gm, 2, none⟩ = some (.string ⟨#[109]⟩) ∧ W.cell? ⟨gm, 3, none⟩ = some (.int .i64 3) ∧ W.cell? ⟨w.heap.size, 2, none⟩ = some (.string ⟨#[109]⟩) ∧ W.cell? ⟨w.heap.size, 3, none⟩ = some (.int .i64 3) ∧ W.cell? ⟨gr, 0, none⟩ = some (.string ⟨#[]⟩) ∧ W.cell? ⟨gr, 1, none⟩ = some (.int .i64 7) := by
    intro W hb
    have hgm3 : gm < w3.heap.size := Nat.lt_of_lt_of_le gm2 hb3'.size
    have hk : W.heap[w.heap.size]? = some aBlk := (HA3.out.below hb)
    refine ⟨(hb.cell (p := ⟨gm, 2, none⟩) hgm3).trans ((hb3'.cell (p := ⟨gm, 2, none⟩) gm2).trans m2), (hb.cell (p := ⟨gm, 3, none⟩) hgm3).trans ((hb3'.cell (p := ⟨gm, 3, none⟩) gm2).trans m3), ?_, ?_, (hb.cell (p := ⟨gr, 0, none⟩) hgr).trans hr0, (hb.cell (p := ⟨gr, 1, none⟩) hgr).trans hr1⟩ <;> rw [blk_cell hk] <;> rfl
  have HC := Lib.hid hc3
  have HF1 : Hid (∀ W, Below w3.heap.size w3 W → Calls Tryz.prog 50 #[.slice (some ⟨w.heap.size, 0, none⟩) 2 2, .string ⟨#[109]⟩] W fun e w' => e = .returned (.int .i64 1) ∧ W = w') := Lib.hid (fun W hb => al9_find (HA3.out.below hb) _ 1 (fun k => findOk_m))
  have HF2 : Hid (∀ W, Below w3.heap.size w3 W → Calls Tryz.prog 50 #[.slice (some ⟨w.heap.size, 0, none⟩) 2 2, .string ⟨#[97]⟩] W fun e w' => e = .returned (.int .i64 0) ∧ W = w') := Lib.hid (fun W hb => al9_find (HA3.out.below hb) _ 0 (fun k => findOk_a))
  have HSz : Hid (∀ W, Below w3.heap.size w3 W → Calls Tryz.prog 45 #[.slice (some ⟨w.heap.size, 0, none⟩) 2 2] W fun e w' => e = .returned (.int .i64 5) ∧ Below W.heap.size W w') := Lib.hid (fun W hb => al9_size (HA3.out.below hb))
  have hS6 : (S.size : Int) = 5 := by rw [HS.out]; rfl
  clear hb3 hb3' HA2 HB2 HA3 HM2 hr0 hr1 hgr m2 m3 gm2 hc3 HS
  go_wp2_with fail
  go_region_held3 (fun W => W.cell? ⟨gm, 2, none⟩ = some (.string ⟨#[109]⟩) ∧ W.cell? ⟨gm, 3, none⟩ = some (.int .i64 3) ∧ W.cell? ⟨w.heap.size, 2, none⟩ = some (.string ⟨#[109]⟩) ∧ W.cell? ⟨w.heap.size, 3, none⟩ = some (.int .i64 3) ∧ W.cell? ⟨gr, 0, none⟩ = some (.string ⟨#[]⟩) ∧ W.cell? ⟨gr, 1, none⟩ = some (.int .i64 7))
    ((refine HC.out _ ?_; (repeat (with_reducible (first | assumption | exact Below.refl _ _ | refine Below.drew ?_ | refine Below.alloc ?_ ?_ _))); all_goals (simp <;> omega)))
    (first
      | (go_at_call 50; ((with_reducible refine (HF1.out _ (by (repeat (with_reducible (first | assumption | exact Below.refl _ _ | refine Below.drew ?_ | refine Below.alloc ?_ ?_ _))); all_goals (simp <;> omega))).mono ?_); rintro e5 w5 ⟨rfl, rfl⟩))
      | (go_at_call 50; ((with_reducible refine (HF2.out _ (by (repeat (with_reducible (first | assumption | exact Below.refl _ _ | refine Below.drew ?_ | refine Below.alloc ?_ ?_ _))); all_goals (simp <;> omega))).mono ?_); rintro e6 w6 ⟨rfl, rfl⟩))
      | (go_at_call 45; ((refine (HSz.out _ (by (repeat (with_reducible (first | assumption | exact Below.refl _ _ | refine Below.drew ?_ | refine Below.alloc ?_ ?_ _))); all_goals (simp <;> omega))).mono ?_); rintro e7 w7 ⟨rfl, hb7⟩; have hv7 : Below w3.heap.size w3 w7 := (by (refine Below.trans ?_ (hb7.mono ?_)); (repeat (with_reducible (first | assumption | exact Below.refl _ _ | refine Below.drew ?_ | refine Below.alloc ?_ ?_ _))); all_goals (simp <;> omega)))))
  all_goals (
    go_wp2_with fail
    go_ret
    exact ⟨rfl, HB3.out.trans (hv7.mono HB3.out.size)⟩)
end Go.Proofs.YtmdidmllaldbaaaGreat
