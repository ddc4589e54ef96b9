/- The walk of arboretumlaw8.alive. -/
import Derived.Test.YtmdidmllaldbaaaGreatSetI
import Derived.Test.YtmdidmllaldbaaaGreatGetI
import Derived.Test.YtmdidmllaldbaaaGreatSplitI
import Derived.Test.YtmdidmllaldbaaaGreatRiseI
import Derived.Deep.RegionHeld3
namespace Go.Proofs.YtmdidmllaldbaaaGreat
open Go.RowKit
set_option linter.unusedVariables false
/-- A block of items. -/
theorem itms_blk {w : World} {g : Nat} {cs : Array Value} {T : TypeId} {l : List Itm} (hk : w.heap[g]? = some (.cells cs T (0, 0))) (hcs : cs = (itmCells l).toArray) : Itms w w.heap.size (some ⟨g, 0, none⟩) l.length l := by
  refine ⟨rfl, fun _ => ⟨g, 0, rfl, blk_lt hk, fun k e he => ?_⟩⟩
  subst hcs
  have c : ∀ r, r < 4 → w.cell? ⟨g, k * 4 + r, none⟩ = e.cells[r]? := fun r hr => by
    rw [blk_cell hk]
    have := itmCells_get l k r hr
    rw [he] at this
    simpa using this
  rw [Nat.zero_add]
  exact ⟨c 0 (by omega), c 1 (by omega), c 2 (by omega), c 3 (by omega)⟩
/-- Where a key stands is one place. -/
theorem findOkI_one {l : List Itm} {key : ByteArray} {k k' : Nat} {is is' : Bool} (hr : RisingI l) (h : FindOkI l key k is) (h' : FindOkI l key k' is') : k = k' ∧ is = is' := by
  have hlt : ∀ (d p : Nat) (a b : Itm), l[p]? = some a → l[p + d + 1]? = some b → ltB a.key b.key = true := by
    intro d
    induction d with
    | zero => intro p a b ha hb; exact hr p a b ha hb
    | succ d ih =>
      intro p a b ha hb
      have hlt : p + d + 1 < l.length := by have := (List.getElem?_eq_some_iff.1 hb).1; omega
      have hm := ih p a l[p + d + 1] ha (List.getElem?_eq_getElem hlt)
      exact ltB_trans hm (hr (p + d + 1) _ b (List.getElem?_eq_getElem hlt) hb)
  have key2 : ∀ {k k' : Nat} {is is' : Bool}, FindOkI l key k is → FindOkI l key k' is' → ¬ k < k' := by
    intro k k' is is' h h' hl
    obtain ⟨a1, a2, a3, a4⟩ := h
    obtain ⟨b1, b2, b3, b4⟩ := h'
    have hk1 : k < l.length := by omega
    have hk2 : k' - 1 < l.length := by omega
    have e1 := b2 l[k' - 1] (by omega) (List.getElem?_eq_getElem hk2)
    have e2 := a3 l[k] (List.getElem?_eq_getElem hk1)
    by_cases hd : k = k' - 1
    · subst hd
      rw [e1] at e2
      cases e2
    · have e3 := hlt (k' - 1 - k - 1) k l[k] l[k' - 1] (List.getElem?_eq_getElem hk1) (by rw [show k + (k' - 1 - k - 1) + 1 = k' - 1 from by omega]; exact List.getElem?_eq_getElem hk2)
      rw [ltB_trans e3 e1] at e2
      cases e2
  have hkk : k = k' := by
    have h1 := key2 h h'
    have h2 := key2 h' h
    omega
  subst hkk
  refine ⟨rfl, ?_⟩
  have e := h.2.2.2.trans h'.2.2.2.symm
  cases is <;> cases is' <;> simp_all
/-- Of items that rise each is found at its place. -/
theorem findOkI_own {l : List Itm} {j k : Nat} {is : Bool} {e : Itm} (hr : RisingI l) (he : l[j]? = some e) (h : FindOkI l e.key k is) : k = j ∧ is = true := by
  have hj := (List.getElem?_eq_some_iff.1 he).1
  refine findOkI_one hr h ⟨by omega, fun a h0 ha => ?_, fun a ha => ?_, ⟨fun _ => ⟨e, he, rfl⟩, fun _ => rfl⟩⟩
  · exact hr (j - 1) a e ha (by rw [show j - 1 + 1 = j from by omega]; exact he)
  · rw [he] at ha
    injection ha with ha
    rw [← ha, ltB_irrefl]
def iL : List Itm := [⟨⟨#[97]⟩, ⟨#[49]⟩, 0, 0⟩, ⟨⟨#[99]⟩, ⟨#[49]⟩, 0, 0⟩]
def iX : Itm := ⟨⟨#[98]⟩, ⟨#[49]⟩, 0, 0⟩
def iM : List Itm := [⟨⟨#[97]⟩, ⟨#[49]⟩, 0, 0⟩, ⟨⟨#[98]⟩, ⟨#[49]⟩, 0, 0⟩, ⟨⟨#[99]⟩, ⟨#[49]⟩, 0, 0⟩]
def iBlk : Obj := .cells #[.string ⟨#[97]⟩, .string ⟨#[49]⟩, .int .i64 0, .int .i64 0, .string ⟨#[99]⟩, .string ⟨#[49]⟩, .int .i64 0, .int .i64 0] 133
theorem itm_ok_small (e : Itm) (h1 : e.ov = 0) (h2 : e.sz = 0) (h3 : e.key.size ≤ 10) (h4 : e.vl.size ≤ 10) : ItmOk e := ⟨⟨by omega, by omega⟩, ⟨by omega, by omega⟩, by omega, by omega⟩
theorem iL_ok : ∀ e ∈ iL, ItmOk e := by
  intro e he
  simp only [iL, List.mem_cons, List.not_mem_nil, or_false] at he
  rcases he with rfl | rfl <;> exact itm_ok_small _ rfl rfl (by decide) (by decide)
theorem iM_ok : ∀ e ∈ iM, ItmOk e := by
  intro e he
  simp only [iM, List.mem_cons, List.not_mem_nil, or_false] at he
  rcases he with rfl | rfl | rfl <;> exact itm_ok_small _ rfl rfl (by decide) (by decide)
theorem iL_find {k : Nat} {is : Bool} (h : FindOkI iL ⟨#[98]⟩ k is) : k = 1 ∧ is = false := by
  obtain ⟨h0, h1, h2, h3⟩ := h
  have hl : k = 0 ∨ k = 1 ∨ k = 2 := by simp [iL] at h0; omega
  rcases hl with rfl | rfl | rfl
  · exact absurd (h2 ⟨⟨#[97]⟩, ⟨#[49]⟩, 0, 0⟩ rfl) (by decide +kernel)
  · refine ⟨rfl, ?_⟩
    cases is with
    | false => rfl
    | true =>
      obtain ⟨e, he, hk⟩ := h3.1 rfl
      have : e = ⟨⟨#[99]⟩, ⟨#[49]⟩, 0, 0⟩ := by simpa [iL] using he.symm
      subst this
      exact absurd hk (by decide)
  · exact absurd (h1 ⟨⟨#[99]⟩, ⟨#[49]⟩, 0, 0⟩ (by omega) rfl) (by decide +kernel)
theorem iM_split {k : Nat} (h : SplitOkI iM k) : k = 1 := by
  obtain ⟨h1, h2, h3, h4⟩ := h
  have hl : k = 1 ∨ k = 2 := by simp [iM] at h2; omega
  rcases hl with rfl | rfl
  · rfl
  · exact absurd (h4 1 (by omega) (by omega)) (by decide +kernel)
/-- The list that alive holds stands at block g. -/
def IL (w : World) (g : Nat) : Prop := w.heap[g]? = some iBlk
theorem IL.itms {w : World} {g : Nat} (h : IL w g) : ItmsOk w (some ⟨g, 0, none⟩) 2 iL := ⟨itms_blk (l := iL) h rfl, iL_ok, by omega, by decide⟩
theorem IL.below {w w' : World} {g : Nat} (h : IL w g) (hb : Below w.heap.size w w') : IL w' g := (hb.block g (blk_lt h)).trans h
theorem al8_find {W : World} {g : Nat} (h : IL W g) : Calls Tryz.prog 105 #[.slice (some ⟨g, 0, none⟩) 2 2, .string ⟨#[98]⟩] W fun e w' => e = .returned (.tuple #[.int .i64 1, .bool false]) ∧ Below W.heap.size W w' := by
  refine (findI_any (c := 2) h.itms.itms (by omega) _).mono ?_
  rintro e w' ⟨k, is, he, hk, hb⟩
  obtain ⟨rfl, rfl⟩ := iL_find hk
  exact ⟨he, hb⟩
theorem al8_set {W : World} {g : Nat} (h : IL W g) : Calls Tryz.prog 107 #[.slice (some ⟨g, 0, none⟩) 2 2, .agg #[.string ⟨#[98]⟩, .string ⟨#[49]⟩, .int .i64 0, .int .i64 0]] W fun e w' => ∃ gm c, e = .returned (.slice (some ⟨gm, 0, none⟩) 3 c) ∧ 3 ≤ c ∧ c ≤ 9223372036854775807 ∧ gm < w'.heap.size ∧ Hid (Itms w' w'.heap.size (some ⟨gm, 0, none⟩) 3 iM) ∧ w'.cell? ⟨gm, 4, none⟩ = some (.string ⟨#[98]⟩) ∧ Below W.heap.size W w' := by
  refine (setI_any (c := 2) h.itms.itms (fun h => by cases h) (by omega) iX).mono ?_
  rintro e w' ⟨k, is, N, ao, cap, hk, hN, he, ho, hb⟩
  obtain ⟨rfl, rfl⟩ := iL_find hk
  have hm : setI iL 1 false iX = iM := rfl
  rw [hm] at hN ho
  have hN3 : N = 3 := hN
  subst hN3
  have hsh := own_shape ho
  obtain ⟨ao', cap', hv, hnc, _, _⟩ := hsh
  injection hv with e1 _ e2
  subst e1 e2
  have hcap : cap ≤ 9223372036854775807 := by
    rcases ho.2 with ⟨hs, _⟩ | ⟨g', c', cur, hs, _, _, _, hm, _⟩
    · injection hs; omega
    · injection hs with _ _ hc; unfold maxLen at hm; omega
  obtain ⟨gm, cap', hv, hgb, hgl⟩ := ho.form (by omega)
  injection hv with e1 _ _
  subst e1
  exact ⟨gm, cap, he, hnc, hcap, hgl, Lib.hid (itms_own ho), by rw [ho.cellAt 4 (by omega)]; rfl, hb⟩
theorem al8_split {W : World} {gm c : Nat} (h : Itms W W.heap.size (some ⟨gm, 0, none⟩) 3 iM) (h3 : 3 ≤ c) (hc : c ≤ 9223372036854775807) : Calls Tryz.prog 109 #[.slice (some ⟨gm, 0, none⟩) 3 c] W fun e w' => ∃ ao ca bo cb, e = .returned (.tuple #[.slice ao 1 ca, .slice bo 2 cb]) ∧ Below W.heap.size W w' := by
  refine (splitI_any (c := c) ⟨h, iM_ok, by omega, by decide⟩ h3 hc (by omega)).mono ?_
  rintro e w' ⟨k, ao, ca, bo, cb, he, hk, _, _, hb⟩
  obtain rfl := iM_split hk
  exact ⟨ao, ca, bo, cb, he, hb⟩
theorem al8_put {W : World} {g : Nat} (h : IL W g) : Calls Tryz.prog 94 #[.slice (some ⟨g, 0, none⟩) 2 2] W fun e w' => e = .returned (.tuple #[.string ⟨(layI iL).toArray⟩, .int .i64 0]) ∧ Below W.heap.size W w' := by
  have := putI_any (c := 2) h.itms
  rw [show putI iL = (layI iL, 0) from by decide +kernel] at this
  exact this
theorem al8_get (W : World) : Calls Tryz.prog 96 #[.string ⟨(layI iL).toArray⟩] W fun e w' => ∃ ao c, e = .returned (.tuple #[.slice ao 2 c, .int .i64 0]) ∧ Below W.heap.size W w' := by
  refine (getI_any ⟨(layI iL).toArray⟩ W (by decide +kernel)).mono ?_
  unfold GetResI
  rw [show getI (ByteArray.mk (layI iL).toArray).data.toList = (iL, 0) from by kernel_rfl]
  rintro e w' ⟨ao, N, c, he, ho, hl, hb⟩
  have hN : N = 2 := by rw [← hl]; rfl
  subst hN
  exact ⟨ao, c, he, hb⟩
theorem al8_size {W : World} {g : Nat} (h : IL W g) : Calls Tryz.prog 99 #[.slice (some ⟨g, 0, none⟩) 2 2] W fun e w' => e = .returned (.int .i64 10) ∧ Below W.heap.size W w' := by
  have := sizeI_any (c := 2) h.itms
  rw [show (layI iL).length = 10 from by decide +kernel] at this
  exact this
set_option maxRecDepth 20000 in
set_option maxHeartbeats 8000000 in
theorem aliveI_any (w : World) :
    Calls Tryz.prog 92 #[] w fun e w' => e = .returned (.bool true) ∧ Below w.heap.size w w' := by
  have hA0 : IL (w.alloc iBlk) w.heap.size := heap_alloc_new w _
  have HA0 := Lib.hid hA0
  have HB0 : Hid (Below w.heap.size w (w.alloc iBlk)) := Lib.hid ((Below.refl _ _).alloc (Nat.le_refl _) _)
  have HS : Hid ((ByteArray.mk (layI iL).toArray).size = 10) := Lib.hid (by decide +kernel)
  have HGt := Lib.hid (fun W => al8_get W)
  have HFd := Lib.hid (al8_find hA0)
  have HPt : Hid (∀ W, IL W w.heap.size → _) := Lib.hid (fun W (h : IL W w.heap.size) => al8_put h)
  obtain ⟨S, hS⟩ : ∃ S, S = ByteArray.mk (layI iL).toArray := ⟨_, rfl⟩
  rw [← hS] at HPt HGt HS
  unfold iBlk at *
  clear hS hA0
  go_enter Tryz.func92, Tryz.ntmps92
  go_wp2_with fail
  refine HFd.out.mono ?_
  rintro e w1 ⟨rfl, hb1⟩
  have HA1 := Lib.hid (HA0.out.below hb1)
  have HB1 := Lib.hid (HB0.out.trans (hb1.mono HB0.out.size))
  clear hb1 HA0 HB0 HFd
  go_wp2_with fail
  refine (al8_set HA1.out).mono ?_
  rintro e w2 ⟨gm, cm, rfl, h3c, hcc, hgm, HM, hcell, hb2⟩
  have HA2 := Lib.hid (HA1.out.below hb2)
  have HB2 := Lib.hid (HB1.out.trans (hb2.mono HB1.out.size))
  have HCell := Lib.hid hcell
  clear hb2 HA1 HB1 hcell
  go_wp2_with fail
  refine (al8_split HM.out h3c hcc).mono ?_
  rintro e w3 ⟨xa, xc, ya, yc, rfl, hb3⟩
  have HA3 := Lib.hid (HA2.out.below hb3)
  have HB3 := Lib.hid (HB2.out.trans (hb3.mono HB2.out.size))
  have HCell3 : Hid (w3.cell? ⟨gm, 4, none⟩ = some (.string ⟨#[98]⟩)) := Lib.hid ((hb3.cell (p := ⟨gm, 4, none⟩) hgm).trans HCell.out)
  have hgm3 := Nat.lt_of_lt_of_le hgm hb3.size
  clear hb3 HA2 HB2 HCell HM
  go_wp2_with fail
  refine (HPt.out w3 HA3.out).mono ?_
  rintro e w4 ⟨rfl, hb4⟩
  have HA4 := Lib.hid (HA3.out.below hb4)
  have HB4 := Lib.hid (HB3.out.trans (hb4.mono HB3.out.size))
  have HCell4 : Hid (w4.cell? ⟨gm, 4, none⟩ = some (.string ⟨#[98]⟩)) := Lib.hid ((hb4.cell (p := ⟨gm, 4, none⟩) hgm3).trans HCell3.out)
  have hgm4 := Nat.lt_of_lt_of_le hgm3 hb4.size
  clear hb4 HA3 HB3 HCell3 HPt
  go_wp2_with fail
  refine (HGt.out _).mono ?_
  rintro e w5 ⟨na, nc, rfl, hb5⟩
  have HA5 := Lib.hid (HA4.out.below hb5)
  have HB5 := Lib.hid (HB4.out.trans (hb5.mono HB4.out.size))
  have hcell5 : w5.cell? ⟨gm, 4, none⟩ = some (.string ⟨#[98]⟩) := (hb5.cell (p := ⟨gm, 4, none⟩) hgm4).trans HCell4.out
  have HSz := Lib.hid (al8_size HA5.out)
  have hS6 : (S.size : Int) = 10 := by rw [HS.out]; rfl
  clear hb5 HA4 HB4 HCell4 HGt HS
  go_wp2_with fail
  refine HSz.out.mono ?_
  rintro e w6 ⟨rfl, hb6⟩
  go_wp2_with fail
  go_ret
  exact ⟨rfl, HB5.out.trans (hb6.mono HB5.out.size)⟩
end Go.Proofs.YtmdidmllaldbaaaGreat
