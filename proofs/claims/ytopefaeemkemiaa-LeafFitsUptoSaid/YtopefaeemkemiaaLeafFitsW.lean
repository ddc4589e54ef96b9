/- The walk of arboretumlaw8.LeafFits. -/
import Derived.Test.YtopefaeemkemiaaFitsPI
import Derived.Test.YtopefaeemkemiaaLeafCutsW
import Derived.Test.YtopefaeemkemiaaAppG
import Derived.Laws.StructEq
namespace Go.Proofs.Ytopefaeemkemiaa
open Go.RowKit
set_option linter.unusedVariables false
/-- One item that is not right is not put. -/
theorem put_badI {w : World} {ao : Option Addr} {n c : Nat} {l : List Itm} (hE : Itms w w.heap.size ao n l) (hok : ∀ e ∈ l, ItmOk e) (hn : n ≤ 2000000) (hr : riseI l = false) :
    Calls Try.prog 11 #[.slice ao n c] w fun e w' => e = .returned (.tuple #[.string ⟨#[]⟩, .int .i64 1]) ∧ Below w.heap.size w w' := by
  have HR := rise_anyI (c := c) hE hok (by omega)
  rw [hr] at HR
  have HR' := Lib.hid HR
  clear HR hE hok hr
  go_enter Try.func11, Try.ntmps11
  go_wp2_with fail
  refine HR'.out.mono ?_
  rintro e w1 ⟨rfl, hb1⟩
  go_wp2_with fail
  go_ret2
  exact ⟨rfl, hb1⟩
theorem riseI_one (x : Itm) : riseI [x] = okI x := by
  show ((okI x && true) && true) = okI x
  cases okI x <;> rfl
theorem itmB_oneI (x : Itm) : layI [x] = itmB x := by simp [layI]
set_option maxRecDepth 100000 in
set_option maxHeartbeats 16000000 in
theorem fits_offI {w : World} (ao : Option Addr) (n c : Nat) (l : List Itm) (hO : ∀ W, Below w.heap.size w W → ItmsOk W ao n l) (x : Itm) (hx : ItmOk x)
    (h : (putI l).2 ≠ 0 ∨ okI x = false) :
    Calls Try.prog 5 #[.slice ao n c, x.agg] w fun e w' => e = .returned (.bool true) ∧ Below w.heap.size w w' := by
  have hb0 : Below w.heap.size w (w.alloc (.cells #[.string x.key, .string x.vl, .int .i64 x.ov, .int .i64 x.sz] 28)) := (Below.refl _ _).alloc (Nat.le_refl _) _
  have hx0 := heap_alloc_new w (.cells #[.string x.key, .string x.vl, .int .i64 x.ov, .int .i64 x.sz] 28)
  have HB0 := Lib.hid hb0
  have HX0 := Lib.hid hx0
  have HPt := Lib.hid (putI_any (c := c) (hO _ hb0))
  have hnn := (hO w (Below.refl _ _)).few
  have hblk : ∀ W : World, Itms (W.alloc (.cells #[.string x.key, .string x.vl, .int .i64 x.ov, .int .i64 x.sz] 28)) (W.heap.size + 1) (some ⟨W.heap.size, 0, none⟩) 1 [x] := fun W => by
    have := itms_blk (l := [x]) (heap_alloc_new W (.cells #[.string x.key, .string x.vl, .int .i64 x.ov, .int .i64 x.sz] 28)) rfl
    simpa using this
  have hp2 : ∀ W : World, ∃ (q : Int) (S : ByteArray), Hid (okI x = false → q = 1) ∧ Calls Try.prog 11 #[.slice (some ⟨W.heap.size, 0, none⟩) 1 1] (W.alloc (.cells #[.string x.key, .string x.vl, .int .i64 x.ov, .int .i64 x.sz] 28)) fun e w' => e = .returned (.tuple #[.string S, .int .i64 q]) ∧ Below W.heap.size W w' := fun W => by
    have hbW : Below W.heap.size W (W.alloc (.cells #[.string x.key, .string x.vl, .int .i64 x.ov, .int .i64 x.sz] 28)) := (Below.refl _ _).alloc (Nat.le_refl _) _
    have h1 : ∀ e ∈ [x], ItmOk e := fun e he => by
      have : e = x := by simpa using he
      rw [this]; exact hx
    by_cases hr : okI x = true
    · have hg := (goodI_iff x).1 hr
      have hlen : x.len ≤ 100 := by
        have : x.len = x.key.size + x.vl.size := rfl
        rcases hg.2 with ⟨_, _, g⟩ | ⟨_, _, _, _, g⟩
        · omega
        · have hz : x.vl.size = 0 := by rw [g]; rfl
          omega
      have hq : Calls Try.prog 11 #[.slice (some ⟨W.heap.size, 0, none⟩) 1 1] (W.alloc (.cells #[.string x.key, .string x.vl, .int .i64 x.ov, .int .i64 x.sz] 28)) _ := putI_any (c := 1) ⟨by simpa using hblk W, h1, by omega, by simp <;> omega⟩
      refine ⟨(putI [x]).2, ⟨(putI [x]).1.toArray⟩, Lib.hid (fun h => absurd (hr.symm.trans h) (by decide)), hq.mono ?_⟩
      rintro e w' ⟨he, hb⟩
      exact ⟨he, hbW.trans (hb.mono (by simp))⟩
    · have hr' : okI x = false := by simpa using hr
      have hq : Calls Try.prog 11 #[.slice (some ⟨W.heap.size, 0, none⟩) 1 1] (W.alloc (.cells #[.string x.key, .string x.vl, .int .i64 x.ov, .int .i64 x.sz] 28)) _ := put_badI (c := 1) (by simpa using hblk W) h1 (by omega) (by rw [riseI_one]; exact hr')
      refine ⟨1, ⟨#[]⟩, Lib.hid (fun _ => rfl), hq.mono ?_⟩
      rintro e w' ⟨he, hb⟩
      exact ⟨he, hbW.trans (hb.mono (by simp))⟩
  have HP2 := Lib.hid hp2
  obtain ⟨q, hq⟩ : ∃ q, q = putI l := ⟨_, rfl⟩
  rw [← hq] at HPt h
  obtain ⟨q1, q2⟩ := q
  dsimp only at HPt h
  obtain ⟨S, hS⟩ : ∃ S, S = ByteArray.mk q1.toArray := ⟨_, rfl⟩
  rw [← hS] at HPt
  clear hq hS hO hblk hp2 hb0 hx0 hx
  unfold Itm.agg
  go_enter Try.func5, Try.ntmps5
  go_wp2_with fail
  refine HPt.out.mono ?_
  rintro e w1 ⟨rfl, hb1⟩
  have hx1 : w1.heap[w.heap.size]? = some (.cells #[.string x.key, .string x.vl, .int .i64 x.ov, .int .i64 x.sz] 28 (0, 0)) := (hb1.block w.heap.size (by simp)).trans HX0.out
  have c0 : w1.cell? ⟨w.heap.size, 0, none⟩ = some (.string x.key) := by rw [blk_cell hx1]; rfl
  have c1 : w1.cell? ⟨w.heap.size, 1, none⟩ = some (.string x.vl) := by rw [blk_cell hx1]; rfl
  have c2 : w1.cell? ⟨w.heap.size, 2, none⟩ = some (.int .i64 x.ov) := by rw [blk_cell hx1]; rfl
  have c3 : w1.cell? ⟨w.heap.size, 3, none⟩ = some (.int .i64 x.sz) := by rw [blk_cell hx1]; rfl
  have HB1 := Lib.hid (HB0.out.trans (hb1.mono HB0.out.size))
  obtain ⟨p, T, hp, hP2⟩ := HP2.out w1
  have HP := Lib.hid hP2
  clear hb1 hx1 hP2 HP2 HPt HX0 HB0
  go_wp2_with fail
  refine HP.out.mono ?_
  rintro e w2 ⟨rfl, hb2⟩
  have HB2 := Lib.hid (HB1.out.trans (hb2.mono HB1.out.size))
  clear hb2 HB1 HP c0 c1 c2 c3
  by_cases hq2 : q2 = 0
  · have hd : (q2 != 0) = false := by rw [hq2]; rfl
    have hp1 : p = 1 := hp.out (by
      rcases h with h | h
      · exact absurd hq2 h
      · exact h)
    subst hp1
    clear hq2 h hp
    go_wp2_with fail
    refine (aliveI_any _).mono ?_
    rintro e wa ⟨rfl, hba⟩
    go_wp2_with fail
    go_ret
    exact ⟨rfl, HB2.out.trans (hba.mono HB2.out.size)⟩
  · have hd : (q2 != 0) = true := by simpa using hq2
    clear hq2 h hp
    go_wp2_with fail
    refine (aliveI_any _).mono ?_
    rintro e wa ⟨rfl, hba⟩
    go_wp2_with fail
    go_ret
    exact ⟨rfl, HB2.out.trans (hba.mono HB2.out.size)⟩
theorem goodI_ok {e : Itm} (h : GoodI e) : ItmOk e ∧ e.len ≤ 100 := by
  obtain ⟨⟨h1, h2⟩, h3⟩ := (goodI_iff e).1 h
  have hl : e.len = e.key.size + e.vl.size := rfl
  rcases h3 with ⟨g1, g2, g3⟩ | ⟨g1, g2, g3, g4, g5⟩
  · exact ⟨⟨⟨by omega, by omega⟩, ⟨by omega, by omega⟩, by omega, by omega⟩, by omega⟩
  · have hz : e.vl.size = 0 := by rw [g5]; rfl
    exact ⟨⟨⟨by omega, by omega⟩, ⟨by omega, by omega⟩, by omega, by omega⟩, by omega⟩
theorem sumI_le : ∀ (l : List Itm), (∀ e ∈ l, e.len ≤ 100) → (l.map Itm.len).sum ≤ 100 * l.length
  | [], _ => by simp
  | a :: r, h => by
    have h1 := h a List.mem_cons_self
    have h2 := sumI_le r (fun e he => h e (List.mem_cons_of_mem _ he))
    rw [List.map_cons, List.sum_cons, List.length_cons]
    omega
theorem good_itmsOk {w : World} {ao : Option Addr} {n : Nat} {l : List Itm} (h : Itms w w.heap.size ao n l) (hg : ∀ e ∈ l, GoodI e) (hn : n ≤ 1000000) : ItmsOk w ao n l :=
  ⟨h, fun e he => (goodI_ok (hg e he)).1, by omega, by
    have := sumI_le l (fun e he => (goodI_ok (hg e he)).2)
    have := h.1
    omega⟩
set_option maxRecDepth 100000 in
set_option maxHeartbeats 16000000 in
theorem fits_onI {w : World} (ao : Option Addr) (n c : Nat) (l : List Itm) (hO : ∀ W, Below w.heap.size w W → ItmsOk W ao n l) (hnil : ao = none → n = 0) (x : Itm)
    (hg : (putI l).2 = 0) (hxo : okI x = true) :
    Calls Try.prog 5 #[.slice ao n c, x.agg] w fun e w' => e = .returned (.bool true) ∧ Below w.heap.size w w' := by
  have hb0 : Below w.heap.size w (w.alloc (.cells #[.string x.key, .string x.vl, .int .i64 x.ov, .int .i64 x.sz] 28)) := (Below.refl _ _).alloc (Nat.le_refl _) _
  have hx0 := heap_alloc_new w (.cells #[.string x.key, .string x.vl, .int .i64 x.ov, .int .i64 x.sz] 28)
  have HB0 := Lib.hid hb0
  have HX0 := Lib.hid hx0
  have hgx : GoodI x := hxo
  obtain ⟨hxok, hxl⟩ := goodI_ok hgx
  obtain ⟨g1, g2, g3, g4⟩ := putI_good hg
  have hll := (hO w (Below.refl _ _)).len
  have hn80 : n ≤ 80 := by have := layI_ge l; omega
  have HPt := Lib.hid (putI_any (c := c) (hO _ hb0))
  rw [g3] at HPt
  have hput1 : putI [x] = (itmB x, 0) := by
    have hs := itmB_small x hgx
    rw [putI_fits (by rw [riseI_one]; exact hxo) (by rw [itmB_oneI]; omega), itmB_oneI]
  have HP2 : Hid (∀ W : World, Calls Try.prog 11 #[.slice (some ⟨W.heap.size, 0, none⟩) 1 1] (W.alloc (.cells #[.string x.key, .string x.vl, .int .i64 x.ov, .int .i64 x.sz] 28)) fun e w' => e = .returned (.tuple #[.string ⟨(itmB x).toArray⟩, .int .i64 0]) ∧ Below W.heap.size W w') := Lib.hid (fun W => by
    have hbW : Below W.heap.size W (W.alloc (.cells #[.string x.key, .string x.vl, .int .i64 x.ov, .int .i64 x.sz] 28)) := (Below.refl _ _).alloc (Nat.le_refl _) _
    have hI := itms_blk (l := [x]) (heap_alloc_new W (.cells #[.string x.key, .string x.vl, .int .i64 x.ov, .int .i64 x.sz] 28)) rfl
    have hq := putI_any (c := 1) (good_itmsOk hI (fun e he => by
      have : e = x := by simpa using he
      rw [this]; exact hgx) (by simp))
    rw [hput1] at hq
    refine hq.mono ?_
    rintro e w' ⟨he, hb⟩
    exact ⟨he, hbW.trans (hb.mono (by simp))⟩)
  have HSt : Hid (∀ W, Below w.heap.size w W → Calls Try.prog 14 #[.slice ao n c, x.agg] W (SetRes l x W)) := Lib.hid (fun W hW => setI_any (hO W hW).itms hnil (by omega) x)
  have hpl : ∀ k is, FindOkI l x.key k is → (∀ e ∈ setI l k is x, GoodI e) ∧ RisingI (setI l k is x) ∧ (layI (setI l k is x)).length ≤ 343 ∧ (setI l k is x).length ≤ 81 ∧ (setI l k is x)[k]? = some x := fun k is h => by
    refine ⟨fun e he => ?_, setI_rising ((riseI_iff l).1 g4).2 h, ?_, ?_, setI_at h⟩
    · rcases setI_mem he with rfl | he
      · exact hgx
      · exact g1 e he
    · have h1 := setI_bytes (x := x) h
      have h2 := itmB_small x hgx
      omega
    · have := setI_len (x := x) h
      rw [hll] at this
      split at this <;> omega
  have HPl := Lib.hid hpl
  obtain ⟨S1, hS1⟩ : ∃ S, S = ByteArray.mk (layI l).toArray := ⟨_, rfl⟩
  obtain ⟨S2, hS2⟩ : ∃ S, S = ByteArray.mk (itmB x).toArray := ⟨_, rfl⟩
  dsimp only at HPt
  rw [← hS1] at HPt
  rw [← hS2] at HP2
  have y4 : decide (200 < (n : Int)) = false := by simp <;> omega
  clear hb0 hx0 hgx hxok hxl hxo hg g1 g2 g3 g4 hO hll hput1 hpl hS1 hS2 hnil
  unfold Itm.agg at *
  go_enter Try.func5, Try.ntmps5
  go_wp2_with fail
  refine HPt.out.mono ?_
  rintro e w1 ⟨rfl, hb1⟩
  have hx1 : w1.heap[w.heap.size]? = some (.cells #[.string x.key, .string x.vl, .int .i64 x.ov, .int .i64 x.sz] 28 (0, 0)) := (hb1.block w.heap.size (by simp)).trans HX0.out
  have c0 : w1.cell? ⟨w.heap.size, 0, none⟩ = some (.string x.key) := by rw [blk_cell hx1]; rfl
  have c1 : w1.cell? ⟨w.heap.size, 1, none⟩ = some (.string x.vl) := by rw [blk_cell hx1]; rfl
  have c2 : w1.cell? ⟨w.heap.size, 2, none⟩ = some (.int .i64 x.ov) := by rw [blk_cell hx1]; rfl
  have c3 : w1.cell? ⟨w.heap.size, 3, none⟩ = some (.int .i64 x.sz) := by rw [blk_cell hx1]; rfl
  have HB1 := Lib.hid (HB0.out.trans (hb1.mono HB0.out.size))
  have HX1 := Lib.hid hx1
  have HP := Lib.hid (HP2.out w1)
  clear hb1 hx1 HP2 HPt HX0 HB0
  go_wp2_with fail
  refine HP.out.mono ?_
  rintro e w2 ⟨rfl, hb2⟩
  have hx2 : w2.heap[w.heap.size]? = some (.cells #[.string x.key, .string x.vl, .int .i64 x.ov, .int .i64 x.sz] 28 (0, 0)) := (hb2.block w.heap.size (blk_lt HX1.out)).trans HX1.out
  have d0 : w2.cell? ⟨w.heap.size, 0, none⟩ = some (.string x.key) := by rw [blk_cell hx2]; rfl
  have d1 : w2.cell? ⟨w.heap.size, 1, none⟩ = some (.string x.vl) := by rw [blk_cell hx2]; rfl
  have d2 : w2.cell? ⟨w.heap.size, 2, none⟩ = some (.int .i64 x.ov) := by rw [blk_cell hx2]; rfl
  have d3 : w2.cell? ⟨w.heap.size, 3, none⟩ = some (.int .i64 x.sz) := by rw [blk_cell hx2]; rfl
  have HB2 := Lib.hid (HB1.out.trans (hb2.mono HB1.out.size))
  have HX2 := Lib.hid hx2
  have HS := Lib.hid (HSt.out w2 HB2.out)
  clear hb2 hx2 HB1 HP c0 c1 c2 c3 HX1 HSt
  go_wp2_with fail
  refine HS.out.mono ?_
  rintro e w3 ⟨k, is, N, mo, mc, hfo, hN, rfl, hown, hb3⟩
  have hx3 : w3.heap[w.heap.size]? = some (.cells #[.string x.key, .string x.vl, .int .i64 x.ov, .int .i64 x.sz] 28 (0, 0)) := (hb3.block w.heap.size (blk_lt HX2.out)).trans HX2.out
  have HX3 := Lib.hid hx3
  have HB3 := Lib.hid (HB2.out.trans (hb3.mono HB2.out.size))
  obtain ⟨p1, p2, p3, p4, p5⟩ := HPl.out k is hfo
  obtain ⟨m, hm⟩ : ∃ m, m = setI l k is x := ⟨_, rfl⟩
  rw [← hm] at p1 p2 p3 p4 p5 hN hown
  have hkN : k < N := by have := (List.getElem?_eq_some_iff.1 p5).1; omega
  obtain ⟨gm, mcap, hv, hgb, hgl⟩ := hown.form (by omega)
  injection hv with e1 _ e2
  subst e1 e2
  have hnc : N ≤ mc := by
    obtain ⟨_, _, e1, hnc, _, _⟩ := own_shape hown
    injection e1 with _ _ e1
    omega
  have hmc : mc ≤ 9223372036854775807 := by
    rcases hown.2 with ⟨hs, _⟩ | ⟨g', c', cur, hs, _, _, _, hm, _⟩
    · injection hs; omega
    · injection hs with _ _ hc; unfold maxLen at hm; omega
  have hMk : ∀ W, Below w3.heap.size w3 W → ItmsOk W (some ⟨gm, 0, none⟩) N m := fun W hW => good_itmsOk ((((itms_own hown).below hW)).mono hW.size) p1 (by omega)
  have HMk := Lib.hid hMk
  have HMr : Hid (riseI m = true) := Lib.hid ((riseI_iff m).2 ⟨p1, p2⟩)
  have HP3 := Lib.hid p3
  have HP5 := Lib.hid p5
  have HP2 := Lib.hid p2
  have HP1 := Lib.hid p1
  have hNm : N ≤ 81 := by omega
  have HN := Lib.hid hN
  have HFt := Lib.hid (fitsI_any (c := mc) (hMk w3 (Below.refl _ _)))
  clear hm hown hfo p1 p2 p3 p4 p5 hMk hN hb3 hx3 hgb d0 d1 d2 d3 HS HX2 HB2 HPl
  by_cases hfit : (layI m).length ≤ 240
  · have hpm := putI_fits HMr.out hfit
    rw [hpm] at HFt
    have HFt : Hid (Calls Try.prog 15 #[.slice (some ⟨gm, 0, none⟩) N mc] w3 fun e w' => e = .returned (.bool true) ∧ Below w3.heap.size w3 w') := Lib.hid HFt.out
    have HFi : Hid (∀ W, Below w3.heap.size w3 W → Calls Try.prog 10 #[.slice (some ⟨gm, 0, none⟩) N mc, .string x.key] W fun e w' => e = .returned (.tuple #[.int .i64 k, .bool true]) ∧ Below W.heap.size W w') := Lib.hid (fun W hW => by
      refine (findI_any (c := mc) (HMk.out W hW).itms (by omega) x.key).mono ?_
      rintro e w' ⟨k', is', he, hk', hb⟩
      obtain ⟨rfl, rfl⟩ := findOkI_own HP2.out HP5.out hk'
      exact ⟨he, hb⟩)
    clear hfit hpm
    go_wp2_with fail
    refine HFt.out.mono ?_
    rintro e w4 ⟨rfl, hb4⟩
    have hx4 : w4.heap[w.heap.size]? = some (.cells #[.string x.key, .string x.vl, .int .i64 x.ov, .int .i64 x.sz] 28 (0, 0)) := (hb4.block w.heap.size (blk_lt HX3.out)).trans HX3.out
    have HX4 := Lib.hid hx4
    have c0 : w4.cell? ⟨w.heap.size, 0, none⟩ = some (.string x.key) := by rw [blk_cell hx4]; rfl
    have HF4 := Lib.hid (HFi.out w4 hb4)
    have HB4 := Lib.hid hb4
    clear hx4 hb4 HFi HFt
    go_wp2_with fail
    refine HF4.out.mono ?_
    rintro e w5 ⟨rfl, hb5⟩
    have hb35 := HB4.out.trans (hb5.mono HB4.out.size)
    have hx5 : w5.heap[w.heap.size]? = some (.cells #[.string x.key, .string x.vl, .int .i64 x.ov, .int .i64 x.sz] 28 (0, 0)) := (hb5.block w.heap.size (blk_lt HX4.out)).trans HX4.out
    have hq : ∀ p : SinceW w5.heap.size w5, (p.w.cell? ⟨w.heap.size, 0, none⟩ = some (.string x.key) ∧ p.w.cell? ⟨w.heap.size, 1, none⟩ = some (.string x.vl) ∧ p.w.cell? ⟨w.heap.size, 2, none⟩ = some (.int .i64 x.ov) ∧ p.w.cell? ⟨w.heap.size, 3, none⟩ = some (.int .i64 x.sz)) ∧ (p.w.cell? ⟨gm, k * 4, none⟩ = some (.string x.key) ∧ p.w.cell? ⟨gm, k * 4 + 1, none⟩ = some (.string x.vl) ∧ p.w.cell? ⟨gm, k * 4 + 2, none⟩ = some (.int .i64 x.ov) ∧ p.w.cell? ⟨gm, k * 4 + 3, none⟩ = some (.int .i64 x.sz)) := fun p => by
      refine ⟨?_, ?_⟩
      · have hk := (p.h.block w.heap.size (blk_lt hx5)).trans hx5
        refine ⟨?_, ?_, ?_, ?_⟩ <;> rw [blk_cell hk] <;> rfl
      · obtain ⟨b', o', e', ha, _, he', s1, s2, s3, s4⟩ := (HMk.out p.w (hb35.trans (p.h.mono hb35.size))).itms.get (k := k) hkN
        injection ha with ha
        injection ha with h1 h2
        subst h1 h2
        rw [HP5.out] at he'
        injection he' with he'
        subst he'
        simp only [Nat.zero_add] at s1 s2 s3 s4
        exact ⟨s1, s2, s3, s4⟩
    have q0 := fun p => (hq p).1.1
    have q1 := fun p => (hq p).1.2.1
    have q2 := fun p => (hq p).1.2.2.1
    have q3 := fun p => (hq p).1.2.2.2
    have r0 := fun p => (hq p).2.1
    have r1 := fun p => (hq p).2.2.1
    have r2 := fun p => (hq p).2.2.2.1
    have r3 := fun p => (hq p).2.2.2.2
    have HB5 := Lib.hid (HB3.out.trans (hb35.mono HB3.out.size))
    have z1 : (0 : Int) ≤ k := by omega
    have z2 : (k : Int) < N := by omega
    clear hq hx5 hb5 hb35 HF4 HB4 HX4 c0
    go_wp2_with fail
    refine wp_region_since (B := w5.heap.size) (W0 := w5) (by kernel_rfl) (by kernel_rfl) (Below.refl _ _) ?_
    repeat (go_big_quiet_step ((go_at_call 9; exact since_call (Nat.le_refl _) (aliveI_any _))))
    refine wpQuiet_nil ?_
    intro _ hw'
    obtain ⟨⟨w6, hv6⟩, rfl⟩ := hw'
    clear q0 q1 q2 q3 r0 r1 r2 r3
    go_wp2_with fail
    go_ret
    exact ⟨rfl, HB5.out.trans (hv6.mono HB5.out.size)⟩
  · have hbig : 240 < (layI m).length := by omega
    have hpm := putI_long HMr.out hbig
    rw [hpm] at HFt
    have HFt : Hid (Calls Try.prog 15 #[.slice (some ⟨gm, 0, none⟩) N mc] w3 fun e w' => e = .returned (.bool false) ∧ Below w3.heap.size w3 w') := Lib.hid HFt.out
    have hN2 : 2 ≤ N := by
      rcases Nat.lt_or_ge N 2 with h2 | h2
      · have hs : (layI m).length ≤ 103 * m.length := by
          clear hbig hpm hfit HFt HMk HMr HP3 HP5 HP2
          have hP := HP1.out
          clear HP1 HN
          induction m with
          | nil => simp [layI]
          | cons a r ih =>
            rw [layI_cons, List.length_append, List.length_cons]
            have := itmB_small a (hP a List.mem_cons_self)
            have := ih (fun e he => hP e (List.mem_cons_of_mem _ he))
            omega
        have := HN.out
        omega
      · exact h2
    have HSp : Hid (∀ W, Below w3.heap.size w3 W → Calls Try.prog 16 #[.slice (some ⟨gm, 0, none⟩) N mc] W (SplitResI m N W)) := Lib.hid (fun W hW => splitI_any (HMk.out W hW) hnc hmc hN2)
    have hpf : ∀ q, SplitOkI m q → (putI (m.take q)).2 = 0 ∧ (putI (m.drop q)).2 = 0 := fun q h => parts_fit HMr.out hbig HP3.out h
    have HPf := Lib.hid hpf
    have hsm := HMk.out
    clear hpm hpf hfit hbig hsm
    go_wp2_with fail
    refine HFt.out.mono ?_
    rintro e w4 ⟨rfl, hb4⟩
    have HS4 := Lib.hid (HSp.out w4 hb4)
    have HB4 := Lib.hid hb4
    clear hb4 HSp HFt
    go_wp2_with fail
    refine HS4.out.mono ?_
    rintro e w5 ⟨q, ao5, ca5, bo5, cb5, rfl, hq, ho1, ho2, hb5⟩
    have hb35 := HB4.out.trans (hb5.mono HB4.out.size)
    obtain ⟨hq1, hq2, -, -⟩ := id hq
    have hqN : q < N := by have := HN.out; omega
    obtain ⟨f1, f2⟩ := HPf.out q hq
    obtain ⟨g1, cp1, hv1, hgb1, hgl1⟩ := ho1.form (by omega)
    injection hv1 with e1 _ e2
    subst e1 e2
    obtain ⟨g2, cp2, hv2, hgb2, hgl2⟩ := ho2.form (by omega)
    injection hv2 with e1 _ e2
    subst e1 e2
    obtain ⟨r, hr⟩ : ∃ r, r = N - q := ⟨_, rfl⟩
    rw [← hr] at ho2
    have hrp : 0 < r := by omega
    have hr81 : r ≤ 81 := by omega
    have hq81 : q ≤ 81 := by omega
    have hAok : ∀ W, Below w5.heap.size w5 W → ItmsOk W (some ⟨g1, 0, none⟩) q (m.take q) := fun W hW => good_itmsOk (((itms_own ho1).below hW).mono hW.size) (fun e he => HP1.out e (List.mem_of_mem_take he)) (by omega)
    have hBok : ∀ W, Below w5.heap.size w5 W → ItmsOk W (some ⟨g2, 0, none⟩) r (m.drop q) := fun W hW => good_itmsOk (((itms_own ho2).below hW).mono hW.size) (fun e he => HP1.out e (List.mem_of_mem_drop he)) (by omega)
    have HAok := Lib.hid hAok
    have HBok := Lib.hid hBok
    have HFa : Hid (∀ W, Below w5.heap.size w5 W → Calls Try.prog 15 #[.slice (some ⟨g1, 0, none⟩) q ca5] W fun e w' => e = .returned (.bool true) ∧ Below W.heap.size W w') := Lib.hid (fun W hW => by
      have := fitsI_any (c := ca5) (hAok W hW)
      rw [f1] at this
      exact this)
    have HFb : Hid (∀ W, Below w5.heap.size w5 W → Calls Try.prog 15 #[.slice (some ⟨g2, 0, none⟩) r cb5] W fun e w' => e = .returned (.bool true) ∧ Below W.heap.size W w') := Lib.hid (fun W hW => by
      have := fitsI_any (c := cb5) (hBok W hW)
      rw [f2] at this
      exact this)
    obtain ⟨La, hLa⟩ : ∃ L, L = (layI (m.take q)).length := ⟨_, rfl⟩
    obtain ⟨Lb, hLb⟩ : ∃ L, L = (layI (m.drop q)).length := ⟨_, rfl⟩
    have hLm : (layI m).length = La + Lb := by rw [hLa, hLb, ← List.length_append, ← layI_append, List.take_append_drop]
    have HSa : Hid (∀ W, Below w5.heap.size w5 W → Calls Try.prog 17 #[.slice (some ⟨g1, 0, none⟩) q ca5] W fun e w' => e = .returned (.int .i64 La) ∧ Below W.heap.size W w') := Lib.hid (fun W hW => by
      have := sizeI_any (c := ca5) (hAok W hW)
      rw [← hLa] at this
      exact this)
    have HSb : Hid (∀ W, Below w5.heap.size w5 W → Calls Try.prog 17 #[.slice (some ⟨g2, 0, none⟩) r cb5] W fun e w' => e = .returned (.int .i64 Lb) ∧ Below W.heap.size W w') := Lib.hid (fun W hW => by
      have := sizeI_any (c := cb5) (hBok W hW)
      rw [← hLb] at this
      exact this)
    have HSm : Hid (∀ W, Below w5.heap.size w5 W → Calls Try.prog 17 #[.slice (some ⟨gm, 0, none⟩) N mc] W fun e w' => e = .returned (.int .i64 ((La : Int) + Lb)) ∧ Below W.heap.size W w') := Lib.hid (fun W hW => by
      have := sizeI_any (c := mc) (HMk.out W (hb35.trans (hW.mono hb35.size)))
      rw [hLm] at this
      rw [show (La : Int) + Lb = ((La + Lb : Nat) : Int) from by omega]
      exact this)
    have hLs := HP3.out
    rw [hLm] at hLs
    have HMk5 : Hid (∀ W, Below w5.heap.size w5 W → Itms W W.heap.size (some ⟨gm, 0, none⟩) N m) := Lib.hid (fun W hW => (HMk.out W (hb35.trans (hW.mono hb35.size))).itms)
    have HB5 := Lib.hid (HB3.out.trans (hb35.mono HB3.out.size))
    have HLk : Hid ((itmCells (m.take q)).length = q * 4 ∧ (itmCells (m.drop q)).length = r * 4) := Lib.hid (by
      rw [itmCells_len, itmCells_len, (hAok w5 (Below.refl _ _)).len, (hBok w5 (Below.refl _ _)).len]
      exact ⟨rfl, rfl⟩)
    have HTd : Hid (m.take q ++ m.drop q = m) := Lib.hid (List.take_append_drop _ _)
    have HRn : Hid (q + r = N) := Lib.hid (by omega)
    have hxs : (0 : Int) < q := by omega
    have hxr : (0 : Int) < r := by omega
    rw [← hr]
    obtain ⟨i0, hi, hz0, hz1, hz2⟩ := info_parts itmInfo
    clear hr hq f1 f2 ho1 ho2 hAok hBok hLa hLb hLm hb35 hb5 hq1 hq2 HB4 HS4 HPf HMk HMr HP3 HP5 HP2 HP1 HN hgb1 hgl1 hgb2 hgl2 HX3
    go_wp2_with fail
    refine (aliveI_any _).mono ?_
    rintro e wa ⟨rfl, hba⟩
    have HXa := Lib.hid (HFa.out wa hba)
    have HBa := Lib.hid hba
    clear hba HFa
    go_wp2_with fail
    refine HXa.out.mono ?_
    rintro e w6 ⟨rfl, hb6⟩
    have HB6 := Lib.hid (HBa.out.trans (hb6.mono HBa.out.size))
    have HXb := Lib.hid (HFb.out w6 HB6.out)
    clear hb6 HXa HFb HBa
    go_wp2_with fail
    refine HXb.out.mono ?_
    rintro e w7 ⟨rfl, hb7⟩
    have HB7 := Lib.hid (HB6.out.trans (hb7.mono HB6.out.size))
    have HCa := Lib.hid (HAok.out w7 HB7.out).itms.cells
    clear hb7 HXb HB6
    have HCb : Hid (∀ W, Below w7.heap.size w7 W → ∀ j u, (itmCells (m.drop q))[j]? = some u → W.cell? ((⟨g2, 0, none⟩ : Addr).add j) = some u) := Lib.hid (fun W hW => (HBok.out W (HB7.out.trans (hW.mono HB7.out.size))).itms.cells)
    have hN81 : N ≤ 1000000 := by omega
    go_wp2_with (first
      | (at_builtin; refine wpList_append_guarded (by go_simp) (.const (.slice none 0 0)) (.tmp 86) 22 rfl w7.heap.size 28 i0 _ 4 48 Try.underlying22 hi hz0 hz1 hz2 rfl (by omega) _ 0 [] rfl (World.ownsRow_nil _ _ _ _) ⟨g1, 0, none⟩ q ca5 (itmCells (m.take q)) rfl HLk.out.1 HCa.out (itmCells_one _) (by unfold maxLen; omega) (by omega) (Nat.le_refl _) ?_; intro v8 w8 hown8 hg8; rw [Nat.zero_add, List.nil_append] at hown8; have HO8 := Lib.hid hown8; have hg8' : w7.grownBy w8 none := hg8; have HB8 : Hid (Below w7.heap.size w7 w8) := Lib.hid ((Below.refl _ _).grown hg8' (Nat.le_refl _) (fun k hk => by cases hk)); have HLt8 := Lib.hid hown8.lt; clear hown8 hg8 hg8')
      | (at_builtin; refine wpList_append_guarded (by go_simp) (.tmp 87) (.tmp 88) 22 rfl w7.heap.size 28 i0 _ 4 48 Try.underlying22 hi hz0 hz1 hz2 rfl (by omega) _ q (itmCells (m.take q)) rfl HO8.out ⟨g2, 0, none⟩ r cb5 (itmCells (m.drop q)) rfl HLk.out.2 (HCb.out w8 HB8.out) (itmCells_one _) (by unfold maxLen; omega) (by omega) HB8.out.size ?_; intro v9 w9 hown9 hg9; rw [HRn.out, ← itmCells_append, HTd.out] at hown9; obtain ⟨g9, cap9, hv9, hgb9, hgl9⟩ := hown9.form (by omega); subst hv9; have HO9 := Lib.hid hown9; have HB9 := Lib.hid (HB8.out.grown hg9 HB8.out.size (fun k hk => (HLt8.out k hk).1)); have HSame := Lib.hid (sameI_yes (c := cap9) (d := mc) (itms_own hown9) (HMk5.out w9 (HB7.out.trans (HB9.out.mono HB7.out.size))) (by omega)); clear hown9 hg9))
    refine HSame.out.mono ?_
    rintro e w10 ⟨rfl, hb10⟩
    have hb710 := HB9.out.trans (hb10.mono HB9.out.size)
    have HB10 := Lib.hid (HB7.out.trans (hb710.mono HB7.out.size))
    have HX1 := Lib.hid (HSa.out w10 HB10.out)
    clear hb10 hb710 HSame HO8 HO9 HB8 HB9 HLt8 HCa HCb
    go_wp2_with fail
    refine HX1.out.mono ?_
    rintro e w11 ⟨rfl, hb11⟩
    have HB11 := Lib.hid (HB10.out.trans (hb11.mono HB10.out.size))
    have HX2 := Lib.hid (HSb.out w11 HB11.out)
    clear hb11 HX1 HB10
    go_wp2_with fail
    refine HX2.out.mono ?_
    rintro e w12 ⟨rfl, hb12⟩
    have HB12 := Lib.hid (HB11.out.trans (hb12.mono HB11.out.size))
    have HX3 := Lib.hid (HSm.out w12 HB12.out)
    clear hb12 HX2 HB11
    go_wp2_with fail
    refine HX3.out.mono ?_
    rintro e w13 ⟨rfl, hb13⟩
    go_wp2_with fail
    go_ret
    exact ⟨rfl, HB5.out.trans ((HB12.out.trans (hb13.mono HB12.out.size)).mono HB5.out.size)⟩
theorem walk_LeafFits {w : World} (ao : Option Addr) (n c : Nat) (h0 : ∃ l, ItmsIn w ao n c l ∧ n + (l.map Itm.len).sum ≤ 1048576) (x : Itm) (hx : ItmOk x) :
    Calls Try.prog 5 #[.slice ao n c, x.agg] w fun e w' => e = .returned (.bool true) ∧ Below w.heap.size w w' := by
  obtain ⟨l, hE, hbk⟩ := h0
  have hO : ∀ W, Below w.heap.size w W → ItmsOk W ao n l := fun W hW => hE.okBulk hbk hW
  by_cases hg : (putI l).2 = 0
  · cases hx2 : okI x with
    | true => exact fits_onI ao n c l hO (fun h => (hE.nil_ h).1) x hg hx2
    | false => exact fits_offI ao n c l hO x hx (.inr hx2)
  · exact fits_offI ao n c l hO x hx (.inl hg)
end Go.Proofs.Ytopefaeemkemiaa
