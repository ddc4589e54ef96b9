/- The walk of arboretumlaw8.LeafTells. -/
import Derived.Test.YtmdidmllaldbaaaGreatBsT
import Derived.Test.YtmdidmllaldbaaaGreatLeafTellsP
import Derived.Test.YtmdidmllaldbaaaGreatRefLg
import Derived.Test.YtmdidmllaldbaaaGreatLentT
import Derived.Test.YtmdidmllaldbaaaGreatAliveI
import Derived.Test.YtmdidmllaldbaaaGreatSmallI
import Derived.Test.YtmdidmllaldbaaaGreatRiseI
import Derived.Test.YtmdidmllaldbaaaGreatSameI
import Derived.Laws.StructEq
namespace Go.Proofs.YtmdidmllaldbaaaGreat
open Go.RowKit
set_option linter.unusedVariables false
theorem ItmsIn.keep {w W : World} {ao : Option Addr} {n c : Nat} {l : List Itm} (h : ItmsIn w ao n c l) (hb : Below w.heap.size w W) : ItmsIn W ao n c l :=
  ⟨(h.itms.below hb).mono hb.size, h.le, h.nil_, h.sz, h.ok⟩
theorem LentT.pres {w W : World} {N B g n c : Nat} {l : List Itm} (h : LentT w B g n c l) (hp : Pres N w W) (hN : N ≤ B) : LentT W B g n c l := ⟨h.1, h.2.1, own_pres h.2.2 hp hN⟩
set_option maxRecDepth 100000 in
set_option maxHeartbeats 32000000 in
theorem walk_LeafTells {w : World} (ao0 : Option Addr) (n0 c0 : Nat) (z0 : ∃ l, ItmsIn w ao0 n0 c0 l) (s : ByteArray) (hs : s.size ≤ maxLen) (key : ByteArray) (hkey : key.size ≤ maxLen) (x : Itm) (hx : ItmOk x) :
    Calls Tryz.prog 7 #[.slice ao0 n0 c0, .string s, .string key, x.agg] w fun e w' => e = .returned (.bool true) ∧ Below w.heap.size w w' := by
  obtain ⟨l, z0⟩ := z0
  unfold maxLen at hs hkey
  have hnn : n0 ≤ 140737488351232 := by have := z0.sz; have := z0.le; omega
  have hb0 : Below w.heap.size w (w.alloc (.cells #[.string x.key, .string x.vl, .int .i64 x.ov, .int .i64 x.sz] 133)) := (Below.refl _ _).alloc (Nat.le_refl _) _
  have HE := Lib.hid (z0.keep hb0)
  have hx0 := heap_alloc_new w (.cells #[.string x.key, .string x.vl, .int .i64 x.ov, .int .i64 x.sz] 133)
  have HB0 := Lib.hid hb0
  have hlt0 : w.heap.size < (w.alloc (.cells #[.string x.key, .string x.vl, .int .i64 x.ov, .int .i64 x.sz] 133)).heap.size := by simp
  have HX0 := Lib.hid (And.intro hx0 hlt0)
  have HXo := Lib.hid hx
  clear z0 hb0 hx0 hlt0 hx
  unfold Itm.agg
  go_enter Tryz.func7, Tryz.ntmps7
  go_wp2_with fail
  obtain ⟨w0, hw0⟩ : ∃ w0, w0 = w.alloc (.cells #[.string x.key, .string x.vl, .int .i64 x.ov, .int .i64 x.sz] 133) := ⟨_, rfl⟩
  rw [← hw0] at HE HB0 HX0 ⊢
  obtain ⟨bx, hbx⟩ : ∃ bx, bx = w.heap.size := ⟨_, rfl⟩
  have HXB : Hid (∀ W, Below w0.heap.size w0 W → W.cell? ⟨w.heap.size, 0, none⟩ = some (.string x.key) ∧ W.cell? ⟨w.heap.size, 1, none⟩ = some (.string x.vl) ∧ W.cell? ⟨w.heap.size, 2, none⟩ = some (.int .i64 x.ov) ∧ W.cell? ⟨w.heap.size, 3, none⟩ = some (.int .i64 x.sz)) := Lib.hid (fun W hb => by
    have h1 := (hb.block w.heap.size HX0.out.2).trans HX0.out.1
    exact ⟨by rw [blk_cell h1]; rfl, by rw [blk_cell h1]; rfl, by rw [blk_cell h1]; rfl, by rw [blk_cell h1]; rfl⟩)
  have HFin : Hid (∀ W, Below w0.heap.size w0 W → Below w.heap.size w W) := Lib.hid (fun W hb => HB0.out.trans (hb.mono HB0.out.size))
  clear hw0 HB0 HX0 hbx
  refine (smallI_any HE.out).mono ?_
  rintro e w1 ⟨r1, rfl, hr1, hb1⟩
  have HB1 := Lib.hid hb1
  clear hb1
  cases r1 with
  | false =>
    clear hr1
    go_wp2_with fail
    refine (aliveI_any _).mono ?_
    rintro e w2 ⟨rfl, hb2⟩
    go_wp2_with fail
    go_ret
    exact ⟨rfl, HFin.out _ (HB1.out.trans (hb2.mono HB1.out.size))⟩
  | true =>
  obtain ⟨h100, hsum⟩ := hr1 rfl
  by_cases h3000 : 3000 < s.size
  · go_wp2_with fail
    refine (aliveI_any _).mono ?_
    rintro e w3 ⟨rfl, hb3⟩
    go_wp2_with fail
    go_ret
    exact ⟨rfl, HFin.out _ (HB1.out.trans (hb3.mono HB1.out.size))⟩
  by_cases h3001 : 3000 < key.size
  · go_wp2_with fail
    refine (aliveI_any _).mono ?_
    rintro e w3 ⟨rfl, hb3⟩
    go_wp2_with fail
    go_ret
    exact ⟨rfl, HFin.out _ (HB1.out.trans (hb3.mono HB1.out.size))⟩
  clear hr1
  obtain ⟨x0, x1, x2, x3⟩ := HXB.out _ HB1.out
  have HIx : Hid (ItmsIn (w1.alloc (.cells #[.string x.key, .string x.vl, .int .i64 x.ov, .int .i64 x.sz] 133)) (some ⟨w1.heap.size, 0, none⟩) 1 1 [x]) := Lib.hid ⟨by simpa using itms_oneA (W := w1) (x := x), Nat.le_refl _, (fun h => by cases h), by omega, fun e he => by
    have : e = x := by simpa using he
    rw [this]; exact HXo.out⟩
  have HSx := Lib.hid (smallI_any HIx.out)
  clear HIx
  go_wp2_with fail
  refine HSx.out.mono ?_
  rintro e w2 ⟨r2, rfl, hr2, hb2⟩
  have HB2 := Lib.hid ((HB1.out.alloc HB1.out.size (.cells #[.string x.key, .string x.vl, .int .i64 x.ov, .int .i64 x.sz] 133)).trans (hb2.mono (Nat.le_trans HB1.out.size (by simp))))
  clear hb2 x0 x1 x2 x3 HSx
  cases r2 with
  | false =>
    clear hr2
    go_wp2_with fail
    refine (aliveI_any _).mono ?_
    rintro e w3 ⟨rfl, hb3⟩
    go_wp2_with fail
    go_ret
    exact ⟨rfl, HFin.out _ (HB2.out.trans (hb3.mono HB2.out.size))⟩
  | true =>
  clear hr2
  have HSt := Lib.hid (BsT.start HB2.out)
  have hll : l.length = n0 := HE.out.itms.1
  have hc0 := HE.out.le
  have hc0' : c0 ≤ 140737488351232 := by have := HE.out.sz; omega
  have HMk : Hid (∀ (W : World) (ao : Option Addr), Itms W W.heap.size ao n0 l → ItmsOk W ao n0 l) := Lib.hid (fun W ao h => ⟨h, HE.out.ok, by omega, by change (l.map Itm.len).sum ≤ 9000 at hsum; omega⟩)
  obtain ⟨l1, l2, k1, k2, hl1, hl2, hk1, hk2, HSp, HSr⟩ := splitI_both l n0 hll (by omega)
  have HSp := Lib.hid HSp
  have HSr := Lib.hid HSr
  obtain ⟨pt, hpt⟩ : ∃ pt, pt = putI l := ⟨_, rfl⟩
  obtain ⟨gt, hgt⟩ : ∃ gt, gt = getI s.data.toList := ⟨_, rfl⟩
  have hgl : gt.1.length ≤ 3000 := by rw [hgt]; have := getI_len s.data.toList; have h2 : s.data.toList.length = s.size := rfl; omega
  have HGp : Hid (∀ W, Calls Tryz.prog 96 #[.string s] W fun e w' => ∃ ao N c, e = .returned (.tuple #[.slice ao N c, .int .i64 gt.2]) ∧ w'.ownsRow W.heap.size 133 4 (.slice ao N c) N (itmCells gt.1) ∧ gt.1.length = N ∧ Below W.heap.size W w') := Lib.hid (fun W => by rw [hgt]; exact getI_any s W (by omega))
  have HGr : Hid (∀ W, Calls Tryz.prog 97 #[.string s] W fun e w' => ∃ ao N c, e = .returned (.tuple #[.slice ao N c, .int .i64 gt.2]) ∧ w'.ownsRow W.heap.size 133 4 (.slice ao N c) N (itmCells gt.1) ∧ gt.1.length = N ∧ Below W.heap.size W w') := Lib.hid (fun W => by rw [hgt]; exact rgetI_any s W (by omega))
  have HPp : Hid (∀ (W : World) (ao : Option Addr) (c : Nat), ItmsOk W ao n0 l → Calls Tryz.prog 94 #[.slice ao n0 c] W fun e w' => e = .returned (.tuple #[.string ⟨pt.1.toArray⟩, .int .i64 pt.2]) ∧ Below W.heap.size W w') := Lib.hid (fun W ao c h => by rw [hpt]; exact putI_any h)
  have HPr : Hid (∀ (W : World) (ao : Option Addr) (c : Nat), ItmsOk W ao n0 l → Calls Tryz.prog 95 #[.slice ao n0 c] W fun e w' => e = .returned (.tuple #[.string ⟨pt.1.toArray⟩, .int .i64 pt.2]) ∧ Below W.heap.size W w') := Lib.hid (fun W ao c h => by rw [hpt]; exact rputI_any h)
  have HFi : Hid (∀ (W : World) (ao : Option Addr) (c : Nat), ItmsOk W ao n0 l → Calls Tryz.prog 101 #[.slice ao n0 c] W fun e w' => e = .returned (.bool (pt.2 == 0)) ∧ Below W.heap.size W w') := Lib.hid (fun W ao c h => by rw [hpt]; exact fitsI_any h)
  clear hpt hgt hsum
  go_wp2_with fail
  go_loopw [10] (fun y wr => ∃ (k : Nat) (o : Nat → Tag), k ≤ 2 ∧ y = .int .i64 k ∧ Hid (BsT w0 wr w2.heap.size o)) (fun y _ => 2 - (intOf y).toNat)
  case atStart => exact ⟨0, _, by omega, rfl, HSt⟩
  case round =>
    obtain ⟨k, o, hk, rfl, HK⟩ := hrel
    have HBW := Lib.hid HK.out.bel
    by_cases hlt : k < 2
    · have hx1 : (k : Int) < 2 := by omega
      go_wp2_with fail
      refine (lentT_any (HE.out.keep HBW.out) (by omega)).mono ?_
      rintro e v1 ⟨g1, d1, rfl, hL1, hb1⟩
      have HL1 := Lib.hid hL1
      have HW1 := Lib.hid hb1
      clear hL1 hb1
      have hd1 : n0 ≤ d1 := by have := HL1.out.1; omega
      have hd1' := HL1.out.cap
      have FM : Hid (∀ W, Below v1.heap.size v1 W → ItmsOk W (some ⟨g1, 0, none⟩) n0 l) := Lib.hid (fun W hb => HMk.out _ _ ((HL1.out.below hb).list hll))
      have FL : Hid (∀ W, Below v1.heap.size v1 W → ItmsOk W ao0 n0 l) := Lib.hid (fun W hb => HMk.out _ _ (HE.out.keep (HBW.out.trans ((HW1.out.trans (hb.mono HW1.out.size)).mono HBW.out.size))).itms)
      have HB : Hid (Below v1.heap.size v1 v1) := Lib.hid (Below.refl _ _)
      go_wp2_with fail
      refine (HPp.out _ _ d1 (FM.out _ HB.out)).mono ?_
      rintro e v2 ⟨rfl, hb⟩
      have HB := Lib.hid (HB.out.trans (hb.mono HB.out.size))
      clear hb
      go_wp2_with fail
      refine (HPr.out _ _ c0 (FL.out _ HB.out)).mono ?_
      rintro e v3 ⟨rfl, hb⟩
      have HB := Lib.hid (HB.out.trans (hb.mono HB.out.size))
      clear hb
      go_wp2_with fail
      refine (HGp.out _).mono ?_
      rintro e v4 ⟨aoU, NU, cU, rfl, hoU, hlU, hb⟩
      have HOU := Lib.hid (own_monoK hoU (Nat.le_trans HW1.out.size HB.out.size))
      have HB := Lib.hid (HB.out.trans (hb.mono HB.out.size))
      clear hoU hb
      go_wp2_with fail
      refine (HGr.out _).mono ?_
      rintro e v5 ⟨aoV, NV, cV, rfl, hoV, hlV, hb⟩
      obtain rfl : NV = NU := by omega
      have HOV := Lib.hid hoV
      have HOU := Lib.hid (own_below HOU.out hb)
      have HB := Lib.hid (HB.out.trans (hb.mono HB.out.size))
      clear hb hoV
      go_wp2_with fail
      refine (sameI_yes (c := cU) (d := cV) (itms_own HOU.out) (itms_own HOV.out) (by omega)).mono ?_
      rintro e v6 ⟨rfl, hb⟩
      have HOU := Lib.hid (own_below HOU.out hb)
      have HB := Lib.hid (HB.out.trans (hb.mono HB.out.size))
      clear hb HOV
      go_wp2_with fail
      refine (sizeI_any (c := d1) (FM.out _ HB.out)).mono ?_
      rintro e v7 ⟨rfl, hb⟩
      have HOU := Lib.hid (own_below HOU.out hb)
      have HB := Lib.hid (HB.out.trans (hb.mono HB.out.size))
      clear hb
      go_wp2_with fail
      refine (rsizeI_any (c := c0) (FL.out _ HB.out)).mono ?_
      rintro e v8 ⟨rfl, hb⟩
      have HOU := Lib.hid (own_below HOU.out hb)
      have HB := Lib.hid (HB.out.trans (hb.mono HB.out.size))
      clear hb
      go_wp2_with fail
      refine (HFi.out _ _ d1 (FM.out _ HB.out)).mono ?_
      rintro e v9 ⟨rfl, hb⟩
      have HOU := Lib.hid (own_below HOU.out hb)
      have HB := Lib.hid (HB.out.trans (hb.mono HB.out.size))
      clear hb
      go_wp2_with fail
      refine (staysT_any (d := c0) (HL1.out.below HB.out) (FL.out _ HB.out).itms (by omega)).mono ?_
      rintro e v10 ⟨rfl, hb⟩
      have HOU := Lib.hid (own_below HOU.out hb)
      have HB := Lib.hid (HB.out.trans (hb.mono HB.out.size))
      clear hb
      have BW10 : Below wr.heap.size wr v10 := HW1.out.trans (HB.out.mono HW1.out.size)
      have HL1 := Lib.hid (HL1.out.below HB.out)
      have hww : w0.heap.size ≤ wr.heap.size := HBW.out.size
      have HSz10 : Hid (wr.heap.size ≤ v10.heap.size) := Lib.hid BW10.size
      have HAdd := Lib.hid (((HK.out.agree (retag_agree o wr.heap.size (77, 0, 0))).below BW10).addT (own_monoK HOU.out hww) hlU (by omega) (retag_own HOU.out))
      have KP1 : Hid (Kp wr.heap.size v10 v10 (retag o wr.heap.size (77, 0, 0))) := Lib.hid ⟨Nat.le_refl _, fun _ _ _ => rfl, fun g hg _ => by rw [retag_ss hg]; exact not_ss77 0⟩
      clear BW10 FM FL HB HOU
      go_wp2_with fail
      refine HAdd.out.mono ?_
      rintro e v11 ⟨rfl, o3, B3, U3, T3⟩
      have KP1 := Lib.hid (KP1.out.step U3 T3)
      have HB3 := Lib.hid B3
      have HBV := Lib.hid B3.bel
      have HM1 := Lib.hid (HL1.out.pres KP1.out.pres (Nat.le_refl _))
      clear B3 U3 T3 HAdd
      have FM : Hid (∀ W, Below v11.heap.size v11 W → ItmsOk W (some ⟨g1, 0, none⟩) n0 l) := Lib.hid (fun W hb => HMk.out _ _ ((HM1.out.below hb).list hll))
      have FE : Hid (∀ W, Below v11.heap.size v11 W → ItmsIn W ao0 n0 c0 l) := Lib.hid (fun W hb => HE.out.keep (HBV.out.trans (hb.mono HBV.out.size)))
      have FX : Hid (∀ W, Below v11.heap.size v11 W → W.cell? ⟨w.heap.size, 0, none⟩ = some (.string x.key) ∧ W.cell? ⟨w.heap.size, 1, none⟩ = some (.string x.vl) ∧ W.cell? ⟨w.heap.size, 2, none⟩ = some (.int .i64 x.ov) ∧ W.cell? ⟨w.heap.size, 3, none⟩ = some (.int .i64 x.sz)) := Lib.hid (fun W hb => HXB.out W (HBV.out.trans (hb.mono HBV.out.size)))
      have HB : Hid (Below v11.heap.size v11 v11) := Lib.hid (Below.refl _ _)
      go_wp2_with fail
      refine (risesI_any (c := c0) (FE.out _ HB.out).itms (fun e he => (HE.out.ok e he).2.2.1) hnn).mono ?_
      rintro e v12 ⟨r, rfl, hris, mq, hmq⟩
      have hb9 : Below v11.heap.size v11 v12 := by rw [hmq]; exact below_drewN (Below.refl _ _) _
      have HB := Lib.hid hb9
      clear hb9 hmq
      cases r with
      | false =>
        clear hris
        go_wp2_with fail
        go_roundw
        case rel => exact ⟨k + 1, o3, by omega, by go_num, Lib.hid (HB3.out.below HB.out)⟩
        case measure => simp [intOf]; omega
      | true =>
        have HRs := Lib.hid (hris.1 rfl)
        clear hris
        go_wp2_with fail
        refine (findI_any (c := d1) (FM.out _ HB.out).itms hnn key).mono ?_
        rintro e v13 ⟨kf, isf, rfl, hkf, hb⟩
        have HKf := Lib.hid hkf
        have HB := Lib.hid (HB.out.trans (hb.mono HB.out.size))
        clear hkf hb
        go_wp2_with fail
        refine (rfindI_any (c := c0) (FE.out _ HB.out).itms HE.out.ok hnn key (by omega)).mono ?_
        rintro e v14 ⟨kg, isg, rfl, hkg, hb⟩
        obtain ⟨rfl, rfl⟩ : kg = kf ∧ isg = isf := findI_uniq HRs.out HKf.out hkg
        have HB := Lib.hid (HB.out.trans (hb.mono HB.out.size))
        clear hkg hb
        obtain ⟨x0, x1, x2, x3⟩ := FX.out _ HB.out
        have HSet := Lib.hid (setI_any (c := d1) (FM.out _ HB.out).itms (fun h => by cases h) (by omega) x)
        unfold Itm.agg at HSet
        go_wp2_with fail
        refine HSet.out.mono ?_
        rintro e v15 ⟨ka, isa, NA, aoA, cA, hka, hNA, rfl, hoA, hb⟩
        have HKa := Lib.hid hka
        have HNA := Lib.hid hNA
        have HOA := Lib.hid (own_monoK hoA HB.out.size)
        have HB := Lib.hid (HB.out.trans (hb.mono HB.out.size))
        have HNAl : Hid (NA ≤ 101) := Lib.hid (by rw [hNA, setI_len hka]; split <;> omega)
        clear hka hNA hoA hb HSet x0 x1 x2 x3
        go_wp2_with fail
        refine (delF_any (c := d1) (FM.out _ HB.out).itms (fun h => by cases h) (by omega) key).mono ?_
        rintro e v16 ⟨kc, isc, NC, aoC, cC, hkc, hNC, rfl, hoC, hb⟩
        have HKc := Lib.hid hkc
        have HNC := Lib.hid hNC
        have HAC := Lib.hid (apart_of HOA.out hoC (Nat.le_refl _)).1
        have HOC := Lib.hid (own_monoK hoC HB.out.size)
        have HOA := Lib.hid (own_below HOA.out hb)
        have HB := Lib.hid (HB.out.trans (hb.mono HB.out.size))
        have HNCl : Hid (NC ≤ 101) := Lib.hid (by rw [hNC, takeI_len hkc]; split <;> omega)
        clear hkc hNC hoC hb
        go_wp2_with fail
        refine (HSp.out _ g1 d1 (FM.out _ HB.out) hd1 hd1').mono ?_
        rintro e v17 ⟨aoY, cY, aoZ, cZ, rfl, hoY, hoZ, hb, hap⟩
        have HAY := Lib.hid (apart_of HOA.out hoY (Nat.le_refl _)).1
        have HAZ := Lib.hid (apart_of HOA.out hoZ (Nat.le_refl _)).1
        have HCY := Lib.hid (apart_of HOC.out hoY (Nat.le_refl _)).1
        have HCZ := Lib.hid (apart_of HOC.out hoZ (Nat.le_refl _)).1
        have HAp := Lib.hid hap
        have HOY := Lib.hid (own_monoK hoY HB.out.size)
        have HOZ := Lib.hid (own_monoK hoZ HB.out.size)
        have HOA := Lib.hid (own_below HOA.out hb)
        have HOC := Lib.hid (own_below HOC.out hb)
        have HB := Lib.hid (HB.out.trans (hb.mono HB.out.size))
        clear hb hoY hoZ hap
        go_wp2_with fail
        refine (HSr.out _ _ c0 (HMk.out _ _ (FE.out _ HB.out).itms) hc0 (by omega) HE.out.nil_).mono ?_
        rintro e v18 ⟨aoP, cP, aoQ, cQ, rfl, hoP, hoQ, hb⟩
        have HOP := Lib.hid (own_monoK hoP HB.out.size)
        have HOQ := Lib.hid (own_monoK hoQ HB.out.size)
        have HOA := Lib.hid (own_below HOA.out hb)
        have HOC := Lib.hid (own_below HOC.out hb)
        have HOY := Lib.hid (own_below HOY.out hb)
        have HOZ := Lib.hid (own_below HOZ.out hb)
        have HB := Lib.hid (HB.out.trans (hb.mono HB.out.size))
        clear hb hoP hoQ
        have hwv : w0.heap.size ≤ v11.heap.size := HBV.out.size
        -- tags
        obtain ⟨o4, ho4⟩ : ∃ o4, o4 = tagRow (tagRow (tagRow (retag o3 v11.heap.size (77, 0, 0)) (.slice aoC NC cC) 1) (.slice aoY k1 cY) 2) (.slice aoZ k2 cZ) 3 := ⟨_, rfl⟩
        have tA : Tagged o4 v18.heap.size (77, 0, 0) (.slice aoA NA cA) := by
          rw [ho4]
          exact tagRow_other (tagRow_other (tagRow_other (retag_own HOA.out) HAC.out) HAY.out) HAZ.out
        have tC : Tagged o4 v18.heap.size (77, 1, 0) (.slice aoC NC cC) := by
          rw [ho4]
          exact tagRow_other (tagRow_other (tagRow_own _ _ _ _) HCY.out) HCZ.out
        have tY : Tagged o4 v18.heap.size (77, 2, 0) (.slice aoY k1 cY) := by
          rw [ho4]
          exact tagRow_other (tagRow_own _ _ _ _) HAp.out
        have tZ : Tagged o4 v18.heap.size (77, 3, 0) (.slice aoZ k2 cZ) := by
          rw [ho4]
          exact tagRow_own _ _ _ _
        have hag : Agree o3 o4 v11.heap.size := by
          rw [ho4]
          exact (((retag_agree o3 v11.heap.size (77, 0, 0)).trans (tagRow_agree (fun g hg => by have := (HOC.out.lt g hg).1; omega)) (Nat.le_refl _)).trans (tagRow_agree (fun g hg => by have := (HOY.out.lt g hg).1; omega)) (Nat.le_refl _)).trans (tagRow_agree (fun g hg => by have := (HOZ.out.lt g hg).1; omega)) (Nat.le_refl _)
        have hns : ∀ g, v11.heap.size ≤ g → ¬ SS (o4 g) := fun g hg => by
          rw [ho4]
          exact tagRow_ns (tagRow_ns (tagRow_ns (by rw [retag_ss hg]; exact not_ss77 0)))
        have HBs := Lib.hid ((HB3.out.agree hag).below HB.out)
        have PA : Hid (Pend v18 w0.heap.size o4 0 133 4 (.slice aoA NA cA) NA (itmCells (setI l ka isa x))) := Lib.hid ⟨own_monoK HOA.out hwv, tA⟩
        have PC : Hid (Pend v18 w0.heap.size o4 1 133 4 (.slice aoC NC cC) NC (itmCells (takeI l kc isc))) := Lib.hid ⟨own_monoK HOC.out hwv, tC⟩
        have PY : Hid (Pend v18 w0.heap.size o4 2 133 4 (.slice aoY k1 cY) k1 (itmCells l1)) := Lib.hid ⟨own_monoK HOY.out hwv, tY⟩
        have PZ : Hid (Pend v18 w0.heap.size o4 3 133 4 (.slice aoZ k2 cZ) k2 (itmCells l2)) := Lib.hid ⟨own_monoK HOZ.out hwv, tZ⟩
        have KP1 : Hid (Kp wr.heap.size v10 v18 o4) := Lib.hid ((KP1.out.agree hag KP1.out.size).below HB.out)
        have KP2 : Hid (Kp v11.heap.size v18 v18 o4) := Lib.hid ⟨Nat.le_refl _, fun _ _ _ => rfl, fun g hg _ => hns g hg⟩
        have HAdd := Lib.hid (HBs.out.addT PA.out.own HNA.out.symm (by have := HNAl.out; omega) PA.out.tag)
        clear ho4 tA tC tY tZ hag hns HAC HAY HAZ HCY HCZ HAp HBs PA FM FE FX HM1
        go_wp2_with fail
        refine HAdd.out.mono ?_
        rintro e v19 ⟨rfl, o5, B5, U5, T5⟩
        have PC := Lib.hid (PC.out.step U5 T5 (by decide))
        have PY := Lib.hid (PY.out.step U5 T5 (by decide))
        have PZ := Lib.hid (PZ.out.step U5 T5 (by decide))
        have KP1 := Lib.hid (KP1.out.step U5 T5)
        have KP2 := Lib.hid (KP2.out.step U5 T5)
        have HAdd := Lib.hid (B5.addT PC.out.own HNC.out.symm (by have := HNCl.out; omega) PC.out.tag)
        clear B5 U5 T5 PC
        go_wp2_with fail
        refine HAdd.out.mono ?_
        rintro e v20 ⟨rfl, o6, B6, U6, T6⟩
        have PY := Lib.hid (PY.out.step U6 T6 (by decide))
        have PZ := Lib.hid (PZ.out.step U6 T6 (by decide))
        have KP1 := Lib.hid (KP1.out.step U6 T6)
        have KP2 := Lib.hid (KP2.out.step U6 T6)
        have HAdd := Lib.hid (B6.addT PY.out.own hl1 (by omega) PY.out.tag)
        clear B6 U6 T6 PY
        go_wp2_with fail
        refine HAdd.out.mono ?_
        rintro e v21 ⟨rfl, o7, B7, U7, T7⟩
        have PZ := Lib.hid (PZ.out.step U7 T7 (by decide))
        have KP1 := Lib.hid (KP1.out.step U7 T7)
        have KP2 := Lib.hid (KP2.out.step U7 T7)
        have HAdd := Lib.hid (B7.addT PZ.out.own hl2 (by omega) PZ.out.tag)
        clear B7 U7 T7 PZ
        go_wp2_with fail
        refine HAdd.out.mono ?_
        rintro e v22 ⟨rfl, o8, B8, U8, T8⟩
        have P1 := (KP1.out.step U8 T8).pres
        have P2 := (KP2.out.step U8 T8).pres
        have HB8 := Lib.hid B8
        have HBel := Lib.hid B8.bel
        have HM1 := Lib.hid (HL1.out.pres P1 (Nat.le_refl _))
        have HOA := Lib.hid (own_pres HOA.out P2 (Nat.le_refl _))
        have HOC := Lib.hid (own_pres HOC.out P2 (Nat.le_refl _))
        have HOY := Lib.hid (own_pres HOY.out P2 (Nat.le_refl _))
        have HOZ := Lib.hid (own_pres HOZ.out P2 (Nat.le_refl _))
        have HOP := Lib.hid (own_pres HOP.out P2 (Nat.le_refl _))
        have HOQ := Lib.hid (own_pres HOQ.out P2 (Nat.le_refl _))
        clear B8 U8 T8 P1 P2 KP1 KP2 HAdd HB
        have FE : Hid (∀ W, Below v22.heap.size v22 W → ItmsIn W ao0 n0 c0 l) := Lib.hid (fun W hb => HE.out.keep (HBel.out.trans (hb.mono HBel.out.size)))
        have HRS : Hid (∀ W, Below v22.heap.size v22 W → Calls Tryz.prog 111 #[.slice ao0 n0 c0, .agg #[.string x.key, .string x.vl, .int .i64 x.ov, .int .i64 x.sz]] W (SetRes l x W)) := Lib.hid (fun W hb => rsetI_any HE.out (by omega) (HBel.out.trans (hb.mono HBel.out.size)) x HXo.out)
        have HRD : Hid (∀ W, Below v22.heap.size v22 W → Calls Tryz.prog 112 #[.slice ao0 n0 c0, .string key] W (DelRes l key W)) := Lib.hid (fun W hb => rdelI_any HE.out (by omega) (HBel.out.trans (hb.mono HBel.out.size)) key (by omega))
        have HB : Hid (Below v22.heap.size v22 v22) := Lib.hid (Below.refl _ _)
        obtain ⟨x0, x1, x2, x3⟩ := HXB.out _ HBel.out
        go_wp2_with fail
        refine (HRS.out _ HB.out).mono ?_
        rintro e v23 ⟨ks, iss, NS, aoS, cS, hks, hNS, rfl, hoS, hb⟩
        obtain ⟨rfl, rfl⟩ : ks = ka ∧ iss = isa := findI_uniq HRs.out HKa.out hks
        obtain rfl : NS = NA := by rw [hNS, HNA.out]
        have HOS := Lib.hid hoS
        have HB := Lib.hid (HB.out.trans (hb.mono HB.out.size))
        clear hb hoS hks hNS x0 x1 x2 x3
        go_wp2_with fail
        refine (sameI_yes (c := cA) (d := cS) (itms_own (own_below HOA.out HB.out)) (itms_own HOS.out) (by have := HNAl.out; omega)).mono ?_
        rintro e v24 ⟨rfl, hb⟩
        have HB := Lib.hid (HB.out.trans (hb.mono HB.out.size))
        clear hb HOS
        go_wp2_with fail
        refine (HRD.out _ HB.out).mono ?_
        rintro e v25 ⟨kt, ist, NT, aoT, cT, hkt, hNT, rfl, hoT, hb⟩
        obtain ⟨rfl, rfl⟩ : kt = kc ∧ ist = isc := findI_uniq HRs.out HKc.out hkt
        obtain rfl : NT = NC := by rw [hNT, HNC.out]
        have HOT := Lib.hid hoT
        have HB := Lib.hid (HB.out.trans (hb.mono HB.out.size))
        clear hb hoT hkt hNT
        go_wp2_with fail
        refine (sameI_yes (c := cC) (d := cT) (itms_own (own_below HOC.out HB.out)) (itms_own HOT.out) (by have := HNCl.out; omega)).mono ?_
        rintro e v26 ⟨rfl, hb⟩
        have HB := Lib.hid (HB.out.trans (hb.mono HB.out.size))
        clear hb HOT
        go_wp2_with fail
        refine (sameI_yes (c := cY) (d := cP) (itms_own (own_below HOY.out HB.out)) (itms_own (own_below HOP.out HB.out)) (by omega)).mono ?_
        rintro e v27 ⟨rfl, hb⟩
        have HB := Lib.hid (HB.out.trans (hb.mono HB.out.size))
        clear hb
        go_wp2_with fail
        refine (sameI_yes (c := cZ) (d := cQ) (itms_own (own_below HOZ.out HB.out)) (itms_own (own_below HOQ.out HB.out)) (by omega)).mono ?_
        rintro e v28 ⟨rfl, hb⟩
        have HB := Lib.hid (HB.out.trans (hb.mono HB.out.size))
        clear hb
        go_wp2_with fail
        refine (staysT_any (d := c0) (HM1.out.below HB.out) (FE.out _ HB.out).itms (by omega)).mono ?_
        rintro e v29 ⟨rfl, hb⟩
        have HB := Lib.hid (HB.out.trans (hb.mono HB.out.size))
        clear hb
        go_wp2_with fail
        go_roundw
        case rel => exact ⟨k + 1, o8, by omega, by go_num, Lib.hid (HB8.out.below HB.out)⟩
        case measure => simp [intOf]; omega
    · obtain rfl : k = 2 := by omega
      have HAl := Lib.hid (aliveI_any wr)
      go_wp2_with fail
      refine HAl.out.mono ?_
      rintro e v1 ⟨rfl, hb1⟩
      have HAp := Lib.hid (HK.out.below hb1).apart
      go_wp2_with fail
      refine HAp.out.mono ?_
      rintro e v2 ⟨rfl, hb2⟩
      go_wp2_with fail
      go_ret
      exact ⟨rfl, HFin.out _ hb2⟩
end Go.Proofs.YtmdidmllaldbaaaGreat
