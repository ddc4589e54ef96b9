/- The walk of arboretumlaw9.BranchTells. -/
import Derived.Test.YtmdidmllaldbaaaGreatBsC
import Derived.Test.YtmdidmllaldbaaaGreatBsPend
import Derived.Test.YtmdidmllaldbaaaGreatBranchTellsP
import Derived.Test.YtmdidmllaldbaaaGreatRefCa
import Derived.Test.YtmdidmllaldbaaaGreatLentC
import Derived.Test.YtmdidmllaldbaaaGreatAliveC9
import Derived.Test.YtmdidmllaldbaaaGreatSmallC
import Derived.Laws.StructEq
namespace Go.Proofs.YtmdidmllaldbaaaGreat
open Go.RowKit
set_option linter.unusedVariables false
theorem ChdsIn.keep {w W : World} {ao : Option Addr} {n c : Nat} {l : List Chd} (h : ChdsIn w ao n c l) (hb : Below w.heap.size w W) : ChdsIn W ao n c l :=
  ⟨(h.chds.below hb).mono hb.size, h.le, h.nil_, h.sz, h.ok⟩
theorem LentC.pres {w W : World} {N B g n c : Nat} {l : List Chd} (h : LentC w B g n c l) (hp : Pres N w W) (hN : N ≤ B) : LentC W B g n c l := ⟨h.1, h.2.1, own_pres h.2.2 hp hN⟩
theorem getC_len (b : List UInt8) : (getC b).1.length ≤ b.length := by
  unfold getC
  split
  · rename_i h
    have h1 := layB_ge (getGo (b.length + 1) (b, 0) []).1
    have h2 : putC (getGo (b.length + 1) (b, 0) []).1 = (b, 0) := h.2
    have h3 := putC_good (l := (getGo (b.length + 1) (b, 0) []).1) (by rw [h2])
    have h4 := h3.2.2.2.1
    rw [h2] at h4
    have h5 : layB (getGo (b.length + 1) (b, 0) []).1 = b := by injection h4 with h4; exact h4.symm
    rw [h5] at h1
    exact h1
  · exact Nat.zero_le _
set_option maxRecDepth 100000 in
set_option maxHeartbeats 16000000 in
theorem walk_BranchTells {w : World} (ao0 : Option Addr) (n0 c0 : Nat) (z0 : ∃ l, ChdsIn w ao0 n0 c0 l) (ao1 : Option Addr) (n1 c1 : Nat) (z1 : ∃ l, ChdsIn w ao1 n1 c1 l) (s : ByteArray) (hs : s.size ≤ maxLen) (key : ByteArray) (hkey : key.size ≤ maxLen) (i : Int) (hi : (Lit.int .i64 i).wf = true) :
    Calls Tryz.prog 4 #[.slice ao0 n0 c0, .slice ao1 n1 c1, .string s, .string key, .int .i64 i] w fun e w' => e = .returned (.bool true) ∧ Below w.heap.size w w' := by
  obtain ⟨l, z0⟩ := z0
  obtain ⟨xs, z1⟩ := z1
  have hiw := i64_wfC hi
  unfold maxLen at hs hkey
  have hnn : n0 ≤ 140737488351232 := by have := z0.sz; have := z0.le; omega
  have hmm : n1 ≤ 140737488351232 := by have := z1.sz; have := z1.le; omega
  have HE := Lib.hid z0
  have HI := Lib.hid z1
  clear z0 z1 hi
  go_enter Tryz.func4, Tryz.ntmps4
  go_wp2_with fail
  refine (smallC_any HE.out).mono ?_
  rintro e w1 ⟨r1, rfl, hr1, hb1⟩
  have HB1 := Lib.hid hb1
  clear hb1
  cases r1 with
  | false =>
    clear hr1
    go_wp2_with fail
    refine (aliveC9_any _).mono ?_
    rintro e w2 ⟨rfl, hb2⟩
    go_wp2_with fail
    go_ret
    exact ⟨rfl, HB1.out.trans (hb2.mono HB1.out.size)⟩
  | true =>
  obtain ⟨h100, hsum⟩ := hr1 rfl
  go_wp2_with fail
  refine (smallC_any (HI.out.keep HB1.out)).mono ?_
  rintro e w2 ⟨r2, rfl, hr2, hb2⟩
  have HB2 := Lib.hid (HB1.out.trans (hb2.mono HB1.out.size))
  clear hb2
  cases r2 with
  | false =>
    clear hr2
    go_wp2_with fail
    refine (aliveC9_any _).mono ?_
    rintro e w3 ⟨rfl, hb3⟩
    go_wp2_with fail
    go_ret
    exact ⟨rfl, HB2.out.trans (hb3.mono HB2.out.size)⟩
  | true =>
  obtain ⟨h100', hsum'⟩ := hr2 rfl
  clear hr1 hr2
  by_cases h3000 : 3000 < s.size
  · go_wp2_with fail
    refine (aliveC9_any _).mono ?_
    rintro e w3 ⟨rfl, hb3⟩
    go_wp2_with fail
    go_ret
    exact ⟨rfl, HB2.out.trans (hb3.mono HB2.out.size)⟩
  by_cases h3001 : 3000 < key.size
  · go_wp2_with fail
    refine (aliveC9_any _).mono ?_
    rintro e w3 ⟨rfl, hb3⟩
    go_wp2_with fail
    go_ret
    exact ⟨rfl, HB2.out.trans (hb3.mono HB2.out.size)⟩
  have HSt := Lib.hid (BsC.start HB2.out)
  have hll : l.length = n0 := HE.out.chds.1
  have hxl : xs.length = n1 := HI.out.chds.1
  have hc0 := HE.out.le
  have hc0' : c0 ≤ 140737488351232 := by have := HE.out.sz; omega
  have hc1 := HI.out.le
  have HMk : Hid (∀ (W : World) (ao : Option Addr), Chds W W.heap.size ao n0 l → ChdsOk W ao n0 l) := Lib.hid (fun W ao h => ⟨h, HE.out.ok, by omega, by change (l.map (·.key.size)).sum ≤ 9000 at hsum; omega⟩)
  obtain ⟨RL, NR, hRL, hNR, HRp, HRr⟩ := replace_both l xs n0 n1 i hll hxl (by omega) (by omega) hiw
  have HRp := Lib.hid HRp
  have HRr := Lib.hid HRr
  obtain ⟨l1, l2, k1, k2, hl1, hl2, hk1, hk2, HSp, HSr⟩ := split_both l n0 hll (by omega)
  have HSp := Lib.hid HSp
  have HSr := Lib.hid HSr
  obtain ⟨pt, hpt⟩ : ∃ pt, pt = putC l := ⟨_, rfl⟩
  obtain ⟨gt, hgt⟩ : ∃ gt, gt = getC s.data.toList := ⟨_, rfl⟩
  have hgl : gt.1.length ≤ 3000 := by rw [hgt]; have := getC_len s.data.toList; have h2 : s.data.toList.length = s.size := rfl; omega
  have HGp : Hid (∀ W, Calls Tryz.prog 38 #[.string s] W fun e w' => ∃ ao N c, e = .returned (.tuple #[.slice ao N c, .int .i64 gt.2]) ∧ w'.ownsRow W.heap.size 192 2 (.slice ao N c) N (chdCells gt.1) ∧ gt.1.length = N ∧ Below W.heap.size W w') := Lib.hid (fun W => by rw [hgt]; exact getC_any s W (by omega))
  have HGr : Hid (∀ W, Calls Tryz.prog 39 #[.string s] W fun e w' => ∃ ao N c, e = .returned (.tuple #[.slice ao N c, .int .i64 gt.2]) ∧ w'.ownsRow W.heap.size 192 2 (.slice ao N c) N (chdCells gt.1) ∧ gt.1.length = N ∧ Below W.heap.size W w') := Lib.hid (fun W => by rw [hgt]; exact rgetC_any s W (by omega))
  have HPp : Hid (∀ (W : World) (ao : Option Addr) (c : Nat), ChdsOk W ao n0 l → Calls Tryz.prog 36 #[.slice ao n0 c] W fun e w' => e = .returned (.tuple #[.string ⟨pt.1.toArray⟩, .int .i64 pt.2]) ∧ Below W.heap.size W w') := Lib.hid (fun W ao c h => by rw [hpt]; exact putC_any h)
  have HPr : Hid (∀ (W : World) (ao : Option Addr) (c : Nat), ChdsOk W ao n0 l → Calls Tryz.prog 37 #[.slice ao n0 c] W fun e w' => e = .returned (.tuple #[.string ⟨pt.1.toArray⟩, .int .i64 pt.2]) ∧ Below W.heap.size W w') := Lib.hid (fun W ao c h => by rw [hpt]; exact rputC_any h)
  have HFi : Hid (∀ (W : World) (ao : Option Addr) (c : Nat), ChdsOk W ao n0 l → Calls Tryz.prog 47 #[.slice ao n0 c] W fun e w' => e = .returned (.bool (pt.2 == 0)) ∧ Below W.heap.size W w') := Lib.hid (fun W ao c h => by rw [hpt]; exact fitsC_any h)
  clear hpt hgt hsum hsum'
  go_wp2_with fail
  go_loopw [12] (fun x wr => ∃ (k : Nat) (o : Nat → Tag), k ≤ 2 ∧ x = .int .i64 k ∧ Hid (BsC w wr w2.heap.size o)) (fun x _ => 2 - (intOf x).toNat)
  case atStart => exact ⟨0, _, by omega, rfl, HSt⟩
  case round =>
    obtain ⟨k, o, hk, rfl, HK⟩ := hrel
    have HBW := Lib.hid HK.out.bel
    by_cases hlt : k < 2
    · have hx1 : (k : Int) < 2 := by omega
      go_wp2_with fail
      refine (lentC_any (HE.out.keep HBW.out) (by omega)).mono ?_
      rintro e v1 ⟨g1, d1, rfl, hL1, hb1⟩
      have HL1 := Lib.hid hL1
      have HP1 := Lib.hid hb1
      clear hL1 hb1
      go_wp2_with fail
      refine (lentC_any (HI.out.keep (HBW.out.trans (HP1.out.mono HBW.out.size))) (by omega)).mono ?_
      rintro e v2 ⟨g2, d2, rfl, hL2, hb2⟩
      have HL2 := Lib.hid hL2
      have HL1 := Lib.hid (HL1.out.below hb2)
      have HW2 : Hid (Below wr.heap.size wr v2) := Lib.hid (HP1.out.trans (hb2.mono HP1.out.size))
      have hv1 : wr.heap.size ≤ v1.heap.size := HP1.out.size
      clear hL2 hb2 HP1
      have hd1 : n0 ≤ d1 := by have := HL1.out.1; omega
      have hd1' := HL1.out.cap
      have hd2 : n1 ≤ d2 := by have := HL2.out.1; omega
      have FM : Hid (∀ W, Below v2.heap.size v2 W → ChdsOk W (some ⟨g1, 0, none⟩) n0 l) := Lib.hid (fun W hb => HMk.out _ _ ((HL1.out.below hb).list hll))
      have FN : Hid (∀ W, Below v2.heap.size v2 W → ChSrc W W.heap.size (some ⟨g2, 0, none⟩) n1 d2 xs) := Lib.hid (fun W hb => ⟨(HL2.out.below hb).list hxl, fun h => by cases h⟩)
      have FL : Hid (∀ W, Below v2.heap.size v2 W → ChdsOk W ao0 n0 l) := Lib.hid (fun W hb => HMk.out _ _ (HE.out.keep (HBW.out.trans ((HW2.out.trans (hb.mono HW2.out.size)).mono HBW.out.size))).chds)
      have HB : Hid (Below v2.heap.size v2 v2) := Lib.hid (Below.refl _ _)
      go_wp2_with fail
      refine (HPp.out _ _ d1 (FM.out _ HB.out)).mono ?_
      rintro e v3 ⟨rfl, hb⟩
      have HB := Lib.hid (HB.out.trans (hb.mono HB.out.size))
      clear hb
      go_wp2_with fail
      refine (HPr.out _ _ c0 (FL.out _ HB.out)).mono ?_
      rintro e v4 ⟨rfl, hb⟩
      have HB := Lib.hid (HB.out.trans (hb.mono HB.out.size))
      clear hb
      go_wp2_with fail
      refine (HGp.out _).mono ?_
      rintro e v5 ⟨aoU, NU, cU, rfl, hoU, hlU, hb⟩
      have HOU := Lib.hid (own_monoK hoU (Nat.le_trans HW2.out.size HB.out.size))
      have HB := Lib.hid (HB.out.trans (hb.mono HB.out.size))
      clear hoU
      clear hb
      go_wp2_with fail
      refine (HGr.out _).mono ?_
      rintro e v6 ⟨aoV, NV, cV, rfl, hoV, hlV, hb⟩
      obtain rfl : NV = NU := by omega
      have HOV := Lib.hid (own_monoK hoV (Nat.le_trans HW2.out.size HB.out.size))
      have HOU := Lib.hid (own_below HOU.out hb)
      have HB := Lib.hid (HB.out.trans (hb.mono HB.out.size))
      have HSv6 : Hid (v2.heap.size ≤ v6.heap.size) := Lib.hid HB.out.size
      clear hb hoV
      go_wp2_with fail
      refine (HRp.out _ _ _ d1 d2 ⟨(FM.out _ HB.out).chds, fun h => by cases h⟩ (FN.out _ HB.out) hd1 hd1').mono ?_
      rintro e v7 ⟨aoR, cR, rfl, hoR, hb⟩
      have HSz6 : Hid (wr.heap.size ≤ v6.heap.size) := Lib.hid (Nat.le_trans HW2.out.size HSv6.out)
      have HUR := Lib.hid (apart_of HOU.out hoR (Nat.le_refl _)).1
      have HOR := Lib.hid hoR
      have HOU := Lib.hid (own_below HOU.out hb)
      have HOV := Lib.hid (own_below HOV.out hb)
      have HB7 := Lib.hid hb
      have HB := Lib.hid (HB.out.trans (hb.mono HB.out.size))
      clear hb hoR
      go_wp2_with fail
      refine (HSp.out _ g1 d1 (FM.out _ HB.out) hd1 hd1').mono ?_
      rintro e v8 ⟨aoY, cY, aoZ, cZ, rfl, hoY, hoZ, hb, hap⟩
      have HUY := Lib.hid (apart_of HOU.out hoY (Nat.le_refl _)).1
      have HUZ := Lib.hid (apart_of HOU.out hoZ (Nat.le_refl _)).1
      have HRY := Lib.hid (apart_of HOR.out hoY (Nat.le_refl _)).1
      have HRZ := Lib.hid (apart_of HOR.out hoZ (Nat.le_refl _)).1
      have HOY := Lib.hid hoY
      have HOZ := Lib.hid hoZ
      have HAp := Lib.hid hap
      have HB8 := Lib.hid hb
      have HOR := Lib.hid (own_below HOR.out hb)
      have HOU := Lib.hid (own_below HOU.out hb)
      have HOV := Lib.hid (own_below HOV.out hb)
      have HB := Lib.hid (HB.out.trans (hb.mono HB.out.size))
      clear hb hoY hoZ hap
      go_wp2_with fail
      refine (HSr.out _ _ c0 (FL.out _ HB.out) hc0 (by omega) HE.out.nil_).mono ?_
      rintro e v9 ⟨aoP, cP, aoQ, cQ, rfl, hoP, hoQ, hb⟩
      have hz2 : wr.heap.size ≤ v2.heap.size := HW2.out.size
      have hz8 : v2.heap.size ≤ v8.heap.size := HB.out.size
      have HOP := Lib.hid (own_monoK hoP (Nat.le_trans hz2 hz8))
      have HOQ := Lib.hid (own_monoK hoQ (Nat.le_trans hz2 hz8))
      have HOY := Lib.hid (own_below HOY.out hb)
      have HOZ := Lib.hid (own_below HOZ.out hb)
      have HOR := Lib.hid (own_below HOR.out hb)
      have HOU := Lib.hid (own_below HOU.out hb)
      have HOV := Lib.hid (own_below HOV.out hb)
      have HB := Lib.hid (HB.out.trans (hb.mono HB.out.size))
      have y7 : v6.heap.size ≤ v7.heap.size := HB7.out.size
      have y8 : v7.heap.size ≤ v8.heap.size := HB8.out.size
      have y9 : v8.heap.size ≤ v9.heap.size := hb.size
      clear hb hoP hoQ HB7 HB8
      have hz9 : v2.heap.size ≤ v9.heap.size := HB.out.size
      have y6 : wr.heap.size ≤ v6.heap.size := HSz6.out
      have HL1 := Lib.hid (HL1.out.below HB.out)
      have HL2 := Lib.hid (HL2.out.below HB.out)
      have BW9 : Below wr.heap.size wr v9 := HW2.out.trans (HB.out.mono HW2.out.size)
      have hww : w.heap.size ≤ wr.heap.size := HBW.out.size
      -- tags
      obtain ⟨o2, ho2⟩ : ∃ o2, o2 = tagRow (tagRow (tagRow (retag o wr.heap.size (77, 0, 0)) (.slice aoR NR cR) 1) (.slice aoY k1 cY) 2) (.slice aoZ k2 cZ) 3 := ⟨_, rfl⟩
      have tU : Tagged o2 v9.heap.size (77, 0, 0) (.slice aoU NV cU) := by
        rw [ho2]
        exact tagRow_other (tagRow_other (tagRow_other (retag_own HOU.out) HUR.out) HUY.out) HUZ.out
      have tR : Tagged o2 v9.heap.size (77, 1, 0) (.slice aoR NR cR) := by
        rw [ho2]
        exact tagRow_other (tagRow_other (tagRow_own _ _ _ _) HRY.out) HRZ.out
      have tY : Tagged o2 v9.heap.size (77, 2, 0) (.slice aoY k1 cY) := by
        rw [ho2]
        exact tagRow_other (tagRow_own _ _ _ _) HAp.out
      have tZ : Tagged o2 v9.heap.size (77, 3, 0) (.slice aoZ k2 cZ) := by
        rw [ho2]
        exact tagRow_own _ _ _ _
      have hag : Agree o o2 wr.heap.size := by
        rw [ho2]
        exact (((retag_agree o wr.heap.size (77, 0, 0)).trans (tagRow_agree (fun g hg => by have := (HOR.out.lt g hg).1; omega)) (Nat.le_refl _)).trans (tagRow_agree (fun g hg => by have := (HOY.out.lt g hg).1; omega)) (Nat.le_refl _)).trans (tagRow_agree (fun g hg => by have := (HOZ.out.lt g hg).1; omega)) (Nat.le_refl _)
      have hns : ∀ g, wr.heap.size ≤ g → ¬ SS (o2 g) := fun g hg => by
        rw [ho2]
        exact tagRow_ns (tagRow_ns (tagRow_ns (by rw [retag_ss hg]; exact not_ss77 0)))
      have HBs := Lib.hid ((HK.out.agree hag).below BW9)
      have PU : Hid (Pend v9 w.heap.size o2 0 192 2 (.slice aoU NV cU) NV (chdCells gt.1)) := Lib.hid ⟨own_monoK HOU.out hww, tU⟩
      have PR : Hid (Pend v9 w.heap.size o2 1 192 2 (.slice aoR NR cR) NR (chdCells RL)) := Lib.hid ⟨own_monoK HOR.out (by omega), tR⟩
      have PY : Hid (Pend v9 w.heap.size o2 2 192 2 (.slice aoY k1 cY) k1 (chdCells l1)) := Lib.hid ⟨own_monoK HOY.out (by omega), tY⟩
      have PZ : Hid (Pend v9 w.heap.size o2 3 192 2 (.slice aoZ k2 cZ) k2 (chdCells l2)) := Lib.hid ⟨own_monoK HOZ.out (by omega), tZ⟩
      have KP : Hid (Kp wr.heap.size v9 v9 o2) := Lib.hid ⟨Nat.le_refl _, fun _ _ _ => rfl, fun g hg _ => hns g hg⟩
      have HAdd := Lib.hid (HBs.out.addC PU.out.own hlU (by omega) PU.out.tag)
      clear ho2 tU tR tY tZ hag hns BW9 HUR HUY HUZ HRY HRZ HAp HBs PU
      go_wp2_with fail
      refine HAdd.out.mono ?_
      rintro e v10 ⟨rfl, o3, B3, U3, T3⟩
      have PR := Lib.hid (PR.out.step U3 T3 (by decide))
      have PY := Lib.hid (PY.out.step U3 T3 (by decide))
      have PZ := Lib.hid (PZ.out.step U3 T3 (by decide))
      have KP := Lib.hid (KP.out.step U3 T3)
      have HAdd := Lib.hid (B3.addC PR.out.own hRL (by omega) PR.out.tag)
      clear B3 U3 T3 PR
      go_wp2_with fail
      refine HAdd.out.mono ?_
      rintro e v11 ⟨rfl, o4, B4, U4, T4⟩
      have PY := Lib.hid (PY.out.step U4 T4 (by decide))
      have PZ := Lib.hid (PZ.out.step U4 T4 (by decide))
      have KP := Lib.hid (KP.out.step U4 T4)
      have HAdd := Lib.hid (B4.addC PY.out.own hl1 (by omega) PY.out.tag)
      clear B4 U4 T4 PY
      go_wp2_with fail
      refine HAdd.out.mono ?_
      rintro e v12 ⟨rfl, o5, B5, U5, T5⟩
      have PZ := Lib.hid (PZ.out.step U5 T5 (by decide))
      have KP := Lib.hid (KP.out.step U5 T5)
      have HAdd := Lib.hid (B5.addC PZ.out.own hl2 (by omega) PZ.out.tag)
      clear B5 U5 T5 PZ
      go_wp2_with fail
      refine HAdd.out.mono ?_
      rintro e v13 ⟨rfl, o6, B6, U6, T6⟩
      have P := (KP.out.step U6 T6).pres
      have HB6 := Lib.hid B6
      have HBel := Lib.hid B6.bel
      have HL1 := Lib.hid (HL1.out.pres P (Nat.le_refl _))
      have HL2 := Lib.hid (HL2.out.pres P hv1)
      have HOU := Lib.hid (own_pres HOU.out P (Nat.le_refl _))
      have HOV := Lib.hid (own_pres HOV.out P (Nat.le_refl _))
      have HOR := Lib.hid (own_pres HOR.out P (by omega))
      have HOY := Lib.hid (own_pres HOY.out P (by omega))
      have HOZ := Lib.hid (own_pres HOZ.out P (by omega))
      have HOP := Lib.hid (own_pres HOP.out P (Nat.le_refl _))
      have HOQ := Lib.hid (own_pres HOQ.out P (Nat.le_refl _))
      clear B6 U6 T6 P KP HAdd FM FN FL HB
      have FM : Hid (∀ W, Below v13.heap.size v13 W → ChdsOk W (some ⟨g1, 0, none⟩) n0 l) := Lib.hid (fun W hb => HMk.out _ _ ((HL1.out.below hb).list hll))
      have FE : Hid (∀ W, Below v13.heap.size v13 W → ChdsIn W ao0 n0 c0 l) := Lib.hid (fun W hb => HE.out.keep (HBel.out.trans (hb.mono HBel.out.size)))
      have FI : Hid (∀ W, Below v13.heap.size v13 W → ChdsIn W ao1 n1 c1 xs) := Lib.hid (fun W hb => HI.out.keep (HBel.out.trans (hb.mono HBel.out.size)))
      have FL : Hid (∀ W, Below v13.heap.size v13 W → ChdsOk W ao0 n0 l) := Lib.hid (fun W hb => HMk.out _ _ (FE.out W hb).chds)
      have HB : Hid (Below v13.heap.size v13 v13) := Lib.hid (Below.refl _ _)
      go_wp2_with fail
      refine (sameC_yes (c := cU) (d := cV) (chds_own (own_below HOU.out HB.out)) (chds_own (own_below HOV.out HB.out)) (by omega)).mono ?_
      rintro e x1 ⟨rfl, hb⟩
      have HB := Lib.hid (HB.out.trans (hb.mono HB.out.size))
      clear hb
      go_wp2_with fail
      refine (sizeC_any (c := d1) (FM.out _ HB.out)).mono ?_
      rintro e x2 ⟨rfl, hb⟩
      have HB := Lib.hid (HB.out.trans (hb.mono HB.out.size))
      clear hb
      go_wp2_with fail
      refine (rsizeC_any (c := c0) (FL.out _ HB.out)).mono ?_
      rintro e x3 ⟨rfl, hb⟩
      have HB := Lib.hid (HB.out.trans (hb.mono HB.out.size))
      clear hb
      go_wp2_with fail
      refine (HFi.out _ _ d1 (FM.out _ HB.out)).mono ?_
      rintro e x4 ⟨rfl, hb⟩
      have HB := Lib.hid (HB.out.trans (hb.mono HB.out.size))
      clear hb
      go_wp2_with fail
      refine (HRr.out _ _ _ c0 c1 ⟨(FE.out _ HB.out).chds, HE.out.nil_⟩ ⟨(FI.out _ HB.out).chds, HI.out.nil_⟩ hc0 (by omega)).mono ?_
      rintro e x5 ⟨aoS, cS, rfl, hoS, hb⟩
      have HOS := Lib.hid hoS
      have HB := Lib.hid (HB.out.trans (hb.mono HB.out.size))
      clear hb hoS
      go_wp2_with fail
      refine (sameC_yes (c := cR) (d := cS) (chds_own (own_below HOR.out HB.out)) (chds_own HOS.out) (by omega)).mono ?_
      rintro e x6 ⟨rfl, hb⟩
      have HB := Lib.hid (HB.out.trans (hb.mono HB.out.size))
      clear hb
      go_wp2_with fail
      refine (sameC_yes (c := cY) (d := cP) (chds_own (own_below HOY.out HB.out)) (chds_own (own_below HOP.out HB.out)) (by omega)).mono ?_
      rintro e x7 ⟨rfl, hb⟩
      have HB := Lib.hid (HB.out.trans (hb.mono HB.out.size))
      clear hb
      go_wp2_with fail
      refine (sameC_yes (c := cZ) (d := cQ) (chds_own (own_below HOZ.out HB.out)) (chds_own (own_below HOQ.out HB.out)) (by omega)).mono ?_
      rintro e x8 ⟨rfl, hb⟩
      have HB := Lib.hid (HB.out.trans (hb.mono HB.out.size))
      clear hb
      go_wp2_with fail
      refine (rises_any (c := c0) (FL.out _ HB.out).chds HE.out.ok hnn).mono ?_
      rintro e x9 ⟨r, rfl, hris, mq, hmq⟩
      have hb9 : Below x8.heap.size x8 x9 := by rw [hmq]; exact below_drewN (Below.refl _ _) _
      have HB := Lib.hid (HB.out.trans (hb9.mono HB.out.size))
      clear hb9 hmq
      cases r with
      | true =>
        have HRs := Lib.hid (hris rfl)
        clear hris
        go_wp2_with fail
        refine (find_any (c := d1) (FM.out _ HB.out).chds hnn key).mono ?_
        rintro e x10 ⟨kf, rfl, hkf, rfl⟩
        have HKf := Lib.hid hkf
        clear hkf
        go_wp2_with fail
        refine (rfindC_any (c := c0) (FL.out _ HB.out) key (by omega)).mono ?_
        rintro e x11 ⟨kg, rfl, hkg, hb⟩
        obtain rfl : kg = kf := lastC_find HRs.out (by rw [hll]; exact hkg) HKf.out
        have HB := Lib.hid (HB.out.trans (hb.mono HB.out.size))
        clear hb hkg HKf HRs
        go_wp2_with fail
        refine (staysC_any (d := c0) (HL1.out.below HB.out) (FE.out _ HB.out).chds (by omega)).mono ?_
        rintro e x12 ⟨rfl, hb⟩
        have HB := Lib.hid (HB.out.trans (hb.mono HB.out.size))
        clear hb
        go_wp2_with fail
        refine (staysC_any (d := c1) (HL2.out.below HB.out) (FI.out _ HB.out).chds (by omega)).mono ?_
        rintro e x13 ⟨rfl, hb⟩
        have HB := Lib.hid (HB.out.trans (hb.mono HB.out.size))
        clear hb
        go_wp2_with fail
        go_roundw
        case rel => exact ⟨k + 1, o6, by omega, by go_num, Lib.hid (HB6.out.below HB.out)⟩
        case measure => simp [intOf]; omega
      | false =>
        clear hris
        go_wp2_with fail
        refine (staysC_any (d := c0) (HL1.out.below HB.out) (FE.out _ HB.out).chds (by omega)).mono ?_
        rintro e x12 ⟨rfl, hb⟩
        have HB := Lib.hid (HB.out.trans (hb.mono HB.out.size))
        clear hb
        go_wp2_with fail
        refine (staysC_any (d := c1) (HL2.out.below HB.out) (FI.out _ HB.out).chds (by omega)).mono ?_
        rintro e x13 ⟨rfl, hb⟩
        have HB := Lib.hid (HB.out.trans (hb.mono HB.out.size))
        clear hb
        go_wp2_with fail
        go_roundw
        case rel => exact ⟨k + 1, o6, by omega, by go_num, Lib.hid (HB6.out.below HB.out)⟩
        case measure => simp [intOf]; omega
    · obtain rfl : k = 2 := by omega
      have HAl := Lib.hid (aliveC9_any wr)
      go_wp2_with fail
      refine HAl.out.mono ?_
      rintro e v1 ⟨rfl, hb1⟩
      have HAp := Lib.hid (HK.out.below hb1).apart
      go_wp2_with fail
      refine HAp.out.mono ?_
      rintro e v2 ⟨rfl, hb2⟩
      go_wp2_with fail
      go_ret
      exact ⟨rfl, hb2⟩
end Go.Proofs.YtmdidmllaldbaaaGreat
