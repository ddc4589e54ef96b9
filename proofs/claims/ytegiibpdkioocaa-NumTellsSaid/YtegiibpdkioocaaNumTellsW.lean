/- The walk of arboretumlaw1.NumTells. -/
import Derived.Test.YtegiibpdkioocaaNumTellsP
import Derived.Deep.RegionHeld3
namespace Go.Proofs.Ytegiibpdkioocaa
open Go.ChangeShapes Go.WideShapes Go.ChangeAt Go.RowKit
set_option linter.unusedVariables false
theorem IntsOf.vars_any {W : World} {ao : Option Addr} {n c : Nat} {vs : List Int} (h : IntsOf W ao n vs) (hn : n ≤ 1000) :
    Calls Try.prog 25 #[.slice ao n c] W fun e w' => e = .returned (.string ⟨(vars vs).toArray⟩) ∧ Below W.heap.size W w' := by
  refine nvar_any ao n c vs W h.1 (by omega) (fun k hk => ?_) h.2.1
  obtain ⟨b, o, ha, hb, hc⟩ := h.2.2 (by omega)
  have hkl : k < vs.length := by rw [h.1]; exact hk
  refine ⟨⟨b, o, none⟩, ha, hb, ?_⟩
  rw [add_plain, hc k vs[k] (List.getElem?_eq_getElem hkl)]
  congr 2
  simp [List.getD, List.getElem?_eq_getElem hkl]
theorem IntsOf.rvars {W : World} {ao : Option Addr} {n c : Nat} {vs : List Int} (h : IntsOf W ao n vs) (hn : n ≤ 1000) :
    Calls Try.prog 26 #[.slice ao n c] W fun e w' => e = .returned (.string ⟨(vars vs).toArray⟩) ∧ Below W.heap.size W w' := by
  refine rvars_any ao n c vs W h.1 (by omega) (fun k hk => ?_) h.2.1
  obtain ⟨b, o, ha, hb, hc⟩ := h.2.2 (by omega)
  have hkl : k < vs.length := by rw [h.1]; exact hk
  refine ⟨b, o, ha, hb, ?_⟩
  rw [hc k vs[k] (List.getElem?_eq_getElem hkl)]
  congr 2
  simp [List.getD, List.getElem?_eq_getElem hkl]
set_option maxRecDepth 20000 in
set_option maxHeartbeats 8000000 in
theorem walk_NumTells {w : World} (v : Int) (h0 : (Lit.int .i64 v).wf = true) (n : Int) (h1 : (Lit.int .i64 n).wf = true) (at_ : Int) (h2 : (Lit.int .i64 at_).wf = true) (b : ByteArray) (h3 : b.size ≤ maxLen)
    (ao : Option Addr) (p c : Nat) (h4 : ∃ vs, IntsIn w ao p c vs) (bo : Option Addr) (m d : Nat) (h5 : ∃ ss, TextsIn w bo m d ss) :
    Calls Try.prog 3 #[.int .i64 v, .int .i64 n, .int .i64 at_, .string b, .slice ao p c, .slice bo m d] w fun e w' => e = .returned (.bool true) ∧ Below w.heap.size w w' := by
  obtain ⟨vs, h4⟩ := h4
  obtain ⟨ss, h5⟩ := h5
  have hv := i64_wfN h0
  have hn := i64_wfN h1
  have ha := i64_wfN h2
  clear h0 h1 h2
  have hbb : b.size ≤ 9223372036854775807 := by unfold maxLen at h3; omega
  have hpp : p ≤ 140737488351232 := by have := h4.sz; have := h4.le; omega
  have hmm : m ≤ 140737488351232 := by have := h5.sz; have := h5.le; omega
  have HI := Lib.hid h4
  have HT := Lib.hid h5
  clear h3 h4 h5
  by_cases hb3 : 3000 < b.size
  · go_enter Try.func3, Try.ntmps3
    go_wp2_with fail
    refine (alive_any _).mono ?_
    rintro e w1 ⟨rfl, hb1⟩
    go_wp2_with fail
    go_ret
    exact ⟨rfl, hb1⟩
  by_cases hp3 : 300 < p
  · go_enter Try.func3, Try.ntmps3
    go_wp2_with fail
    refine (alive_any _).mono ?_
    rintro e w1 ⟨rfl, hb1⟩
    go_wp2_with fail
    go_ret
    exact ⟨rfl, hb1⟩
  have hb3' : b.size ≤ 3000 := by omega
  have hp3' : p ≤ 300 := by omega
  clear hb3 hp3 hbb hpp
  obtain ⟨fs, fx, HF⟩ := fix_both v n hv.2
  obtain ⟨uy, ux, HU⟩ := unfix_both b at_ n hb3'
  obtain ⟨ny, nx, HN⟩ := num_both b hb3'
  obtain ⟨ds, HD⟩ := dig_both v hv
  obtain ⟨kb, hkb⟩ : ∃ kb : Bool, kb = decide (0 < n) := ⟨_, rfl⟩
  obtain ⟨bs, HB⟩ := bool_both kb
  have HF := Lib.hid HF
  have HU := Lib.hid HU
  have HN := Lib.hid HN
  have HD := Lib.hid HD
  have HB := Lib.hid HB
  have hdk : decide (0 < n) = kb := hkb.symm
  clear hkb hv hn ha
  go_enter Try.func3, Try.ntmps3
  go_wp2_with fail
  refine (short_any HT.out 100 6000 (by omega) (by omega)).mono ?_
  rintro e w1 ⟨r1, rfl, hr1, hb1⟩
  cases r1 with
  | false =>
    clear hr1
    go_wp2_with fail
    refine (alive_any _).mono ?_
    rintro e w2 ⟨rfl, hb2⟩
    go_wp2_with fail
    go_ret
    exact ⟨rfl, hb1.trans (hb2.mono hb1.size)⟩
  | true =>
  obtain ⟨hm100, hsum⟩ := hr1 rfl
  have hsum' : (ss.map (·.size)).sum ≤ 6000 := by omega
  have hm100' : m ≤ 100 := by omega
  have HSum := Lib.hid hsum'
  clear hr1 hsum hm100 hsum' hmm
  go_wp2_with fail
  refine (HF.out.1 _).mono ?_
  rintro e w2 ⟨rfl, hb2⟩
  have hb := hb1.trans (hb2.mono hb1.size)
  clear hb1 hb2
  go_wp2_with fail
  refine (HF.out.2 _).mono ?_
  rintro e w3 ⟨rfl, hb3⟩
  have hb1 := hb.trans (hb3.mono hb.size)
  clear hb hb3
  go_wp2_with fail
  refine (HU.out.1 _).mono ?_
  rintro e w2 ⟨rfl, hb2⟩
  have hb := hb1.trans (hb2.mono hb1.size)
  clear hb1 hb2
  go_wp2_with fail
  refine (HU.out.2 _).mono ?_
  rintro e w3 ⟨rfl, hb3⟩
  have hb1 := hb.trans (hb3.mono hb.size)
  clear hb hb3
  go_wp2_with fail
  refine (HN.out.1 _).mono ?_
  rintro e w2 ⟨rfl, hb2⟩
  have hb := hb1.trans (hb2.mono hb1.size)
  clear hb1 hb2
  go_wp2_with fail
  refine (HN.out.2 _).mono ?_
  rintro e w3 ⟨rfl, hb3⟩
  have hb1 := hb.trans (hb3.mono hb.size)
  clear hb hb3
  go_wp2_with fail
  refine (lentI_any (HI.out.below hb1) (by omega)).mono ?_
  rintro e w2 ⟨gi, ci, rfl, HLI, hb2⟩
  have hb := hb1.trans (hb2.mono hb1.size)
  have HLI := Lib.hid HLI
  clear hb1 hb2
  go_wp2_with fail
  refine (lentT_any (HT.out.below hb) (by omega)).mono ?_
  rintro e w3 ⟨gt, ct, rfl, HLT, hb3⟩
  have HLI3 := Lib.hid (HLI.out.below hb3)
  have HLT := Lib.hid HLT
  have hb1 := hb.trans (hb3.mono hb.size)
  obtain ⟨BI, hBI⟩ : ∃ B, B = w2.heap.size := ⟨_, rfl⟩
  clear hb hb3 HLI hBI
  obtain ⟨jd, hjd⟩ : ∃ f : Nat → ByteArray, ∀ k, f k = ⟨(joined (ss.take k)).toArray⟩ := ⟨fun k => _, fun k => rfl⟩
  obtain ⟨al, hal⟩ : ∃ f : Nat → ByteArray, ∀ k, f k = ⟨(textsB (ss.take k)).toArray⟩ := ⟨fun k => _, fun k => rfl⟩
  have hj0 : (⟨#[]⟩ : ByteArray) = jd 0 := by rw [hjd]; rfl
  have ha0 : (⟨#[]⟩ : ByteArray) = al 0 := by rw [hal]; rfl
  have HJD := Lib.hid hjd
  have HAL := Lib.hid hal
  have HB3 := Lib.hid hb1
  clear hjd hal hb1
  go_wp2_with fail
  go_loopw [27, 28, 29] (fun a j i wr => ∃ k : Nat, k ≤ m ∧ i = .int .i64 k ∧ a = .string (al k) ∧ j = .string (jd k) ∧ Hid (Below w3.heap.size w3 wr)) (fun _ _ i _ => m - (intOf i).toNat)
  case atStart => exact ⟨0, Nat.zero_le _, rfl, by rw [← ha0], by rw [← hj0], Lib.hid (Below.refl _ _)⟩
  case round =>
    obtain ⟨k, hk, rfl, rfl, rfl, HR⟩ := hrel
    by_cases hkl : k < m
    · obtain ⟨g, o, s, rfl, hgB, hs, hss, q1⟩ := HT.out.get hkl
      have HC := Lib.hid (fun W => rtext_any s (by omega) W)
      have hc1 : Hid (∀ W : World, (Op.stringOp .add (al k) ⟨(textB s.data.toList).toArray⟩).run Try.prog W = .ok (.string (al (k + 1))) W) := Lib.hid fun W => by
        rw [HAL.out, HAL.out]; exact cat_all ss k s hs (by rw [HT.out.len]; omega) HSum.out W
      have hc2 : Hid (∀ W : World, (Op.stringOp .add (jd k) s).run Try.prog W = .ok (.string (jd (k + 1))) W) := Lib.hid fun W => by
        rw [HJD.out, HJD.out]; exact cat_joined ss k s hs HSum.out W
      have HS : Hid (∀ W, Below w3.heap.size wr W → W.cell? ⟨g, o + k, none⟩ = some (.string s)) := Lib.hid fun W hb =>
        ((HB3.out.trans ((HR.out.trans hb).mono HB3.out.size)).cell (p := ⟨g, o + k, none⟩) hgB).trans q1
      have hsz := HR.out.size
      have hx1 : (0 : Int) ≤ k := by omega
      have hx2 : (k : Int) < m := by omega
      have q2 := HS.out wr (Below.refl _ _)
      have hcat1 := hc1.out
      have hcat2 := hc2.out
      clear hs hss q1 hgB hc1 hc2
      go_wp2_with fail
      go_region_held3 (fun W => W.cell? ⟨g, o + k, none⟩ = some (.string s))
        ((refine HS.out _ ?_; (repeat (with_reducible (first | assumption | exact Below.refl _ _ | refine Below.drew ?_))); all_goals (simp <;> omega)))
        (first
          | (go_at_call 24; refine (HC.out _).mono ?_; rintro e5 w5 ⟨rfl, hb5⟩; have hv5 : Below w3.heap.size wr w5 := (by (refine Below.trans ?_ (hb5.mono ?_)); (repeat (with_reducible (first | assumption | exact Below.refl _ _ | refine Below.drew ?_))); all_goals (simp <;> omega))))
      all_goals (
        have HR5 := Lib.hid (HR.out.trans hv5)
        clear hv5
        go_wp2_with fail
        go_roundw
        case rel => exact ⟨k + 1, by omega, by go_num, rfl, rfl, HR5⟩
        case measure => simp [intOf] <;> omega)
    · have hkm : k = m := by omega
      subst hkm
      have hb1 := HB3.out.trans (HR.out.mono HB3.out.size)
      have HLI4 := Lib.hid (HLI3.out.below HR.out)
      have HLT4 := Lib.hid (HLT.out.below HR.out)
      have HAm : al k = ⟨(textsB ss).toArray⟩ := by rw [HAL.out, List.take_of_length_le (by rw [HT.out.len]; omega)]
      have HJm : Hid ((jd k).data.toList = joined ss) := Lib.hid (by rw [HJD.out, List.take_of_length_le (by rw [HT.out.len]; omega), bytes_mk])
      have HJs : (jd k).size ≤ 9223372036854775807 := by
        have h1 : (jd k).data.toList.length = (jd k).size := rfl
        rw [HJm.out, joined_len] at h1
        have := HSum.out
        omega
      have HCr := Lib.hid (fun W => rcrc_any (jd k) HJs W)
      rw [HJm.out] at HCr
      obtain ⟨cr, hcr⟩ : ∃ x : Int, x = ((crc (joined ss) : Nat) : Int) := ⟨_, rfl⟩
      rw [← hcr] at HCr
      obtain ⟨A, hA⟩ : ∃ A, A = al k := ⟨_, rfl⟩
      obtain ⟨J, hJ⟩ : ∃ J, J = jd k := ⟨_, rfl⟩
      rw [← hA] at HAm
      rw [← hJ] at HCr
      have t1 : (fs.toList == fs.toList) = true := by simp
      have t2 : (fx == fx) = true := by simp
      have t3 : (ux == ux) = true := by simp
      have t4 : (uy == uy) = true := by simp
      have t5 : (nx == nx) = true := by simp
      have t6 : (ny == ny) = true := by simp
      have t7 : (ds.toList == ds.toList) = true := by simp
      have t8 : (bs.toList == bs.toList) = true := by simp
      have t9 : (cr == cr) = true := by simp
      have t10 : (A.toList == A.toList) = true := by simp
      obtain ⟨V, hV⟩ : ∃ V : ByteArray, V = ⟨(vars vs).toArray⟩ := ⟨_, rfl⟩
      have t11 : (V.toList == V.toList) = true := by simp
      rw [← hA, ← hJ]
      have HVh := Lib.hid hV
      have HAh := Lib.hid HAm
      have Hch := Lib.hid hcr
      clear HR HAL HJD HJm HJs HF HU HN hA hJ hV HAm hcr
      have hl1 := HI.out.len
      have hl2 := HT.out.len
      have hs2 := HSum.out
      have HIA : Hid (∀ W, Below w.heap.size w W → IntsOf W ao p vs) := Lib.hid fun W hb => (HI.out.below hb).of
      have HTA : Hid (∀ W, Below w.heap.size w W → TextsAt W bo k ss) := Lib.hid fun W hb => (HT.out.below hb).at_
      clear HI HT HB3 HLI3 HLT
      go_wp2_with fail
      have hc := alive_any wr
      refine hc.mono ?_
      rintro e u0 ⟨rfl, hy⟩
      clear hc
      have hz0 := hb1.trans (hy.mono hb1.size)
      have HLI10 := Lib.hid (HLI4.out.below hy)
      have HLT10 := Lib.hid (HLT4.out.below hy)
      clear hy HLI4 HLT4 hb1
      go_wp2_with fail
      have hc := IntsOf.vars_any (c := ci) (show IntsOf u0 (some ⟨gi, 0, none⟩) p vs from ⟨hl1, (HIA.out _ hz0).2.1, fun _ => ⟨gi, 0, rfl, HLI10.out.lt, HLI10.out.at_ hl1⟩⟩) (by omega)
      rw [← HVh.out] at hc
      refine hc.mono ?_
      rintro e u1 ⟨rfl, hy⟩
      clear hc
      have hz1 := hz0.trans (hy.mono hz0.size)
      have HLI11 := Lib.hid (HLI10.out.below hy)
      have HLT11 := Lib.hid (HLT10.out.below hy)
      clear hy HLI10 HLT10 hz0
      go_wp2_with fail
      have hc := IntsOf.rvars (c := c) (HIA.out u1 hz1) (by omega)
      rw [← HVh.out] at hc
      refine hc.mono ?_
      rintro e u2 ⟨rfl, hy⟩
      clear hc
      have hz2 := hz1.trans (hy.mono hz1.size)
      have HLI12 := Lib.hid (HLI11.out.below hy)
      have HLT12 := Lib.hid (HLT11.out.below hy)
      clear hy HLI11 HLT11 hz1
      go_wp2_with fail
      have hc := ntext_any (some ⟨gt, 0, none⟩) k ct ss u2 ⟨hl2, fun _ => ⟨gt, 0, rfl, HLT12.out.lt, HLT12.out.at_ hl2⟩⟩ (by omega) (by omega)
      rw [← HAh.out] at hc
      refine hc.mono ?_
      rintro e u3 ⟨rfl, hy⟩
      clear hc
      have hz3 := hz2.trans (hy.mono hz2.size)
      have HLI13 := Lib.hid (HLI12.out.below hy)
      have HLT13 := Lib.hid (HLT12.out.below hy)
      clear hy HLI12 HLT12 hz2
      go_wp2_with fail
      have hc := same_below ((crc_lent HLT13.out hl2 (by omega) hs2))
      rw [← Hch.out] at hc
      refine hc.mono ?_
      rintro e u4 ⟨rfl, hy⟩
      clear hc
      have hz4 := hz3.trans (hy.mono hz3.size)
      have HLI14 := Lib.hid (HLI13.out.below hy)
      have HLT14 := Lib.hid (HLT13.out.below hy)
      clear hy HLI13 HLT13 hz3
      go_wp2_with fail
      have hc := same_below (HCr.out u4)
      refine hc.mono ?_
      rintro e u5 ⟨rfl, hy⟩
      clear hc
      have hz5 := hz4.trans (hy.mono hz4.size)
      have HLI15 := Lib.hid (HLI14.out.below hy)
      have HLT15 := Lib.hid (HLT14.out.below hy)
      clear hy HLI14 HLT14 hz4
      go_wp2_with fail
      have hc := HD.out.1 u5
      refine hc.mono ?_
      rintro e u6 ⟨rfl, hy⟩
      clear hc
      have hz6 := hz5.trans (hy.mono hz5.size)
      have HLI16 := Lib.hid (HLI15.out.below hy)
      have HLT16 := Lib.hid (HLT15.out.below hy)
      clear hy HLI15 HLT15 hz5
      go_wp2_with fail
      have hc := HD.out.2 u6
      refine hc.mono ?_
      rintro e u7 ⟨rfl, hy⟩
      clear hc
      have hz7 := hz6.trans (hy.mono hz6.size)
      have HLI17 := Lib.hid (HLI16.out.below hy)
      have HLT17 := Lib.hid (HLT16.out.below hy)
      clear hy HLI16 HLT16 hz6
      go_wp2_with fail
      have hc := HB.out.1 u7
      refine hc.mono ?_
      rintro e u8 ⟨rfl, hy⟩
      clear hc
      have hz8 := hz7.trans (hy.mono hz7.size)
      have HLI18 := Lib.hid (HLI17.out.below hy)
      have HLT18 := Lib.hid (HLT17.out.below hy)
      clear hy HLI17 HLT17 hz7
      go_wp2_with fail
      have hc := HB.out.2 u8
      refine hc.mono ?_
      rintro e u9 ⟨rfl, hy⟩
      clear hc
      have hz9 := hz8.trans (hy.mono hz8.size)
      have HLI19 := Lib.hid (HLI18.out.below hy)
      have HLT19 := Lib.hid (HLT18.out.below hy)
      clear hy HLI18 HLT18 hz8
      go_wp2_with fail
      have hc := staysI_any (c := ci) (d := c) HLI19.out (HIA.out u9 hz9) (by omega)
      refine hc.mono ?_
      rintro e u10 ⟨rfl, hy⟩
      clear hc
      have hz10 := hz9.trans (hy.mono hz9.size)
      have HLI20 := Lib.hid (HLI19.out.below hy)
      have HLT20 := Lib.hid (HLT19.out.below hy)
      clear hy HLI19 HLT19 hz9
      go_wp2_with fail
      have hc := staysT_any (c := ct) (d := d) HLT20.out (HTA.out u10 hz10) (by omega)
      refine hc.mono ?_
      rintro e u11 ⟨rfl, hy⟩
      clear hc
      have hz11 := hz10.trans (hy.mono hz10.size)
      have HLI21 := Lib.hid (HLI20.out.below hy)
      have HLT21 := Lib.hid (HLT20.out.below hy)
      clear hy HLI20 HLT20 hz10
      go_wp2_with fail
      go_ret
      exact ⟨rfl, hz11⟩
end Go.Proofs.Ytegiibpdkioocaa
