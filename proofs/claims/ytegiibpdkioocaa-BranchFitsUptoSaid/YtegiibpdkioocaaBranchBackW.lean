/- The walk of arboretumlaw9.BranchBack. -/
import Derived.Test.YtegiibpdkioocaaAliveC9
import Derived.Test.YtegiibpdkioocaaSameC
import Derived.Test.YtegiibpdkioocaaGetPC
namespace Go.Proofs.Ytegiibpdkioocaa
open Go.RowKit
set_option linter.unusedVariables false
theorem i64_wfK {n : Int} (h : (Lit.int .i64 n).wf = true) : -9223372036854775808 ≤ n ∧ n ≤ 9223372036854775807 := by
  simpa [Lit.wf, IntKind.min, IntKind.max, IntKind.bits, IntKind.signed] using h
theorem ChdsIn.okBulk {w : World} {ao : Option Addr} {n c : Nat} {l : List Chd} (h : ChdsIn w ao n c l) (hb : n + (l.map (·.key.size)).sum ≤ 1048576) {W : World} (hW : Below w.heap.size w W) : ChdsOk W ao n l :=
  ⟨(h.chds.below hW).mono hW.size, h.ok, by omega, by omega⟩
set_option maxRecDepth 100000 in
set_option maxHeartbeats 16000000 in
theorem walk_BranchBack {w : World} (ao : Option Addr) (n c : Nat) (h0 : ∃ l, ChdsIn w ao n c l ∧ n + (l.map (·.key.size)).sum ≤ 1048576) (cut : Int) (hcw : (Lit.int .i64 cut).wf = true) :
    Calls Try.prog 12 #[.slice ao n c, .int .i64 cut] w fun e w' => e = .returned (.bool true) ∧ Below w.heap.size w w' := by
  obtain ⟨l, hE, hbk⟩ := h0
  obtain ⟨i1, i2⟩ := i64_wfK hcw
  clear hcw
  have hn9 : n ≤ 1048576 := by omega
  have hnc : n ≤ c := hE.le
  have hc9 : c ≤ 140737488351232 := by have := hE.sz; omega
  have HE := Lib.hid hE
  have HLn := Lib.hid hE.chds.1
  have HOk : Hid (∀ W, Below w.heap.size w W → ChdsOk W ao n l) := Lib.hid (fun W hW => hE.okBulk hbk hW)
  have HPt := Lib.hid (putC_any (c := c) (HOk.out w (Below.refl _ _)))
  clear hE hbk
  by_cases hg : (putC l).2 = 0
  · obtain ⟨g1, g2, g3, g4, g5⟩ := putC_good hg
    have hgp := getC_put hg
    have hnl : n ≤ 120 := by have := layB_two l; have := HLn.out; omega
    have hn0 : 0 < n := by have := HLn.out; have := List.length_pos_iff.2 g2; omega
    rw [g4] at HPt
    have hsz : (ByteArray.mk (layB l).toArray).size = (layB l).length := by show (layB l).toArray.size = _; simp
    have hGt : Hid (∀ W, Calls Try.prog 66 #[.string ⟨(layB l).toArray⟩] W fun e w' => ∃ bo d, e = .returned (.tuple #[.slice bo n d, .int .i64 0]) ∧ Hid (Chds w' w'.heap.size bo n l) ∧ Below W.heap.size W w') := Lib.hid (fun W => by
      refine (getC_any ⟨(layB l).toArray⟩ W (by rw [hsz]; omega)).mono ?_
      unfold GetResC
      rw [bytes_mk, hgp]
      rintro e w' ⟨bo, N, d, he, ho, hl, hb⟩
      have hN : N = n := by rw [← hl]; exact HLn.out
      subst hN
      exact ⟨bo, d, he, Lib.hid (chds_own ho), hb⟩)
    have hSz : Hid (∀ W, Below w.heap.size w W → Calls Try.prog 67 #[.slice ao n c] W fun e w' => e = .returned (.int .i64 (layB l).length) ∧ Below W.heap.size W w') := Lib.hid (fun W hW => sizeC_any (HOk.out W hW))
    have hFt : Hid (∀ W, Below w.heap.size w W → Calls Try.prog 68 #[.slice ao n c] W fun e w' => e = .returned (.bool true) ∧ Below W.heap.size W w') := Lib.hid (fun W hW => by
      have := fitsC_any (c := c) (HOk.out W hW)
      rw [g4] at this
      exact this)
    have hCut : Hid (∀ (k : Nat) (S : ByteArray), S = ⟨(layB l).toArray⟩ → k < (layB l).length → ∀ W, Calls Try.prog 66 #[.string (S.extract 0 k)] W fun e w' => ∃ bo N d g, e = .returned (.tuple #[.slice bo N d, .int .i64 g]) ∧ Hid (g = 0 → N < n ∧ Chds w' w'.heap.size bo N (l.take N)) ∧ Below W.heap.size W w') := Lib.hid (fun k S hS hk W => by
      subst hS
      refine (getC_any ((ByteArray.mk (layB l).toArray).extract 0 k) W (by rw [ByteArray.size_extract, hsz]; omega)).mono ?_
      unfold GetResC
      have he : ((ByteArray.mk (layB l).toArray).extract 0 k).data.toList = (layB l).take k := by rw [Lib.extract_data, bytes_mk]; simp
      rw [he]
      rintro e w' ⟨bo, N, d, he, ho, hl, hb⟩
      refine ⟨bo, N, d, _, he, Lib.hid (fun h0 => ?_), hb⟩
      obtain ⟨c1, c2⟩ := getC_cut hg hk h0
      rw [hl] at c1 c2
      have := chds_own ho
      rw [c2] at this
      exact ⟨by rw [HLn.out] at c1; exact c1, this⟩)
    obtain ⟨S, hS⟩ : ∃ S, S = ByteArray.mk (layB l).toArray := ⟨_, rfl⟩
    have hCut2 : Hid (∀ k : Nat, k < S.size → ∀ W, Calls Try.prog 66 #[.string (S.extract 0 k)] W fun e w' => ∃ bo N d g, e = .returned (.tuple #[.slice bo N d, .int .i64 g]) ∧ Hid (g = 0 → N < n ∧ Chds w' w'.heap.size bo N (l.take N)) ∧ Below W.heap.size W w') := Lib.hid (fun k hk W => hCut.out k S hS (by rw [hS, hsz] at hk; exact hk) W)
    dsimp only at HPt
    rw [← hS] at HPt hGt hsz
    rw [← hsz] at hSz
    have hs240 : S.size ≤ 240 := by omega
    clear hS hsz g1 g2 g3 g4 g5 hgp hg hCut
    go_enter Try.func12, Try.ntmps12
    go_wp2_with fail
    refine HPt.out.mono ?_
    rintro e w1 ⟨rfl, hb1⟩
    clear HPt
    go_wp2_with fail
    refine (hGt.out _).mono ?_
    rintro e w2 ⟨bo, d, rfl, HM, hb2'⟩
    have hb2 := hb1.trans (hb2'.mono hb1.size)
    have HSm := Lib.hid (sameC_yes (c := d) (d := c) HM.out (HOk.out w2 hb2).chds (by omega))
    clear hb1 hb2' hGt
    go_wp2_with fail
    refine HSm.out.mono ?_
    rintro e w3 ⟨rfl, hb3'⟩
    have hb3 := hb2.trans (hb3'.mono hb2.size)
    clear hb2 hb3' HSm HM
    go_wp2_with fail
    refine (hSz.out w3 hb3).mono ?_
    rintro e w4 ⟨rfl, hb4'⟩
    have hb4 := hb3.trans (hb4'.mono hb3.size)
    clear hb3 hb4' hSz
    go_wp2_with fail
    refine (hFt.out w4 hb4).mono ?_
    rintro e w5 ⟨rfl, hb5'⟩
    have hb5 := hb4.trans (hb5'.mono hb4.size)
    clear hb4 hb5' hFt
    by_cases hneg : cut < 0
    · have y0 : decide (cut < 0) = true := by simpa using hneg
      go_wp2_with fail
      refine (aliveC9_any _).mono ?_
      rintro e wa ⟨rfl, hba⟩
      go_wp2_with fail
      go_ret
      exact ⟨rfl, hb5.trans (hba.mono hb5.size)⟩
    obtain ⟨k, rfl⟩ : ∃ k : Nat, cut = k := ⟨cut.toNat, by omega⟩
    clear hneg i1 i2
    by_cases hge : S.size ≤ k
    · have y0 : decide (S.size ≤ k) = true := by simpa using hge
      go_wp2_with fail
      refine (aliveC9_any _).mono ?_
      rintro e wa ⟨rfl, hba⟩
      go_wp2_with fail
      go_ret
      exact ⟨rfl, hb5.trans (hba.mono hb5.size)⟩
    have hkS : k < S.size := by omega
    have y0 : decide (S.size ≤ k) = false := by simpa using hge
    have y1 : (0 : Int) ≤ k := by omega
    have y2 : (k : Int) ≤ S.size := by omega
    have HCk := Lib.hid (hCut2.out k hkS)
    clear hge hCut2
    go_wp2_with fail
    refine (HCk.out _).mono ?_
    rintro e w6 ⟨xo, N, xd, g, rfl, HX, hb6'⟩
    have hb6 := hb5.trans (hb6'.mono hb5.size)
    clear hb5 hb6' HCk
    by_cases hg0 : g = 0
    · obtain ⟨hN, hX⟩ := HX.out hg0
      have z0 : (g != 0) = false := by rw [hg0]; rfl
      have z1 : decide (N < n) = true := by simpa using hN
      have HXc := Lib.hid hX
      clear hg0 HX hX
      go_wp2_with fail
      refine (aliveC9_any _).mono ?_
      rintro e wa ⟨rfl, hba⟩
      have hbA := hb6.trans (hba.mono hb6.size)
      obtain ⟨b, o, hao, -, -⟩ := (HOk.out wa hbA).chds.2 hn0
      subst hao
      have HSm := Lib.hid (sameC_yes (c := xd) (d := c) ((HXc.out.below hba).mono hba.size) ((HOk.out wa hbA).chds.take (i := N) (by omega)) (by omega))
      have z2 : (N : Int) ≤ c := by omega
      have z3 : (0 : Int) ≤ N := by omega
      clear hba
      go_wp2_with fail
      refine HSm.out.mono ?_
      rintro e wz ⟨rfl, hbz⟩
      go_wp2_with fail
      go_ret
      exact ⟨rfl, hbA.trans (hbz.mono hbA.size)⟩
    · have z0 : (g != 0) = true := by simpa using hg0
      clear hg0 HX
      go_wp2_with fail
      refine (aliveC9_any _).mono ?_
      rintro e wa ⟨rfl, hba⟩
      go_wp2_with fail
      go_ret
      exact ⟨rfl, hb6.trans (hba.mono hb6.size)⟩
  · have hbad := putC_bad hg
    obtain ⟨q, hq⟩ : ∃ q, q = putC l := ⟨_, rfl⟩
    rw [← hq] at HPt hbad hg
    obtain ⟨q1, q2⟩ := q
    dsimp only at HPt hbad hg
    subst hbad
    have hd : (q2 != 0) = true := by simpa using hg
    clear hq hg
    go_enter Try.func12, Try.ntmps12
    go_wp2_with fail
    refine HPt.out.mono ?_
    rintro e w1 ⟨rfl, hb1⟩
    go_wp2_with fail
    refine (aliveC9_any _).mono ?_
    rintro e wa ⟨rfl, hba⟩
    go_wp2_with fail
    go_ret
    exact ⟨rfl, hb1.trans (hba.mono hb1.size)⟩
end Go.Proofs.Ytegiibpdkioocaa
