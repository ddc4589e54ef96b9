/- The walk of arboretumlaw8.LeafCuts. -/
import Derived.Test.YtopefaeemkemiaaAliveI
import Derived.Test.YtopefaeemkemiaaSameI
import Derived.Test.YtopefaeemkemiaaGetPI
namespace Go.Proofs.Ytopefaeemkemiaa
open Go.RowKit
set_option linter.unusedVariables false
theorem i64_wfL {n : Int} (h : (Lit.int .i64 n).wf = true) : -9223372036854775808 ≤ n ∧ n ≤ 9223372036854775807 := by
  simpa [Lit.wf, IntKind.min, IntKind.max, IntKind.bits, IntKind.signed] using h
theorem ItmsIn.okBulk {w : World} {ao : Option Addr} {n c : Nat} {l : List Itm} (h : ItmsIn w ao n c l) (hb : n + (l.map Itm.len).sum ≤ 1048576) {W : World} (hW : Below w.heap.size w W) : ItmsOk W ao n l :=
  ⟨(h.itms.below hW).mono hW.size, h.ok, by omega, by omega⟩
set_option maxRecDepth 100000 in
set_option maxHeartbeats 16000000 in
theorem cuts_off {w : World} (ao : Option Addr) (n c : Nat) (l : List Itm) (hO : ∀ W, Below w.heap.size w W → ItmsOk W ao n l) (cut : Int) (hc1 : -9223372036854775808 ≤ cut) (hc2 : cut ≤ 9223372036854775807) (more : ByteArray) (hm : more.size ≤ 9223372036854775807)
    (h : (putI l).2 ≠ 0 ∨ ((putI l).2 = 0 ∧ (cut < 0 ∨ (layI l).length ≤ cut ∨ 100 < more.size ∨ more.toList.isEmpty = true))) :
    Calls Try.prog 4 #[.slice ao n c, .int .i64 cut, .string more] w fun e w' => e = .returned (.bool true) ∧ Below w.heap.size w w' := by
  have HPt := Lib.hid (putI_any (c := c) (hO w (Below.refl _ _)))
  have hnn := (hO w (Below.refl _ _)).few
  clear hO
  rcases h with hg | ⟨hg, h⟩
  · obtain ⟨q, hq⟩ : ∃ q, q = putI l := ⟨_, rfl⟩
    rw [← hq] at HPt hg
    obtain ⟨q1, q2⟩ := q
    dsimp only at HPt hg
    obtain ⟨S, hS⟩ : ∃ S, S = ByteArray.mk q1.toArray := ⟨_, rfl⟩
    rw [← hS] at HPt
    have hd : (q2 != 0) = true := by simpa using hg
    clear hq hg hS
    go_enter Try.func4, Try.ntmps4
    go_wp2_with fail
    refine HPt.out.mono ?_
    rintro e w1 ⟨rfl, hb1⟩
    go_wp2_with fail
    refine (aliveI_any _).mono ?_
    rintro e wa ⟨rfl, hba⟩
    go_wp2_with fail
    go_ret
    exact ⟨rfl, hb1.trans (hba.mono hb1.size)⟩
  · obtain ⟨g1, g2, g3, g4⟩ := putI_good hg
    rw [g3] at HPt
    have hsz : (ByteArray.mk (layI l).toArray).size = (layI l).length := by show (layI l).toArray.size = _; simp
    dsimp only at HPt
    obtain ⟨S, hS⟩ : ∃ S, S = ByteArray.mk (layI l).toArray := ⟨_, rfl⟩
    rw [← hS] at HPt hsz
    rw [← hsz] at h g2
    clear hS hsz g1 g3 g4 hg
    by_cases h0 : cut < 0
    · have y0 : decide (cut < 0) = true := by simpa using h0
      clear h h0
      go_enter Try.func4, Try.ntmps4
      go_wp2_with fail
      refine HPt.out.mono ?_
      rintro e w1 ⟨rfl, hb1⟩
      go_wp2_with fail
      refine (aliveI_any _).mono ?_
      rintro e wa ⟨rfl, hba⟩
      go_wp2_with fail
      go_ret
      exact ⟨rfl, hb1.trans (hba.mono hb1.size)⟩
    obtain ⟨k, rfl⟩ : ∃ k : Nat, cut = k := ⟨cut.toNat, by omega⟩
    by_cases h1 : S.size ≤ k
    · have y0 : decide (S.size ≤ k) = true := by simpa using h1
      clear h h0 h1
      go_enter Try.func4, Try.ntmps4
      go_wp2_with fail
      refine HPt.out.mono ?_
      rintro e w1 ⟨rfl, hb1⟩
      go_wp2_with fail
      refine (aliveI_any _).mono ?_
      rintro e wa ⟨rfl, hba⟩
      go_wp2_with fail
      go_ret
      exact ⟨rfl, hb1.trans (hba.mono hb1.size)⟩
    have y1 : decide (S.size ≤ k) = false := by simpa using h1
    by_cases h2 : 100 < more.size
    · have y0 : decide (100 < (more.size : Int)) = true := by simp <;> omega
      clear h h0 h1 h2
      go_enter Try.func4, Try.ntmps4
      go_wp2_with fail
      refine HPt.out.mono ?_
      rintro e w1 ⟨rfl, hb1⟩
      go_wp2_with fail
      refine (aliveI_any _).mono ?_
      rintro e wa ⟨rfl, hba⟩
      go_wp2_with fail
      go_ret
      exact ⟨rfl, hb1.trans (hba.mono hb1.size)⟩
    have y2 : decide (100 < (more.size : Int)) = false := by simp <;> omega
    have y3 : more.toList.isEmpty = true := by
      rcases h with h | h | h | h
      · exact absurd h h0
      · exact absurd (by omega) h1
      · exact absurd h h2
      · exact h
    clear h h0 h1 h2
    go_enter Try.func4, Try.ntmps4
    go_wp2_with fail
    refine HPt.out.mono ?_
    rintro e w1 ⟨rfl, hb1⟩
    go_wp2_with fail
    refine (aliveI_any _).mono ?_
    rintro e wa ⟨rfl, hba⟩
    go_wp2_with fail
    go_ret
    exact ⟨rfl, hb1.trans (hba.mono hb1.size)⟩
set_option maxRecDepth 100000 in
set_option maxHeartbeats 16000000 in
theorem cuts_on {w : World} (ao : Option Addr) (n c : Nat) (l : List Itm) (hO : ∀ W, Below w.heap.size w W → ItmsOk W ao n l) (hnc : n ≤ c) (hc9 : c ≤ 9223372036854775807) (k : Nat) (more : ByteArray)
    (hg : (putI l).2 = 0) (hk : k < (layI l).length) (hm : more.size ≤ 100) (hne : more.toList.isEmpty = false) :
    Calls Try.prog 4 #[.slice ao n c, .int .i64 k, .string more] w fun e w' => e = .returned (.bool true) ∧ Below w.heap.size w w' := by
  have HPt := Lib.hid (putI_any (c := c) (hO w (Below.refl _ _)))
  have hl : l.length = n := (hO w (Below.refl _ _)).len
  have HLn := Lib.hid hl
  have HOk := Lib.hid hO
  obtain ⟨g1, g2, g3, g4⟩ := putI_good hg
  have hnl : n ≤ 80 := by have := layI_ge l; omega
  have hn0 : 0 < n := by
    rcases Nat.eq_zero_or_pos n with h0 | h0
    · have : l = [] := List.eq_nil_of_length_eq_zero (by omega)
      rw [this] at hk
      cases hk
    · exact h0
  obtain ⟨b, o, rfl, hbB, -⟩ := (hO w (Below.refl _ _)).itms.2 hn0
  rw [g3] at HPt
  have hsz : (ByteArray.mk (layI l).toArray).size = (layI l).length := by show (layI l).toArray.size = _; simp
  have hCut : Hid (∀ S : ByteArray, S = ⟨(layI l).toArray⟩ → ∀ W, Calls Try.prog 12 #[.string (S.extract 0 k)] W fun e w' => ∃ bo N d g, e = .returned (.tuple #[.slice bo N d, .int .i64 g]) ∧ Hid ((g = 0 ∧ N < n ∧ Itms w' w'.heap.size bo N (l.take N)) ∨ (g = 4 ∧ N = 0)) ∧ Below W.heap.size W w') := Lib.hid (fun S hS W => by
    subst hS
    refine (getI_any ((ByteArray.mk (layI l).toArray).extract 0 k) W (by rw [ByteArray.size_extract, hsz]; omega)).mono ?_
    unfold GetResI
    have he : ((ByteArray.mk (layI l).toArray).extract 0 k).data.toList = (layI l).take k := by rw [Lib.extract_data, bytes_mk]; simp
    rw [he]
    rintro e w' ⟨bo, N, d, he, ho, hl', hb⟩
    refine ⟨bo, N, d, _, he, Lib.hid ?_, hb⟩
    rcases getI_code ((layI l).take k) with h0 | ⟨h1, h2⟩
    · obtain ⟨c1, c2⟩ := getI_cut hg hk h0
      rw [hl'] at c1 c2
      have := itms_own ho
      rw [c2] at this
      exact .inl ⟨h0, by rw [HLn.out] at c1; exact c1, this⟩
    · refine .inr ⟨h1, ?_⟩
      rw [← hl', h2]; rfl)
  have hmne : more.data.toList ≠ [] := fun h => by rw [ByteArray.toList_eq, h] at hne; cases hne
  have hMore : Hid (∀ S : ByteArray, S = ⟨(layI l).toArray⟩ → ∀ W, Calls Try.prog 12 #[.string ⟨S.data ++ more.data⟩] W fun e w' => ∃ bo N d g, e = .returned (.tuple #[.slice bo N d, .int .i64 g]) ∧ Hid (g = 0 → n < N ∧ N ≤ d ∧ d ≤ 9223372036854775807 ∧ ∃ Y, Y.take n = l ∧ Itms w' w'.heap.size bo N Y) ∧ Below W.heap.size W w') := Lib.hid (fun S hS W => by
    subst hS
    refine (getI_any ⟨(layI l).toArray ++ more.data⟩ W (by show ((layI l).toArray ++ more.data).size ≤ _; rw [Array.size_append]; have : more.data.size = more.size := rfl; simp; omega)).mono ?_
    unfold GetResI
    have he : (ByteArray.mk ((layI l).toArray ++ more.data)).data.toList = layI l ++ more.data.toList := by simp
    rw [he]
    rintro e w' ⟨bo, N, d, he, ho, hl', hb⟩
    refine ⟨bo, N, d, _, he, Lib.hid (fun h0 => ?_), hb⟩
    obtain ⟨c1, c2⟩ := getI_more hg hmne h0
    rw [hl', HLn.out] at c1
    rw [HLn.out] at c2
    obtain ⟨_, _, e1, hnc, _, _⟩ := own_shape ho
    injection e1 with _ _ e1
    subst e1
    refine ⟨c1, hnc, ?_, _, c2.symm, itms_own ho⟩
    rcases ho.2 with ⟨hs, _⟩ | ⟨g', c', cur, hs, _, _, _, hm, _⟩
    · injection hs; omega
    · injection hs with _ _ hc; unfold maxLen at hm; omega)
  obtain ⟨S, hS⟩ : ∃ S, S = ByteArray.mk (layI l).toArray := ⟨_, rfl⟩
  have HCut := Lib.hid (hCut.out S hS)
  have HMore := Lib.hid (hMore.out S hS)
  dsimp only at HPt
  rw [← hS] at HPt hsz
  rw [← hsz] at hk g2
  have hcat : ∀ W : World, (Op.stringOp .add S more).run Try.prog W = .ok (.string ⟨S.data ++ more.data⟩) W := fun W => by
    have h9 := run_string_add_sum (P := Try.prog) W S more (by omega)
    have h8 : S ++ more = ⟨S.data ++ more.data⟩ := by
      apply bytes_ext
      rw [ByteArray.data_append]
    rw [h9, h8]
  have y1 : decide (S.size ≤ k) = false := by simp; omega
  have y2 : decide (100 < (more.size : Int)) = false := by simp <;> omega
  have y4 : decide (200 < (n : Int)) = false := by simp <;> omega
  have y5 : (0 : Int) ≤ k := by omega
  have y6 : (k : Int) ≤ S.size := by omega
  clear hS hsz g1 g3 g4 hg hCut hMore hmne hl hO hk
  go_enter Try.func4, Try.ntmps4
  go_wp2_with fail
  refine HPt.out.mono ?_
  rintro e w1 ⟨rfl, hb1⟩
  clear HPt
  go_wp2_with fail
  refine (HCut.out _).mono ?_
  rintro e w2 ⟨xo, N, xd, g, rfl, HX, hb2'⟩
  have HB2 := Lib.hid (hb1.trans (hb2'.mono hb1.size))
  clear hb1 hb2' HCut
  rcases HX.out with ⟨hg0, hN, hX⟩ | ⟨hg4, hN0⟩
  · subst hg0
    have z1 : decide (n ≤ N) = false := by simp; omega
    have HSm := Lib.hid (sameI_yes (c := xd) (d := c) hX ((HOk.out w2 HB2.out).itms.take (i := N) (by omega)) (by omega))
    have z2 : (N : Int) ≤ c := by omega
    have z3 : (0 : Int) ≤ N := by omega
    clear hX HX
    go_wp2_with fail
    refine HSm.out.mono ?_
    rintro e w3 ⟨rfl, hb3'⟩
    have HB3 := Lib.hid (HB2.out.trans (hb3'.mono HB2.out.size))
    clear hb3' HSm HB2
    go_wp2_with fail
    refine (HMore.out _).mono ?_
    rintro e w4 ⟨yo, M, yd, g5, rfl, HY, hb4'⟩
    have HB4 := Lib.hid (HB3.out.trans (hb4'.mono HB3.out.size))
    clear hb4' HB3 HMore
    by_cases h5 : g5 = 0
    · obtain ⟨q1, q2, q3, Y, hY, hYs⟩ := HY.out h5
      have z5 : (g5 != 0) = false := by rw [h5]; rfl
      have z6 : decide ((n : Int) < M) = true := by simp; omega
      have z7 : (n : Int) ≤ yd := by omega
      have z8 : (0 : Int) ≤ n := by omega
      obtain ⟨yb, yof, rfl, _, _⟩ := hYs.2 (by omega)
      have hYt := hYs.take (i := n) (by omega)
      rw [hY] at hYt
      have HYt := Lib.hid hYt
      clear hYs hYt hY HY h5
      go_wp2_with fail
      refine (aliveI_any _).mono ?_
      rintro e wa ⟨rfl, hba⟩
      have hbA := HB4.out.trans (hba.mono HB4.out.size)
      have HSm2 := Lib.hid (sameI_yes (c := yd) (d := c) ((HYt.out.below hba).mono hba.size) (HOk.out wa hbA).itms (by omega))
      clear hba
      go_wp2_with fail
      refine HSm2.out.mono ?_
      rintro e wz ⟨rfl, hbz⟩
      go_wp2_with fail
      go_ret
      exact ⟨rfl, hbA.trans (hbz.mono hbA.size)⟩
    · have z5 : (g5 != 0) = true := by simpa using h5
      clear HY h5
      go_wp2_with fail
      refine (aliveI_any _).mono ?_
      rintro e wa ⟨rfl, hba⟩
      go_wp2_with fail
      go_ret
      exact ⟨rfl, HB4.out.trans (hba.mono HB4.out.size)⟩
  · subst hg4 hN0
    have HB3 := HB2
    clear HX HB2
    go_wp2_with fail
    refine (HMore.out _).mono ?_
    rintro e w4 ⟨yo, M, yd, g5, rfl, HY, hb4'⟩
    have HB4 := Lib.hid (HB3.out.trans (hb4'.mono HB3.out.size))
    clear hb4' HB3 HMore
    by_cases h5 : g5 = 0
    · obtain ⟨q1, q2, q3, Y, hY, hYs⟩ := HY.out h5
      have z5 : (g5 != 0) = false := by rw [h5]; rfl
      have z6 : decide ((n : Int) < M) = true := by simp; omega
      have z7 : (n : Int) ≤ yd := by omega
      have z8 : (0 : Int) ≤ n := by omega
      obtain ⟨yb, yof, rfl, _, _⟩ := hYs.2 (by omega)
      have hYt := hYs.take (i := n) (by omega)
      rw [hY] at hYt
      have HYt := Lib.hid hYt
      clear hYs hYt hY HY h5
      go_wp2_with fail
      refine (aliveI_any _).mono ?_
      rintro e wa ⟨rfl, hba⟩
      have hbA := HB4.out.trans (hba.mono HB4.out.size)
      have HSm2 := Lib.hid (sameI_yes (c := yd) (d := c) ((HYt.out.below hba).mono hba.size) (HOk.out wa hbA).itms (by omega))
      clear hba
      go_wp2_with fail
      refine HSm2.out.mono ?_
      rintro e wz ⟨rfl, hbz⟩
      go_wp2_with fail
      go_ret
      exact ⟨rfl, hbA.trans (hbz.mono hbA.size)⟩
    · have z5 : (g5 != 0) = true := by simpa using h5
      clear HY h5
      go_wp2_with fail
      refine (aliveI_any _).mono ?_
      rintro e wa ⟨rfl, hba⟩
      go_wp2_with fail
      go_ret
      exact ⟨rfl, HB4.out.trans (hba.mono HB4.out.size)⟩
theorem walk_LeafCuts {w : World} (ao : Option Addr) (n c : Nat) (h0 : ∃ l, ItmsIn w ao n c l ∧ n + (l.map Itm.len).sum ≤ 1048576) (cut : Int) (hcw : (Lit.int .i64 cut).wf = true) (more : ByteArray) (hm : more.size ≤ maxLen) :
    Calls Try.prog 4 #[.slice ao n c, .int .i64 cut, .string more] w fun e w' => e = .returned (.bool true) ∧ Below w.heap.size w w' := by
  obtain ⟨l, hE, hbk⟩ := h0
  obtain ⟨i1, i2⟩ := i64_wfL hcw
  unfold maxLen at hm
  have hO : ∀ W, Below w.heap.size w W → ItmsOk W ao n l := fun W hW => hE.okBulk hbk hW
  by_cases hg : (putI l).2 = 0
  · by_cases h : cut < 0 ∨ (layI l).length ≤ cut ∨ 100 < more.size ∨ more.toList.isEmpty = true
    · exact cuts_off ao n c l hO cut i1 i2 more (by omega) (.inr ⟨hg, h⟩)
    · obtain ⟨k, rfl⟩ : ∃ k : Nat, cut = k := ⟨cut.toNat, by
        have : ¬ cut < 0 := fun h1 => h (.inl h1)
        omega⟩
      have h2 : ¬ (layI l).length ≤ (k : Int) := fun h1 => h (.inr (.inl h1))
      have h3 : ¬ 100 < more.size := fun h1 => h (.inr (.inr (.inl h1)))
      have h4 : more.toList.isEmpty = false := by
        cases h5 : more.toList.isEmpty with
        | false => rfl
        | true => exact absurd (.inr (.inr (.inr h5))) h
      exact cuts_on ao n c l hO hE.le (by have := hE.sz; omega) k more hg (by omega) (by omega) h4
  · exact cuts_off ao n c l hO cut i1 i2 more (by omega) (.inl hg)
end Go.Proofs.Ytopefaeemkemiaa
