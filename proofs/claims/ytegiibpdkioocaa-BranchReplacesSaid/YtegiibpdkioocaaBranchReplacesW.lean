/- The walk of arboretumlaw9.BranchReplaces. -/
import Derived.Test.YtegiibpdkioocaaAliveC9
import Derived.Test.YtegiibpdkioocaaSmallC
import Derived.Test.YtegiibpdkioocaaSameC
import Derived.Test.YtegiibpdkioocaaReplP
namespace Go.Proofs.Ytegiibpdkioocaa
open Go.RowKit
set_option linter.unusedVariables false
theorem i64_wfB {n : Int} (h : (Lit.int .i64 n).wf = true) : -9223372036854775808 ≤ n ∧ n ≤ 9223372036854775807 := by
  simpa [Lit.wf, IntKind.min, IntKind.max, IntKind.bits, IntKind.signed] using h
theorem ChdsIn.src {w : World} {ao : Option Addr} {n c : Nat} {l : List Chd} (h : ChdsIn w ao n c l) {W : World} (hb : Below w.heap.size w W) : ChSrc W W.heap.size ao n c l := ⟨(h.chds.below hb).mono hb.size, h.nil_⟩
theorem ChdsIn.at_ {w : World} {ao : Option Addr} {n c : Nat} {l : List Chd} (h : ChdsIn w ao n c l) {W : World} (hb : Below w.heap.size w W) : Chds W W.heap.size ao n l := (h.chds.below hb).mono hb.size
theorem own_cap {w : World} {base : Nat} {e : TypeId} {size n cap : Nat} {ao : Option Addr} {xs : List Value} (h : w.ownsRow base e size (.slice ao n cap) n xs) : n ≤ cap ∧ cap ≤ 9223372036854775807 := by
  rcases h.2 with ⟨h1, h2⟩ | ⟨g, cap', cur, hv, _, _, h3, h4, _⟩
  · injection h1 with _ h3 h4
    omega
  · injection hv with _ _ hc
    unfold maxLen at h4
    omega
/-- The loop's tests, for the child that stands at a place. -/
theorem chd_one {W : World} {e : Chd} : Chds (W.alloc (.cells #[.string e.key, .int .i64 e.pg] 82)) (W.alloc (.cells #[.string e.key, .int .i64 e.pg] 82)).heap.size (some ⟨W.heap.size, 0, none⟩) 1 [e] :=
  chds_blk (l := [e]) (heap_alloc_new W _) rfl
set_option maxRecDepth 100000 in
set_option maxHeartbeats 16000000 in
theorem walk_BranchReplaces {w : World} (ao : Option Addr) (n c : Nat) (h0 : ∃ l, ChdsIn w ao n c l) (ii : Int) (hii : (Lit.int .i64 ii).wf = true) (bo : Option Addr) (m d : Nat) (h2 : ∃ x, ChdsIn w bo m d x) :
    Calls Try.prog 11 #[.slice ao n c, .int .i64 ii, .slice bo m d] w fun e w' => e = .returned (.bool true) ∧ Below w.heap.size w w' := by
  obtain ⟨l, hE⟩ := h0
  obtain ⟨x, hX⟩ := h2
  obtain ⟨i1, i2⟩ := i64_wfB hii
  clear hii
  have hn9 : n ≤ 140737488351232 := by have := hE.sz; have := hE.le; omega
  have hm9 : m ≤ 140737488351232 := by have := hX.sz; have := hX.le; omega
  have hc9 : c ≤ 140737488351232 := by have := hE.sz; omega
  have hnc : n ≤ c := hE.le
  have HSl := Lib.hid (smallC_any hE)
  have HSx : Hid (∀ W, Below w.heap.size w W → Calls Try.prog 58 #[.slice bo m d] W (SmallCRes m x W)) := Lib.hid (fun W hb => smallC_any ⟨hX.at_ hb, hX.le, hX.nil_, hX.sz, hX.ok⟩)
  have HE := Lib.hid hE
  have HX := Lib.hid hX
  have HLn := Lib.hid hE.chds.1
  have HLm := Lib.hid hX.chds.1
  clear hE hX
  go_enter Try.func11, Try.ntmps11
  go_wp2_with fail
  refine HSl.out.mono ?_
  rintro e w1 ⟨r1, rfl, hr1, hb1⟩
  clear HSl
  cases r1 with
  | false =>
    clear hr1
    go_wp2_with fail
    refine (aliveC9_any _).mono ?_
    rintro e wa ⟨rfl, hba⟩
    go_wp2_with fail
    go_ret
    exact ⟨rfl, hb1.trans (hba.mono hb1.size)⟩
  | true =>
  obtain ⟨hn100, -⟩ := hr1 rfl
  clear hr1
  go_wp2_with fail
  refine (HSx.out w1 hb1).mono ?_
  rintro e w2 ⟨r2, rfl, hr2, hb2'⟩
  have hb2 := hb1.trans (hb2'.mono hb1.size)
  clear hb1 hb2' HSx
  cases r2 with
  | false =>
    clear hr2
    go_wp2_with fail
    refine (aliveC9_any _).mono ?_
    rintro e wa ⟨rfl, hba⟩
    go_wp2_with fail
    go_ret
    exact ⟨rfl, hb2.trans (hba.mono hb2.size)⟩
  | true =>
  obtain ⟨hm100, -⟩ := hr2 rfl
  clear hr2
  by_cases hneg : ii < 0
  · have y0 : decide (ii < 0) = true := by simpa using hneg
    go_wp2_with fail
    refine (aliveC9_any _).mono ?_
    rintro e wa ⟨rfl, hba⟩
    go_wp2_with fail
    go_ret
    exact ⟨rfl, hb2.trans (hba.mono hb2.size)⟩
  obtain ⟨i, rfl⟩ : ∃ i : Nat, ii = i := ⟨ii.toNat, by omega⟩
  clear hneg i1 i2
  by_cases hge : n ≤ i
  · have y0 : decide ((n : Int) ≤ (i : Int)) = true := by simpa using hge
    have y1 : decide (n ≤ i) = true := by simpa using hge
    go_wp2_with fail
    refine (aliveC9_any _).mono ?_
    rintro e wa ⟨rfl, hba⟩
    go_wp2_with fail
    go_ret
    exact ⟨rfl, hb2.trans (hba.mono hb2.size)⟩
  have hin : i < n := by omega
  have y1 : decide (n ≤ i) = false := by simpa using hge
  clear hge
  obtain ⟨b, o, e0, rfl, hbB, he0, q1, q2⟩ := HE.out.chds.get (k := 0) (by omega)
  have c2 : w2.cell? ⟨b, o, none⟩ = some (.string e0.key) := by
    have := (hb2.cell (p := ⟨b, o + 0 * 2, none⟩) hbB).trans q1
    simpa using this
  clear q1 q2
  cases hem : e0.key.toList.isEmpty with
  | false =>
    clear he0
    go_wp2_with fail
    refine (aliveC9_any _).mono ?_
    rintro e wa ⟨rfl, hba⟩
    go_wp2_with fail
    go_ret
    exact ⟨rfl, hb2.trans (hba.mono hb2.size)⟩
  | true =>
  have hk0 : ∀ a, l[0]? = some a → a.key = ⟨#[]⟩ := fun a ha => by
    rw [he0] at ha
    injection ha with ha
    rw [← ha]
    rw [← emp_eq] at hem
    exact eqB_iff.1 hem
  have HK0 := Lib.hid hk0
  clear hk0 he0
  have HRp := Lib.hid (replace_any (HE.out.at_ hb2) hnc (by omega) i hin (HX.out.src hb2) (by omega))
  go_wp2_with fail
  refine HRp.out.mono ?_
  rintro e w3 ⟨ao3, cap3, rfl, hown3, hb3'⟩
  have hb3 := hb2.trans (hb3'.mono hb2.size)
  have HO3 := Lib.hid (own_mono hown3 hb2.size)
  have HR3 := Lib.hid (chds_own hown3)
  obtain ⟨N, hN⟩ : ∃ N, N = i + m + (n - (i + 1)) := ⟨_, rfl⟩
  rw [← hN] at HR3 HO3 ⊢
  have z0 : ((N : Int) != (n : Int) - 1 + m) = false := by simp; omega
  have hN4 : N ≤ 200 := by omega
  have HNn := Lib.hid hN
  clear hown3 hb3' c2 hem HRp hb2 hN
  go_wp2_with fail
  go_loopw [8] (fun v wr => ∃ k : Nat, k ≤ N ∧ v = .int .i64 k ∧ Hid (Below w3.heap.size w3 wr)) (fun v _ => N - (intOf v).toNat)
  case atStart => exact ⟨0, Nat.zero_le _, rfl, Lib.hid (Below.refl _ _)⟩
  case round =>
    obtain ⟨k, hk, rfl, HB⟩ := hrel
    have hbr := hb3.trans (HB.out.mono hb3.size)
    by_cases hlt : k < N
    · obtain ⟨g3, o3, u, rfl, hg3', huk, m1, m2⟩ := (HR3.out.below HB.out).get hlt
      have hg3 : g3 < wr.heap.size := Nat.lt_of_lt_of_le hg3' HB.out.size
      have x1 : (0 : Int) ≤ k := by omega
      have x2 : (k : Int) < N := by omega
      clear hg3'
      by_cases hw1 : k < i
      · obtain ⟨b1, o1, e1, hbe, hbB1, hek, s1, s2⟩ := (HE.out.at_ hbr).get (k := k) (by omega)
        obtain ⟨rfl, rfl⟩ : b1 = b ∧ o1 = o := by injection hbe with h; injection h with h1 h2; exact ⟨h1.symm, h2.symm⟩
        have hW : wantC l i x k = some e1 := by unfold wantC; rw [if_pos hw1]; exact hek
        clear hbe hek
        by_cases hkz : k = 0
        · have hu : u = ⟨⟨#[]⟩, e1.pg⟩ := by
            have := replC_get0 l i x (by rw [HLn.out]; exact hin)
            rw [hkz] at huk hW
            rw [huk, hW] at this
            injection this
          subst hu
          have y2 : ((k : Int) == 0) = true := by rw [hkz]; rfl
          have y3 : decide (0 < k) = false := by rw [hkz]; rfl
          have y4 : decide (0 < (k : Int)) = false := by rw [hkz]; rfl
          have p1 : ∀ ob, (wr.alloc ob).cell? ⟨g3, o3 + k * 2, none⟩ = some (.string ⟨#[]⟩) := fun ob => (World.cell?_alloc_lt wr ob _ hg3).trans m1
          have p2 : ∀ ob, (wr.alloc ob).cell? ⟨g3, o3 + k * 2 + 1, none⟩ = some (.int .i64 e1.pg) := fun ob => (World.cell?_alloc_lt wr ob _ hg3).trans m2
          clear hW huk hkz m1 m2
          go_wp2_with fail
          go_quiet (fail)
          go_wp2_with fail
          go_roundw
          case rel => exact ⟨k + 1, by omega, by go_num, Lib.hid (below_drewN (HB.out.alloc (HB.out.size) _) _)⟩
          case measure => simp [intOf]; omega
        · have hu : u = e1 := by
            have := replC_get l i x k (by rw [HLn.out]; exact hin) hkz
            rw [huk, hW] at this
            injection this
          subst hu
          have y2 : ((k : Int) == 0) = false := by simpa using hkz
          have y3 : decide (0 < k) = true := by simp <;> omega
          have y4 : decide (0 < (k : Int)) = true := by simp <;> omega
          have p1 : ∀ ob, (wr.alloc ob).cell? ⟨g3, o3 + k * 2, none⟩ = some (.string u.key) := fun ob => (World.cell?_alloc_lt wr ob _ hg3).trans m1
          have p2 : ∀ ob, (wr.alloc ob).cell? ⟨g3, o3 + k * 2 + 1, none⟩ = some (.int .i64 u.pg) := fun ob => (World.cell?_alloc_lt wr ob _ hg3).trans m2
          clear hW huk hkz m1 m2
          go_wp2_with fail
          go_quiet (fail)
          go_wp2_with fail
          go_roundw
          case rel => exact ⟨k + 1, by omega, by go_num, Lib.hid (below_drewN (HB.out.alloc (HB.out.size) _) _)⟩
          case measure => simp [intOf]; omega
      · by_cases hw2 : k < i + m
        · obtain ⟨j, hj⟩ : ∃ j, k = i + j := ⟨k - i, by omega⟩
          obtain ⟨b1, o1, e1, rfl, hbB1, hek, s1, s2⟩ := (HX.out.at_ hbr).get (k := j) (by omega)
          have hW : wantC l i x k = some e1 := by unfold wantC; rw [if_neg hw1, if_pos (by rw [HLm.out]; omega), show k - i = j from by omega]; exact hek
          have d2 : (k : Int) - i = j := by omega
          have t1 : (0 : Int) ≤ j := by omega
          have t2 : (j : Int) < m := by omega
          have hw1' : ¬ ((k : Int) < i) := by omega
          have hw2' : (k : Int) < (i : Int) + m := by omega
          clear hek hj
          by_cases hkz : k = 0
          · have hu : u = ⟨⟨#[]⟩, e1.pg⟩ := by
              have := replC_get0 l i x (by rw [HLn.out]; exact hin)
              rw [hkz] at huk hW
              rw [huk, hW] at this
              injection this
            subst hu
            have y2 : ((k : Int) == 0) = true := by rw [hkz]; rfl
            have y3 : decide (0 < k) = false := by rw [hkz]; rfl
            have y4 : decide (0 < (k : Int)) = false := by rw [hkz]; rfl
            have p1 : ∀ ob, (wr.alloc ob).cell? ⟨g3, o3 + k * 2, none⟩ = some (.string ⟨#[]⟩) := fun ob => (World.cell?_alloc_lt wr ob _ hg3).trans m1
            have p2 : ∀ ob, (wr.alloc ob).cell? ⟨g3, o3 + k * 2 + 1, none⟩ = some (.int .i64 e1.pg) := fun ob => (World.cell?_alloc_lt wr ob _ hg3).trans m2
            clear hW huk hkz m1 m2
            go_wp2_with fail
            go_quiet (fail)
            go_wp2_with fail
            go_roundw
            case rel => exact ⟨k + 1, by omega, by go_num, Lib.hid (below_drewN (HB.out.alloc (HB.out.size) _) _)⟩
            case measure => simp [intOf]; omega
          · have hu : u = e1 := by
              have := replC_get l i x k (by rw [HLn.out]; exact hin) hkz
              rw [huk, hW] at this
              injection this
            subst hu
            have y2 : ((k : Int) == 0) = false := by simpa using hkz
            have y3 : decide (0 < k) = true := by simp <;> omega
            have y4 : decide (0 < (k : Int)) = true := by simp <;> omega
            have p1 : ∀ ob, (wr.alloc ob).cell? ⟨g3, o3 + k * 2, none⟩ = some (.string u.key) := fun ob => (World.cell?_alloc_lt wr ob _ hg3).trans m1
            have p2 : ∀ ob, (wr.alloc ob).cell? ⟨g3, o3 + k * 2 + 1, none⟩ = some (.int .i64 u.pg) := fun ob => (World.cell?_alloc_lt wr ob _ hg3).trans m2
            clear hW huk hkz m1 m2
            go_wp2_with fail
            go_quiet (fail)
            go_wp2_with fail
            go_roundw
            case rel => exact ⟨k + 1, by omega, by go_num, Lib.hid (below_drewN (HB.out.alloc (HB.out.size) _) _)⟩
            case measure => simp [intOf]; omega
        · obtain ⟨j, hj⟩ : ∃ j, k = m + j := ⟨k - m, by omega⟩
          obtain ⟨b1, o1, e1, hbe, hbB1, hek, s1, s2⟩ := (HE.out.at_ hbr).get (k := j + 1) (by have := HNn.out; omega)
          obtain ⟨rfl, rfl⟩ : b1 = b ∧ o1 = o := by injection hbe with h; injection h with h1 h2; exact ⟨h1.symm, h2.symm⟩
          have hW : wantC l i x k = some e1 := by unfold wantC; rw [if_neg hw1, if_neg (by rw [HLm.out]; omega), HLm.out, show k - m + 1 = j + 1 from by omega]; exact hek
          have d2 : (k : Int) - m = j := by omega
          have t1 : (0 : Int) ≤ (j : Int) + 1 := by omega
          have t2 : (j : Int) + 1 < n := by have := HNn.out; omega
          have t3 : ((j : Int) + 1).toNat = j + 1 := by omega
          have hw1' : ¬ ((k : Int) < i) := by omega
          have hw2' : ¬ ((k : Int) < (i : Int) + m) := by omega
          clear hek hbe hj
          by_cases hkz : k = 0
          · have hu : u = ⟨⟨#[]⟩, e1.pg⟩ := by
              have := replC_get0 l i x (by rw [HLn.out]; exact hin)
              rw [hkz] at huk hW
              rw [huk, hW] at this
              injection this
            subst hu
            have y2 : ((k : Int) == 0) = true := by rw [hkz]; rfl
            have y3 : decide (0 < k) = false := by rw [hkz]; rfl
            have y4 : decide (0 < (k : Int)) = false := by rw [hkz]; rfl
            have p1 : ∀ ob, (wr.alloc ob).cell? ⟨g3, o3 + k * 2, none⟩ = some (.string ⟨#[]⟩) := fun ob => (World.cell?_alloc_lt wr ob _ hg3).trans m1
            have p2 : ∀ ob, (wr.alloc ob).cell? ⟨g3, o3 + k * 2 + 1, none⟩ = some (.int .i64 e1.pg) := fun ob => (World.cell?_alloc_lt wr ob _ hg3).trans m2
            clear hW huk hkz m1 m2
            go_wp2_with fail
            go_quiet (fail)
            go_wp2_with fail
            go_roundw
            case rel => exact ⟨k + 1, by omega, by go_num, Lib.hid (below_drewN (HB.out.alloc (HB.out.size) _) _)⟩
            case measure => simp [intOf]; omega
          · have hu : u = e1 := by
              have := replC_get l i x k (by rw [HLn.out]; exact hin) hkz
              rw [huk, hW] at this
              injection this
            subst hu
            have y2 : ((k : Int) == 0) = false := by simpa using hkz
            have y3 : decide (0 < k) = true := by simp <;> omega
            have y4 : decide (0 < (k : Int)) = true := by simp <;> omega
            have p1 : ∀ ob, (wr.alloc ob).cell? ⟨g3, o3 + k * 2, none⟩ = some (.string u.key) := fun ob => (World.cell?_alloc_lt wr ob _ hg3).trans m1
            have p2 : ∀ ob, (wr.alloc ob).cell? ⟨g3, o3 + k * 2 + 1, none⟩ = some (.int .i64 u.pg) := fun ob => (World.cell?_alloc_lt wr ob _ hg3).trans m2
            clear hW huk hkz m1 m2
            go_wp2_with fail
            go_quiet (fail)
            go_wp2_with fail
            go_roundw
            case rel => exact ⟨k + 1, by omega, by go_num, Lib.hid (below_drewN (HB.out.alloc (HB.out.size) _) _)⟩
            case measure => simp [intOf]; omega
    · obtain rfl : k = N := by omega
      by_cases hm1 : m = 1
      · have e1 : ((m : Int) != 1) = false := by rw [hm1]; rfl
        obtain ⟨y, hy⟩ : ∃ y, x = [y] := List.length_eq_one_iff.1 (by rw [HLm.out, hm1])
        have hNn : k = n := by have := HNn.out; omega
        obtain ⟨hcap1, hcap2⟩ := own_cap HO3.out
        obtain ⟨bi, oi, ei, hbi, hbBi, hei, s1, s2⟩ := HE.out.chds.get hin
        obtain ⟨rfl, rfl⟩ : bi = b ∧ oi = o := by injection hbi with h; injection h with h1 h2; exact ⟨h1.symm, h2.symm⟩
        have hil : i < l.length := by rw [HLn.out]; exact hin
        have hback := replC_back l i y ei hei HK0.out
        have HS1 := Lib.hid (And.intro s1 s2)
        have hR : ∀ wa, Below w3.heap.size w3 wa → Calls Try.prog 63 #[.slice ao3 k cap3, .int .i64 i, .slice (some ⟨wa.heap.size, 0, none⟩) 1 1] (wa.alloc (.cells #[.string ei.key, .int .i64 ei.pg] 82)) (OwnsChds wa.heap.size n l wa) := by
          intro wa hba
          obtain ⟨W, hW⟩ : ∃ W, W = wa.alloc (.cells #[.string ei.key, .int .i64 ei.pg] 82) := ⟨_, rfl⟩
          have hbW : Below wa.heap.size wa W := by rw [hW]; exact (Below.refl _ _).alloc (Nat.le_refl _) _
          have hone : Chds W W.heap.size (some ⟨wa.heap.size, 0, none⟩) 1 [ei] := by rw [hW]; exact chd_one
          have hRW : Chds W W.heap.size ao3 k (replC l i x) := (HR3.out.below (hba.trans (hbW.mono hba.size))).mono (Nat.le_trans hba.size hbW.size)
          have h := replace_any hRW hcap1 hcap2 i (by omega) (⟨hone, fun h => by cases h⟩ : ChSrc W W.heap.size (some ⟨wa.heap.size, 0, none⟩) 1 1 [ei]) (by omega)
          rw [show i + 1 + (k - (i + 1)) = n from by omega, hy, hback] at h
          rw [← hW]
          refine h.mono ?_
          rintro e w' ⟨ao', cap', he, ho, hb⟩
          exact ⟨ao', cap', he, own_mono ho hbW.size, hbW.trans (hb.mono hbW.size)⟩
        have HRR := Lib.hid hR
        clear hm1 hy hNn hcap1 hcap2 hbi hei s1 s2 hil hback hR
        go_wp2_with fail
        refine (aliveC9_any _).mono ?_
        rintro e wa ⟨rfl, hba⟩
        have hbA3 : Below w3.heap.size w3 wa := HB.out.trans (hba.mono HB.out.size)
        have hbA : Below w.heap.size w wa := hb3.trans (hbA3.mono hb3.size)
        have g1 : wa.cell? ⟨bi, oi + i * 2, none⟩ = some (.string ei.key) := (hbA.cell (p := ⟨bi, oi + i * 2, none⟩) hbBi).trans HS1.out.1
        have g2 : wa.cell? ⟨bi, oi + i * 2 + 1, none⟩ = some (.int .i64 ei.pg) := (hbA.cell (p := ⟨bi, oi + i * 2 + 1, none⟩) hbBi).trans HS1.out.2
        have HRa := Lib.hid (HRR.out wa hbA3)
        have t1 : (0 : Int) ≤ i := by omega
        have t2 : (i : Int) < n := by omega
        clear hba HRR hbA3 HB hbr
        go_wp2_with fail
        refine HRa.out.mono ?_
        rintro e w9 ⟨ao9, cap9, rfl, hown9, hb9⟩
        have hb9' := hbA.trans (hb9.mono hbA.size)
        have hC9 := chds_own hown9
        have HSm := Lib.hid (sameC_yes (c := cap9) (d := c) hC9 (HE.out.at_ hb9') (by omega))
        clear hown9 hb9 hC9
        go_wp2_with fail
        refine HSm.out.mono ?_
        rintro e wz ⟨rfl, hbz⟩
        go_wp2_with fail
        go_ret
        exact ⟨rfl, hb9'.trans (hbz.mono hb9'.size)⟩
      · have e1 : ((m : Int) != 1) = true := by simp; omega
        clear hm1
        go_wp2_with fail
        refine (aliveC9_any _).mono ?_
        rintro e wa ⟨rfl, hba⟩
        go_wp2_with fail
        go_ret
        exact ⟨rfl, hbr.trans (hba.mono hbr.size)⟩
end Go.Proofs.Ytegiibpdkioocaa
