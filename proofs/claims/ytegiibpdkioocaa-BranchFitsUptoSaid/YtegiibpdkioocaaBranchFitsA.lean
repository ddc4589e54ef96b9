/- The walk of arboretumlaw9.BranchFits: the ways on which nothing is looked at. -/
import Derived.Test.YtegiibpdkioocaaAliveC9
import Derived.Test.YtegiibpdkioocaaSameC
import Derived.Test.YtegiibpdkioocaaFitsPC
import Derived.Test.YtegiibpdkioocaaBranchBackW
namespace Go.Proofs.Ytegiibpdkioocaa
open Go.RowKit
set_option linter.unusedVariables false
theorem own_capF {w : World} {base : Nat} {e : TypeId} {size n cap : Nat} {ao : Option Addr} {xs : List Value} (h : w.ownsRow base e size (.slice ao n cap) n xs) : n ≤ cap ∧ cap ≤ 9223372036854775807 := by
  rcases h.2 with ⟨h1, h2⟩ | ⟨g, cap', cur, hv, _, _, h3, h4, _⟩
  · injection h1 with _ h3 h4
    omega
  · injection hv with _ _ hc
    unfold maxLen at h4
    omega
/-- The ways on which nothing is looked at. -/
def FitsOff (l : List Chd) (n : Nat) (i : Int) (x : Chd) : Prop :=
  (putC l).2 ≠ 0 ∨ ((putC l).2 = 0 ∧ n ≤ 120 ∧ (i < 0 ∨ (0 ≤ i ∧ (n : Int) ≤ i) ∨ (0 ≤ i ∧ i < n ∧ x.key.size < 1) ∨ (0 ≤ i ∧ i < n ∧ 1 ≤ x.key.size ∧ 40 < x.key.size) ∨ (0 ≤ i ∧ i < n ∧ 1 ≤ x.key.size ∧ x.key.size ≤ 40 ∧ x.pg < 2) ∨ (0 ≤ i ∧ i < n ∧ 1 ≤ x.key.size ∧ x.key.size ≤ 40 ∧ 2 ≤ x.pg ∧ 4294967295 < x.pg)))
set_option maxRecDepth 100000 in
set_option maxHeartbeats 16000000 in
theorem fits_off {w : World} {ao : Option Addr} {n c : Nat} {l : List Chd} (hO : ∀ W, Below w.heap.size w W → ChdsOk W ao n l) (i : Int) (x : Chd) (hx : x.key.size ≤ 140737488351232) (hoff : FitsOff l n i x) :
    Calls Try.prog 13 #[.slice ao n c, .int .i64 i, .agg #[.string x.key, .int .i64 x.pg]] w fun e w' => e = .returned (.bool true) ∧ Below w.heap.size w w' := by
  have hB0 : Below w.heap.size w (w.alloc (.cells #[.string x.key, .int .i64 x.pg] 82)) := (Below.refl _ _).alloc (Nat.le_refl _) _
  have HPt := Lib.hid (putC_any (c := c) (hO _ hB0))
  have HB0 := Lib.hid hB0
  obtain ⟨q, hq⟩ : ∃ q, q = putC l := ⟨_, rfl⟩
  unfold FitsOff at hoff
  rw [← hq] at HPt hoff
  obtain ⟨q1, q2⟩ := q
  dsimp only at HPt hoff
  obtain ⟨Q, hQ⟩ : ∃ Q, Q = ByteArray.mk q1.toArray := ⟨_, rfl⟩
  rw [← hQ] at HPt
  clear hq hQ hB0 hO
  obtain ⟨xk, xp⟩ := x
  dsimp only at hoff hx HPt HB0 ⊢
  rcases hoff with hb | ⟨rfl, hn, h⟩
  · have d0 : (q2 != 0) = true := by simpa using hb
    clear hb
    go_enter Try.func13, Try.ntmps13
    go_wp2_with fail
    refine HPt.out.mono ?_
    rintro e w1 ⟨rfl, hb1⟩
    have HB1 := Lib.hid (HB0.out.trans (hb1.mono HB0.out.size))
    clear hb1 HB0
    go_wp2_with fail
    refine (aliveC9_any _).mono ?_
    rintro e wa ⟨rfl, hba⟩
    go_wp2_with fail
    go_ret
    exact ⟨rfl, HB1.out.trans (hba.mono HB1.out.size)⟩
  · have hcell : ∀ W, Below (w.heap.size + 1) (w.alloc (.cells #[.string xk, .int .i64 xp] 82)) W → W.cell? ⟨w.heap.size, 0, none⟩ = some (.string xk) ∧ W.cell? ⟨w.heap.size, 1, none⟩ = some (.int .i64 xp) := by
      intro W hb
      have hk : W.heap[w.heap.size]? = _ := (hb.block w.heap.size (by omega)).trans (heap_alloc_new w _)
      refine ⟨?_, ?_⟩ <;> rw [blk_cell hk] <;> rfl
    have HCl := Lib.hid hcell
    clear hcell
    rcases h with h | ⟨h1, h2⟩ | ⟨h1, h2, h3⟩ | ⟨h1, h2, h3, h4⟩ | ⟨h1, h2, h3, h4, h5⟩ | ⟨h1, h2, h3, h4, h5, h6⟩
    all_goals (
      go_enter Try.func13, Try.ntmps13
      go_wp2_with fail
      refine HPt.out.mono ?_
      rintro e w1 ⟨rfl, hb1⟩
      have HB1 := Lib.hid (HB0.out.trans (hb1.mono HB0.out.size))
      obtain ⟨c1, c2⟩ := HCl.out w1 (hb1.mono (by simp))
      clear hb1 HB0 HCl HPt
      go_wp2_with fail
      refine (aliveC9_any _).mono ?_
      rintro e wa ⟨rfl, hba⟩
      go_wp2_with fail
      go_ret
      exact ⟨rfl, HB1.out.trans (hba.mono HB1.out.size)⟩)
/-- The call of Replace, as the law makes it. -/
theorem fits_repl {w1 : World} {b o n c i : Nat} {l : List Chd} {e x : Chd} (hc1 : ChdsOk w1 (some ⟨b, o, none⟩) n l) (hnc : n ≤ c) (hc : c ≤ 140737488351232) (hin : i < n) :
    Calls Try.prog 63 #[.slice (some ⟨b, o, none⟩) n c, .int .i64 i, .slice (some ⟨w1.heap.size, 0, none⟩) 2 2] (w1.alloc (.cells #[.string e.key, .int .i64 e.pg, .string x.key, .int .i64 x.pg] 82)).drew (OwnsChds w1.heap.size (n + 1) (replC l i [e, x]) w1) := by
  have hb : Below w1.heap.size w1 (w1.alloc (.cells #[.string e.key, .int .i64 e.pg, .string x.key, .int .i64 x.pg] 82)).drew := Below.drew ((Below.refl _ _).alloc (Nat.le_refl _) _)
  obtain ⟨W, hW⟩ : ∃ W, W = (w1.alloc (.cells #[.string e.key, .int .i64 e.pg, .string x.key, .int .i64 x.pg] 82)).drew := ⟨_, rfl⟩
  have hk : W.heap[w1.heap.size]? = some (.cells #[.string e.key, .int .i64 e.pg, .string x.key, .int .i64 x.pg] 82 (0, 0)) := by rw [hW]; exact heap_alloc_new w1 _
  rw [← hW] at hb ⊢
  have h := replace_any (hc1.below hb).chds hnc (by omega) i hin (⟨chds_blk (l := [e, x]) hk rfl, fun h => by cases h⟩ : ChSrc W W.heap.size (some ⟨w1.heap.size, 0, none⟩) 2 2 [e, x]) (by have := hc1.few; omega)
  rw [show i + 2 + (n - (i + 1)) = n + 1 from by omega] at h
  refine h.mono ?_
  rintro e' w' ⟨ao, cap, he, ho, hb'⟩
  exact ⟨ao, cap, he, own_mono ho hb.size, hb.trans (hb'.mono hb.size)⟩
end Go.Proofs.Ytegiibpdkioocaa
