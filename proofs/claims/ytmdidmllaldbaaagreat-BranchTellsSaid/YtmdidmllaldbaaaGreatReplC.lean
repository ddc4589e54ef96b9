/- The walk of branch.Replace. -/
import Derived.Test.YtmdidmllaldbaaaGreatConcC
import Derived.Test.YtmdidmllaldbaaaGreatViewC
import Derived.Deep.RegionHeld3
import Derived.Deep.DeepCutAuto
import Derived.IntWalk
namespace Go.Proofs.YtmdidmllaldbaaaGreat
open Go.RowKit
set_option linter.unusedVariables false
/-- The first child's key is taken off. -/
def clear0 : List Chd → List Chd
  | [] => []
  | e :: r => ⟨⟨#[]⟩, e.pg⟩ :: r
def replC (l : List Chd) (i : Nat) (x : List Chd) : List Chd := clear0 (l.take i ++ x ++ l.drop (i + 1))
theorem Chds.take {w : World} {B n : Nat} {b o : Nat} {l : List Chd} (h : Chds w B (some ⟨b, o, none⟩) n l) {i : Nat} (hi : i ≤ n) : Chds w B (some ⟨b, o, none⟩) i (l.take i) := by
  refine ⟨by rw [List.length_take, h.1]; omega, fun h0 => ?_⟩
  obtain ⟨b', o', ha, hb, hc⟩ := h.2 (by omega)
  injection ha with ha
  injection ha with h1 h2
  subst h1 h2
  refine ⟨b, o, rfl, hb, fun k e hk => hc k e ?_⟩
  rw [List.getElem?_take] at hk
  split at hk
  · exact hk
  · cases hk
theorem Chds.drop {w : World} {B n : Nat} {b o : Nat} {l : List Chd} (h : Chds w B (some ⟨b, o, none⟩) n l) {i : Nat} (hi : i ≤ n) : Chds w B (some ⟨b, o + i * 2, none⟩) (n - i) (l.drop i) := by
  refine ⟨by rw [List.length_drop, h.1], fun h0 => ?_⟩
  obtain ⟨b', o', ha, hb, hc⟩ := h.2 (by omega)
  injection ha with ha
  injection ha with h1 h2
  subst h1 h2
  refine ⟨b, o + i * 2, rfl, hb, fun k e hk => ?_⟩
  rw [List.getElem?_drop] at hk
  have := hc (i + k) e hk
  rw [show o + i * 2 + k * 2 = o + (i + k) * 2 from by omega]
  exact this
theorem clear0_cells (l : List Chd) (h : l ≠ []) : (chdCells l).set 0 (.string ⟨#[]⟩) = chdCells (clear0 l) := by
  cases l with
  | nil => exact absurd rfl h
  | cons e r => rfl
theorem clear0_len (l : List Chd) : (clear0 l).length = l.length := by cases l <;> rfl
theorem own_mono {w : World} {base base' : Nat} {e : TypeId} {size n : Nat} {v : Value} {xs : List Value} (h : w.ownsRow base e size v n xs) (hb : base' ≤ base) : w.ownsRow base' e size v n xs := by
  refine ⟨h.1, ?_⟩
  rcases h.2 with hn | ⟨g, cap, cur, rfl, hbg, rest⟩
  · exact .inl hn
  · exact .inr ⟨g, cap, cur, rfl, Nat.le_trans hb hbg, rest⟩
theorem ChSrc.below {w w' : World} {ao : Option Addr} {n c : Nat} {l : List Chd} (h : ChSrc w w.heap.size ao n c l) (hb : Below w.heap.size w w') : ChSrc w' w'.heap.size ao n c l :=
  ⟨(h.chds.below hb).mono hb.size, h.nil_⟩
/-- The call of Concat, as Replace makes it. -/
theorem repl_call {w : World} {bo : Option Addr} {b o o2 n1 c1 n3 c3 m d : Nat} {l1 xs l3 : List Chd} (h1 : Chds w w.heap.size (some ⟨b, o, none⟩) n1 l1) (h3 : Chds w w.heap.size (some ⟨b, o2, none⟩) n3 l3) (hX : ChSrc w w.heap.size bo m d xs) (hn : n1 + m + n3 ≤ 4000000) :
    Calls Tryz.prog 181 #[.slice (some ⟨w.heap.size, 0, none⟩) 3 3] (w.alloc (.cells #[.slice (some ⟨b, o, none⟩) n1 c1, .slice bo m d, .slice (some ⟨b, o2, none⟩) n3 c3] 66)).drew (OwnsChds w.heap.size (n1 + m + n3) (l1 ++ xs ++ l3) w) := by
  have hb : Below w.heap.size w (w.alloc (.cells #[.slice (some ⟨b, o, none⟩) n1 c1, .slice bo m d, .slice (some ⟨b, o2, none⟩) n3 c3] 66)).drew := Below.drew ((Below.refl _ _).alloc (Nat.le_refl _) _)
  have g1 : ChSrc w w.heap.size (some ⟨b, o, none⟩) n1 c1 l1 := ⟨h1, fun h => by cases h⟩
  have g3 : ChSrc w w.heap.size (some ⟨b, o2, none⟩) n3 c3 l3 := ⟨h3, fun h => by cases h⟩
  obtain ⟨W, hW⟩ : ∃ W, W = (w.alloc (.cells #[.slice (some ⟨b, o, none⟩) n1 c1, .slice bo m d, .slice (some ⟨b, o2, none⟩) n3 c3] 66)).drew := ⟨_, rfl⟩
  have hk : W.heap[w.heap.size]? = some (.cells #[.slice (some ⟨b, o, none⟩) n1 c1, .slice bo m d, .slice (some ⟨b, o2, none⟩) n3 c3] 66 (0, 0)) := by rw [hW]; exact heap_alloc_new w _
  rw [← hW] at hb ⊢
  refine (concatC_any hk (g1.below hb) (hX.below hb) (g3.below hb) hn).mono ?_
  rintro e w' ⟨ao, cap, he, ho, hb'⟩
  exact ⟨ao, cap, he, own_mono ho hb.size, hb.trans (hb'.mono hb.size)⟩
set_option maxRecDepth 20000 in
set_option maxHeartbeats 4000000 in
theorem replace_any {w : World} {ao bo : Option Addr} {n c m d : Nat} {l xs : List Chd} (hE : Chds w w.heap.size ao n l) (hnc : n ≤ c) (hc : c ≤ 9223372036854775807) (i : Nat) (hi : i < n) (hX : ChSrc w w.heap.size bo m d xs) (hnm : n + m ≤ 4000000) :
    Calls Tryz.prog 40 #[.slice ao n c, .int .i64 i, .slice bo m d] w (OwnsChds w.heap.size (i + m + (n - (i + 1))) (replC l i xs) w) := by
  obtain ⟨b, o, rfl, hbB, -⟩ := hE.2 (by omega)
  have HC : Hid (∀ o2 c3, (n - (i + 1) = 0 ∨ o2 = o + (i + 1) * 2) → Calls Tryz.prog 181 #[.slice (some ⟨w.heap.size, 0, none⟩) 3 3] (w.alloc (.cells #[.slice (some ⟨b, o, none⟩) i c, .slice bo m d, .slice (some ⟨b, o2, none⟩) (n - (i + 1)) c3] 66)).drew (OwnsChds w.heap.size (i + m + (n - (i + 1))) (l.take i ++ xs ++ l.drop (i + 1)) w)) := Lib.hid (fun o2 c3 ho => by
    refine repl_call (hE.take (by omega)) ?_ hX (by omega)
    rcases ho with h0 | rfl
    · have hl : l.drop (i + 1) = [] := List.drop_eq_nil_of_le (by rw [hE.1]; omega)
      rw [h0, hl]
      exact Chds.nil_ _ _ _
    · exact hE.drop (by omega))
  have hll : (l.take i ++ xs ++ l.drop (i + 1)).length = i + m + (n - (i + 1)) := by
    rw [List.length_append, List.length_append, List.length_take, List.length_drop, hE.1, hX.chds.1]
    omega
  obtain ⟨L, hL⟩ : ∃ L, L = l.take i ++ xs ++ l.drop (i + 1) := ⟨_, rfl⟩
  have HRp : Hid (replC l i xs = clear0 L) := Lib.hid (by rw [hL]; rfl)
  obtain ⟨N, hN⟩ : ∃ N, N = i + m + (n - (i + 1)) := ⟨_, rfl⟩
  have hN4 : N ≤ 4000000 := by omega
  obtain ⟨q, hq⟩ : ∃ q, q = n - (i + 1) := ⟨_, rfl⟩
  rw [← hL] at HC hll
  rw [← hq] at HC hN hll
  rw [← hN] at HC hll
  rw [← hq, ← hN]
  have HLl := Lib.hid hll
  have HQ := Lib.hid hq
  clear hE hX hL hll hN
  have w1 : IntKind.i64.wrap ((i : Int) + 1) = (i : Int) + 1 := IntWalk.i64_in _ (by omega)
  have w2 : (0 : Int) ≤ (i : Int) + 1 := by omega
  have w3 : ((i : Int) + 1).toNat = i + 1 := by omega
  have w4 : (i : Int) + 1 ≤ n := by omega
  have w5 : (0 : Int) ≤ i := by omega
  have w6 : (i : Int) ≤ n := by omega
  have w7 : (i : Int) < n := by omega
  have w8 : (n : Int) ≤ c := by omega
  go_enter Tryz.func40, Tryz.ntmps40
  go_upto_region 3 with fail
  go_cut [7] (fun s wx => ∃ ao' cap', s = .slice ao' N cap' ∧ Hid (wx.ownsRow w.heap.size 192 2 (.slice ao' N cap') N (chdCells L)) ∧ Hid (Below w.heap.size w wx))
  case first =>
    by_cases hcc : i + 1 = c
    · have hq0 : q = 0 := by omega
      subst hq0
      have H1 := Lib.hid (HC.out o 0 (.inl rfl))
      clear hq HC
      go_region_with (go_at_call 181; refine (H1.out).mono ?_; rintro e w2 ⟨ao2, cap2, rfl, hown2, hb2⟩)
      all_goals (
        go_wp2_with fail
        go_meet
        exact ⟨ao2, cap2, rfl, Lib.hid hown2, Lib.hid hb2⟩)
    · have H1 := Lib.hid (HC.out (o + (i + 1) * 2) (c - (i + 1)) (.inr rfl))
      clear hq HC
      have hq2 : n - (i + 1) = q := HQ.out.symm
      go_region_with (go_at_call 181; refine (H1.out).mono ?_; rintro e w2 ⟨ao2, cap2, rfl, hown2, hb2⟩)
      all_goals (
        go_wp2_with fail
        go_meet
        exact ⟨ao2, cap2, rfl, Lib.hid hown2, Lib.hid hb2⟩)
  case rest =>
    obtain ⟨ao', cap', rfl, HO, HB⟩ := hcut
    clear hq w1 w2 w3 w4 w5 w6 w7 w8
    by_cases h0 : N = 0
    · subst h0
      have hL0 : L = [] := List.eq_nil_of_length_eq_zero HLl.out
      go_wp2_with fail
      go_ret
      exact ⟨ao', cap', rfl, by rw [HRp.out, hL0]; rw [hL0] at HO; exact HO.out, HB.out⟩
    · obtain ⟨g, cap2, hv, hgb, hglt⟩ := HO.out.form (by omega)
      injection hv with hv _ hcv
      subst hv
      subst hcv
      have hLne : L ≠ [] := fun h => by have := HLl.out; rw [h] at this; simp at this; omega
      obtain ⟨e0, hLc⟩ : ∃ e r, L = e :: r := by cases L with
        | nil => exact absurd rfl hLne
        | cons e r => exact ⟨e, r, rfl⟩
      obtain ⟨r0, hLc⟩ := hLc
      have q1 : wc.cell? ⟨g, 0, none⟩ = some (.string e0.key) := by rw [HO.out.cellAt 0 (by omega), hLc]; rfl
      have q2 : wc.frozen? ⟨g, 0, none⟩ = false := HO.out.frozenAt _
      have hd : decide (0 < N) = true := by simp; omega
      have hp : 0 < N := by omega
      have HLC := Lib.hid (And.intro hLne hLc)
      clear h0 hLne hLc
      go_wp2_with fail
      go_ret
      exact ⟨some ⟨g, 0, none⟩, cap', rfl, by
        have h2 := (HO.out.stored 0 (.string ⟨#[]⟩)).1
        rw [clear0_cells L HLC.out.1, ← HRp.out] at h2
        exact h2, HB.out.setCell hgb _⟩
end Go.Proofs.YtmdidmllaldbaaaGreat
