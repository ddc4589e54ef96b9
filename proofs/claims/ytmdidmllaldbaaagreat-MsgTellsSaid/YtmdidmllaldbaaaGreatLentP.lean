/- The walks of arboretumbook.SamePairs. -/
import Derived.Test.YtmdidmllaldbaaaGreatPairB
import Derived.Test.YtmdidmllaldbaaaGreatChecked
import Derived.Laws.StructEq
import Derived.Deep.QuietTactic
import Derived.BigQuiet
import Derived.Test.YtmdidmllaldbaaaGreatBkP
import Derived.Test.YtmdidmllaldbaaaGreatViewE
import Derived.Test.YtmdidmllaldbaaaGreatBook
import Derived.Laws.AppendOwnNone
namespace Go.Proofs.YtmdidmllaldbaaaGreat
/-! ### The walks of arboretumbook.SamePairs. -/
section
open Go.RowKit
set_option linter.unusedVariables false
theorem sameP_len {w : World} {ao bo : Option Addr} {n m c d : Nat} (h : n ≠ m) :
    Calls Tryz.prog 198 #[.slice ao n c, .slice bo m d] w fun e w' => e = .returned (.bool false) ∧ w = w' := by
  have hd : ((n : Int) != (m : Int)) = true := by simp; omega
  go_enter Tryz.func198, Tryz.ntmps198
  go_wp2_with fail
  go_ret
  exact ⟨rfl, rfl⟩
set_option maxHeartbeats 1000000 in
theorem sameP_yes {w : World} {B : Nat} {ao bo : Option Addr} {n c d : Nat} {l : List Par} (ha : Pars w B ao n l) (hb : Pars w B bo n l) (hn : n ≤ 9223372036854775807) :
    Calls Tryz.prog 198 #[.slice ao n c, .slice bo n d] w fun e w' => e = .returned (.bool true) ∧ Below w.heap.size w w' := by
  have HA := Lib.hid ha
  have HB := Lib.hid hb
  clear ha hb
  go_enter Tryz.func198, Tryz.ntmps198
  go_wp2_with fail
  go_loopw [5] (fun i wr => ∃ k : Nat, k ≤ n ∧ i = .int .i64 k ∧ ∃ q, wr = w.drewN q) (fun i _ => n - (intOf i).toNat)
  case atStart => exact ⟨0, Nat.zero_le _, rfl, 0, rfl⟩
  case round =>
    obtain ⟨k, hk, rfl, q, rfl⟩ := hrel
    by_cases hlt : k < n
    · obtain ⟨g, o, e, rfl, hgB, hek, q1, q2⟩ := HA.out.get hlt
      obtain ⟨g', o', e', rfl, hgB', hek', r1, r2⟩ := HB.out.get hlt
      rw [hek] at hek'
      injection hek' with hek'
      subst hek'
      have hx1 : (0 : Int) ≤ k := by omega
      have hx2 : (k : Int) < n := by omega
      clear hek
      go_wp2_with fail
      go_quiet (fail)
      go_wp2_with fail
      go_roundw
      case rel => exact ⟨k + 1, by omega, by go_num, _, rfl⟩
      case measure => simp [intOf]; omega
    · go_wp2_with fail
      go_ret
      exact ⟨rfl, below_drewN (Below.refl _ _) _⟩
end
/-! ### The walks of arboretumbook's LentPairs and StaysPairs (printed by wip/gen_lent2.py). -/
section
open Go.RowKit
set_option linter.unusedVariables false
theorem ParAt_mk {w : World} {g k : Nat} {e : Par} (c : ∀ r, r < 2 → ∀ u, e.cells[r]? = some u → w.cell? ⟨g, k * 2 + r, none⟩ = some u) : ParAt w g (k * 2) e :=
  ⟨c 0 (by omega) _ rfl, c 1 (by omega) _ rfl⟩
def lmarkP : Par := ⟨⟨#[109, 97, 114, 107]⟩, ⟨#[]⟩⟩
/-- A lent row: the list, and the mark behind it. -/
def LentP (w : World) (B g n c : Nat) (l : List Par) : Prop :=
  n + 1 ≤ c ∧ B ≤ g ∧ w.ownsRow B 202 2 (.slice (some ⟨g, 0, none⟩) (n + 1) c) (n + 1) (parCells (l ++ [lmarkP]))
theorem LentP.below {w W : World} {B g n c : Nat} {l : List Par} (h : LentP w B g n c l) (hb : Below w.heap.size w W) : LentP W B g n c l :=
  ⟨h.1, h.2.1, own_below h.2.2 hb⟩
theorem LentP.cap {w : World} {B g n c : Nat} {l : List Par} (h : LentP w B g n c l) : c ≤ 9223372036854775807 := by
  obtain ⟨_, _, h⟩ := h
  rcases h.2 with ⟨hv, _⟩ | ⟨g', cap, cur, hv, _, _, _, hm, _⟩
  · cases hv
  · injection hv with hv _ hc; subst hc; unfold maxLen at hm; omega
theorem LentP.lt {w : World} {B g n c : Nat} {l : List Par} (h : LentP w B g n c l) : g < w.heap.size := (h.2.2.lt g rfl).2
theorem LentP.at_ {w : World} {B g n c : Nat} {l : List Par} (h : LentP w B g n c l) (hl : l.length = n) (j : Nat) (u : Value) (hj : (parCells l)[j]? = some u) : w.cell? ⟨g, j, none⟩ = some u := by
  have hc := h.2.2.cells (g := g) rfl j u (by rw [parCells_append, List.getElem?_append_left (List.getElem?_eq_some_iff.1 hj).1]; exact hj)
  rw [add_lit] at hc
  exact hc
theorem LentP.list {w : World} {B g n c : Nat} {l : List Par} (h : LentP w B g n c l) (hl : l.length = n) : Pars w w.heap.size (some ⟨g, 0, none⟩) n l := by
  refine ⟨hl, fun hn => ⟨g, 0, rfl, h.lt, fun k e hk => ?_⟩⟩
  have hkl := (List.getElem?_eq_some_iff.1 hk).1
  rw [Nat.zero_add]
  have c : ∀ r, r < 2 → ∀ u, e.cells[r]? = some u → w.cell? ⟨g, k * 2 + r, none⟩ = some u := fun r hr u hu => h.at_ hl _ u (by rw [parCells_get _ _ _ hr, hk]; exact hu)
  exact ParAt_mk c
theorem LentP.mark {w : World} {B g n c : Nat} {l : List Par} (h : LentP w B g n c l) (hl : l.length = n) : w.cell? ⟨g, n * 2, none⟩ = some (.string ⟨#[109, 97, 114, 107]⟩) := by
  rw [show n * 2 = n * 2 + 0 from rfl, h.2.2.cellAt _ (by omega), parCells_get _ _ _ (by omega), List.getElem?_append_right (by omega), hl, Nat.sub_self]
  rfl
set_option maxRecDepth 20000 in
set_option maxHeartbeats 1000000 in
theorem lentP_any {w : World} {ao : Option Addr} {n c : Nat} {l : List Par} (hI : ParsIn w ao n c l) (hn : n ≤ 1000) :
    Calls Tryz.prog 82 #[.slice ao n c] w fun e w' => ∃ g c', e = .returned (.slice (some ⟨g, 0, none⟩) n c') ∧ LentP w' w.heap.size g n c' l ∧ Below w.heap.size w w' := by
  obtain ⟨i0, hi, hz0, hz1, hz2⟩ := info_parts bkInfoP
  have HI := Lib.hid hI
  clear hI
  have hl := HI.out.pars.1
  cases ao with
  | none =>
    obtain ⟨hn0, hc0⟩ := HI.out.nil_ rfl
    subst hn0
    subst hc0
    have hvs : l = [] := List.eq_nil_of_length_eq_zero hl
    subst hvs
    clear HI hl
    go_enter Tryz.func82, Tryz.ntmps82
    go_wp2_with (first | (at_builtin; refine wpList_append_own_none rfl (.const (.slice none 0 0)) (.tmp 3) 116 rfl w.heap.size 202 i0 2 Tryz.underlying116 hi _ 0 [] rfl (World.ownsRow_nil _ _ _ _) rfl ?_) | (at_builtin; refine wpList_append_own_at _ rfl (.tmp 4) (.tmp 6) 116 rfl w.heap.size 202 i0 _ 2 32 Tryz.underlying116 hi hz0 hz1 hz2 rfl (by omega) _ 0 [] rfl (World.ownsRow_nil _ _ _ _) ⟨w.heap.size, 0, none⟩ 1 1 [.string ⟨#[109, 97, 114, 107]⟩, .string ⟨#[]⟩] rfl rfl (World.news_of_block (heap_alloc_new w _)) (parCells_one [lmarkP]) (by unfold maxLen; omega) (by omega) (by simp) ?_; intro v1 w8 hown8 hg8 _ _; obtain ⟨g8, c8, hv8, hgb8, _⟩ := hown8.form (by omega); subst hv8; have HO8 := Lib.hid hown8; have HB8 := Lib.hid (((Below.refl w.heap.size w).alloc (Nat.le_refl _) _).grown hg8 (by simp) (fun k hk => by cases hk)); have hcap8 : (1 : Nat) ≤ c8 := (own_capL hown8); clear hown8 hg8))
    go_ret
    exact ⟨g8, c8, rfl, ⟨hcap8, hgb8, HO8.out⟩, HB8.out⟩
  | some ad =>
    have hcells := Lib.hid HI.out.pars.cells
    have HLen : Hid ((parCells l).length = n * 2) := Lib.hid (by rw [parCells_len, hl])
    clear HI
    go_enter Tryz.func82, Tryz.ntmps82
    go_wp2_with (first | (at_builtin; refine wpList_append_own_at _ rfl (.const (.slice none 0 0)) (.tmp 3) 116 rfl w.heap.size 202 i0 _ 2 32 Tryz.underlying116 hi hz0 hz1 hz2 rfl (by omega) _ 0 [] rfl (World.ownsRow_nil _ _ _ _) ad n c (parCells l) rfl HLen.out hcells.out (parCells_one l) (by unfold maxLen; omega) (by omega) (by simp) ?_; intro v1 w8 hown8 hg8 _ _; rw [Nat.zero_add, List.nil_append] at hown8; obtain ⟨a8, c8, hv8, _⟩ := own_shape hown8; subst hv8; have HO8 := Lib.hid hown8; have HB8 := Lib.hid ((Below.refl w.heap.size w).grown hg8 (by simp) (fun k hk => by cases hk)); clear hown8 hg8) | (at_builtin; refine wpList_append_own_at _ rfl (.tmp 4) (.tmp 6) 116 rfl w.heap.size 202 i0 _ 2 32 Tryz.underlying116 hi hz0 hz1 hz2 rfl (by omega) _ n (parCells l) rfl (HO8.out.alloc _) ⟨w8.heap.size, 0, none⟩ 1 1 [.string ⟨#[109, 97, 114, 107]⟩, .string ⟨#[]⟩] rfl rfl (World.news_of_block (heap_alloc_new w8 _)) (parCells_one [lmarkP]) (by unfold maxLen; omega) (by omega) (by have := HB8.out.size; simp; omega) ?_; intro v1 w9 hown9 hg9 _ _; obtain ⟨g9, c9, hv9, hgb9, _⟩ := hown9.form (by omega); subst hv9; have HO9 := Lib.hid hown9; have HB9 := Lib.hid ((HB8.out.alloc HB8.out.size _).grown hg9 (by have := HB8.out.size; simp; omega) (fun k hk => (HO8.out.lt k hk).1)); have hcap9 : n + 1 ≤ c9 := (own_capL hown9); clear hown9 hg9))
    go_ret
    exact ⟨g9, c9, rfl, ⟨hcap9, hgb9, by rw [parCells_append]; exact HO9.out⟩, HB9.out⟩
set_option maxRecDepth 20000 in
set_option maxHeartbeats 1000000 in
theorem staysP_any {w : World} {bo : Option Addr} {B g n c d : Nat} {l : List Par} (hL : LentP w B g n c l) (hI : Pars w w.heap.size bo n l) (hn : n ≤ 1000) :
    Calls Tryz.prog 90 #[.slice (some ⟨g, 0, none⟩) n c, .slice bo n d] w fun e w' => e = .returned (.bool true) ∧ Below w.heap.size w w' := by
  have hl := hI.1
  have HS := Lib.hid (sameP_yes (c := c) (d := d) (hL.list hl) hI (by omega))
  have HM : Hid (∀ W, Below w.heap.size w W → W.cell? ⟨g, n * 2, none⟩ = some (.string ⟨#[109, 97, 114, 107]⟩)) := Lib.hid (fun W hb => (hL.below hb).mark hl)
  have h1 : ((n : Nat) : Int) + 1 ≤ c := by have := hL.1; omega
  have h2 := hL.cap
  have h3 : (0 : Int) ≤ n := by omega
  clear hL hI
  go_enter Tryz.func90, Tryz.ntmps90
  go_wp2_with fail
  refine HS.out.mono ?_
  rintro e w1 ⟨rfl, hb1⟩
  have q1 := HM.out w1 hb1
  go_wp2_with fail
  go_ret
  exact ⟨rfl, hb1⟩
end
end Go.Proofs.YtmdidmllaldbaaaGreat
