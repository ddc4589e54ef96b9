/- The walks of arboretumbook's LentEntries and StaysEntries (printed by wip/gen_lent2.py). -/
import Derived.Test.YtmdidmllaldbaaaGreatSame
import Derived.Test.YtmdidmllaldbaaaGreatEntW
import Derived.Test.YtmdidmllaldbaaaGreatBook
import Derived.Laws.AppendOwnNone
import Derived.BigQuiet
namespace Go.Proofs.YtmdidmllaldbaaaGreat
open Go.RowKit
set_option linter.unusedVariables false
def lmarkE : Ent := ⟨-77, 0, 0, ⟨#[]⟩⟩
/-- A lent row: the list, and the mark behind it. -/
def LentE (w : World) (B g n c : Nat) (l : List Ent) : Prop :=
  n + 1 ≤ c ∧ B ≤ g ∧ w.ownsRow B 51 4 (.slice (some ⟨g, 0, none⟩) (n + 1) c) (n + 1) (entCells (l ++ [lmarkE]))
theorem LentE.below {w W : World} {B g n c : Nat} {l : List Ent} (h : LentE w B g n c l) (hb : Below w.heap.size w W) : LentE W B g n c l :=
  ⟨h.1, h.2.1, own_below h.2.2 hb⟩
theorem LentE.cap {w : World} {B g n c : Nat} {l : List Ent} (h : LentE w B g n c l) : c ≤ 9223372036854775807 := by
  obtain ⟨_, _, h⟩ := h
  rcases h.2 with ⟨hv, _⟩ | ⟨g', cap, cur, hv, _, _, _, hm, _⟩
  · cases hv
  · injection hv with hv _ hc; subst hc; unfold maxLen at hm; omega
theorem LentE.lt {w : World} {B g n c : Nat} {l : List Ent} (h : LentE w B g n c l) : g < w.heap.size := (h.2.2.lt g rfl).2
theorem LentE.at_ {w : World} {B g n c : Nat} {l : List Ent} (h : LentE w B g n c l) (hl : l.length = n) (j : Nat) (u : Value) (hj : (entCells l)[j]? = some u) : w.cell? ⟨g, j, none⟩ = some u := by
  have hc := h.2.2.cells (g := g) rfl j u (by rw [entCells_append, List.getElem?_append_left (List.getElem?_eq_some_iff.1 hj).1]; exact hj)
  rw [add_lit] at hc
  exact hc
theorem LentE.list {w : World} {B g n c : Nat} {l : List Ent} (h : LentE w B g n c l) (hl : l.length = n) : Ents w w.heap.size (some ⟨g, 0, none⟩) n l := by
  refine ⟨hl, fun hn => ⟨g, 0, rfl, h.lt, fun k e hk => ?_⟩⟩
  have hkl := (List.getElem?_eq_some_iff.1 hk).1
  rw [Nat.zero_add]
  have c : ∀ r, r < 4 → ∀ u, e.cells[r]? = some u → w.cell? ⟨g, k * 4 + r, none⟩ = some u := fun r hr u hu => h.at_ hl _ u (by rw [entCells_get _ _ _ hr, hk]; exact hu)
  exact EntAt_mk c
theorem LentE.mark {w : World} {B g n c : Nat} {l : List Ent} (h : LentE w B g n c l) (hl : l.length = n) : w.cell? ⟨g, n * 4, none⟩ = some (.int .i64 (-77)) := by
  rw [show n * 4 = n * 4 + 0 from rfl, h.2.2.cellAt _ (by omega), entCells_get _ _ _ (by omega), List.getElem?_append_right (by omega), hl, Nat.sub_self]
  rfl
set_option maxRecDepth 20000 in
set_option maxHeartbeats 1000000 in
theorem lentE_any {w : World} {ao : Option Addr} {n c : Nat} {l : List Ent} (hI : EntsIn w ao n c l) (hn : n ≤ 1000) :
    Calls Tryz.prog 10 #[.slice ao n c] w fun e w' => ∃ g c', e = .returned (.slice (some ⟨g, 0, none⟩) n c') ∧ LentE w' w.heap.size g n c' l ∧ Below w.heap.size w w' := by
  obtain ⟨i0, hi, hz0, hz1, hz2⟩ := info_parts entInfoE
  have HI := Lib.hid hI
  clear hI
  have hl := HI.out.ents.1
  cases ao with
  | none =>
    obtain ⟨hn0, hc0⟩ := HI.out.nil_ rfl
    subst hn0
    subst hc0
    have hvs : l = [] := List.eq_nil_of_length_eq_zero hl
    subst hvs
    clear HI hl
    go_enter Tryz.func10, Tryz.ntmps10
    go_wp2_with (first | (at_builtin; refine wpList_append_own_none rfl (.const (.slice none 0 0)) (.tmp 3) 22 rfl w.heap.size 51 i0 4 Tryz.underlying22 hi _ 0 [] rfl (World.ownsRow_nil _ _ _ _) rfl ?_) | (at_builtin; refine wpList_append_own_at _ rfl (.tmp 4) (.tmp 6) 22 rfl w.heap.size 51 i0 _ 4 40 Tryz.underlying22 hi hz0 hz1 hz2 rfl (by omega) _ 0 [] rfl (World.ownsRow_nil _ _ _ _) ⟨w.heap.size, 0, none⟩ 1 1 [.int .i64 (-77), .int .i64 0, .int .i64 0, .string ⟨#[]⟩] rfl rfl (World.news_of_block (heap_alloc_new w _)) (entCells_one [lmarkE]) (by unfold maxLen; omega) (by omega) (by simp) ?_; intro v1 w8 hown8 hg8 _ _; obtain ⟨g8, c8, hv8, hgb8, _⟩ := hown8.form (by omega); subst hv8; have HO8 := Lib.hid hown8; have HB8 := Lib.hid (((Below.refl w.heap.size w).alloc (Nat.le_refl _) _).grown hg8 (by simp) (fun k hk => by cases hk)); have hcap8 : (1 : Nat) ≤ c8 := (own_capL hown8); clear hown8 hg8))
    go_ret
    exact ⟨g8, c8, rfl, ⟨hcap8, hgb8, HO8.out⟩, HB8.out⟩
  | some ad =>
    have hcells := Lib.hid HI.out.ents.cells
    have HLen : Hid ((entCells l).length = n * 4) := Lib.hid (by rw [entCells_len, hl])
    clear HI
    go_enter Tryz.func10, Tryz.ntmps10
    go_wp2_with (first | (at_builtin; refine wpList_append_own_at _ rfl (.const (.slice none 0 0)) (.tmp 3) 22 rfl w.heap.size 51 i0 _ 4 40 Tryz.underlying22 hi hz0 hz1 hz2 rfl (by omega) _ 0 [] rfl (World.ownsRow_nil _ _ _ _) ad n c (entCells l) rfl HLen.out hcells.out (entCells_one l) (by unfold maxLen; omega) (by omega) (by simp) ?_; intro v1 w8 hown8 hg8 _ _; rw [Nat.zero_add, List.nil_append] at hown8; obtain ⟨a8, c8, hv8, _⟩ := own_shape hown8; subst hv8; have HO8 := Lib.hid hown8; have HB8 := Lib.hid ((Below.refl w.heap.size w).grown hg8 (by simp) (fun k hk => by cases hk)); clear hown8 hg8) | (at_builtin; refine wpList_append_own_at _ rfl (.tmp 4) (.tmp 6) 22 rfl w.heap.size 51 i0 _ 4 40 Tryz.underlying22 hi hz0 hz1 hz2 rfl (by omega) _ n (entCells l) rfl (HO8.out.alloc _) ⟨w8.heap.size, 0, none⟩ 1 1 [.int .i64 (-77), .int .i64 0, .int .i64 0, .string ⟨#[]⟩] rfl rfl (World.news_of_block (heap_alloc_new w8 _)) (entCells_one [lmarkE]) (by unfold maxLen; omega) (by omega) (by have := HB8.out.size; simp; omega) ?_; intro v1 w9 hown9 hg9 _ _; obtain ⟨g9, c9, hv9, hgb9, _⟩ := hown9.form (by omega); subst hv9; have HO9 := Lib.hid hown9; have HB9 := Lib.hid ((HB8.out.alloc HB8.out.size _).grown hg9 (by have := HB8.out.size; simp; omega) (fun k hk => (HO8.out.lt k hk).1)); have hcap9 : n + 1 ≤ c9 := (own_capL hown9); clear hown9 hg9))
    go_ret
    exact ⟨g9, c9, rfl, ⟨hcap9, hgb9, by rw [entCells_append]; exact HO9.out⟩, HB9.out⟩
set_option maxRecDepth 20000 in
set_option maxHeartbeats 1000000 in
theorem staysE_any {w : World} {bo : Option Addr} {B g n c d : Nat} {l : List Ent} (hL : LentE w B g n c l) (hI : Ents w w.heap.size bo n l) (hn : n ≤ 1000) :
    Calls Tryz.prog 30 #[.slice (some ⟨g, 0, none⟩) n c, .slice bo n d] w fun e w' => e = .returned (.bool true) ∧ Below w.heap.size w w' := by
  have hl := hI.1
  have HS := Lib.hid (sameE_yes (c := c) (d := d) (hL.list hl) hI (by omega))
  have HM : Hid (∀ W, Below w.heap.size w W → W.cell? ⟨g, n * 4, none⟩ = some (.int .i64 (-77))) := Lib.hid (fun W hb => (hL.below hb).mark hl)
  have h1 : ((n : Nat) : Int) + 1 ≤ c := by have := hL.1; omega
  have h2 := hL.cap
  have h3 : (0 : Int) ≤ n := by omega
  clear hL hI
  go_enter Tryz.func30, Tryz.ntmps30
  go_wp2_with fail
  refine HS.out.mono ?_
  rintro e w1 ⟨rfl, hb1⟩
  have q1 := HM.out w1 hb1
  go_wp2_with fail
  go_ret
  exact ⟨rfl, hb1⟩
end Go.Proofs.YtmdidmllaldbaaaGreat
