/- The walks of arboretumbook's LentInts, StaysInts, SameTexts, LentTexts, StaysTexts (printed by wip/gen_lent.py). -/
import Derived.Test.YtmdidmllaldbaaaGreatViewE
import Derived.Test.YtmdidmllaldbaaaGreatRowsN
import Derived.Test.YtmdidmllaldbaaaGreatText
import Derived.Test.YtmdidmllaldbaaaGreatEntB
import Derived.Test.YtmdidmllaldbaaaGreatSame
import Derived.Laws.AppendOwnNone
import Derived.BigQuiet
namespace Go.Proofs.YtmdidmllaldbaaaGreat
open Go.RowKit
set_option linter.unusedVariables false
theorem intInfoL : (Tryz.prog.info? 3).map (fun i => (i.zero, i.size, i.bytes)) = some (some (.int .i64 0), 1, 8) := by kernel_rfl
theorem strInfoL : (Tryz.prog.info? 9).map (fun i => (i.zero, i.size, i.bytes)) = some (some (.string ⟨#[]⟩), 1, 16) := by kernel_rfl
theorem TextsAt.get {w : World} {ao : Option Addr} {n : Nat} {ss : List ByteArray} (h : TextsAt w ao n ss) {k : Nat} (hk : k < n) :
    ∃ b o s, ao = some ⟨b, o, none⟩ ∧ b < w.heap.size ∧ ss[k]? = some s ∧ w.cell? ⟨b, o + k, none⟩ = some (.string s) := by
  obtain ⟨b, o, ha, hb, hc⟩ := h.2 (by omega)
  have hkl : k < ss.length := by rw [h.1]; exact hk
  exact ⟨b, o, ss[k], ha, hb, List.getElem?_eq_getElem hkl, hc k _ (List.getElem?_eq_getElem hkl)⟩
set_option maxRecDepth 20000 in
set_option maxHeartbeats 1000000 in
theorem sameT_yes {w : World} {ao bo : Option Addr} {n c d : Nat} {l : List ByteArray} (ha : TextsAt w ao n l) (hb : TextsAt w bo n l) (hn : n ≤ 9223372036854775807) :
    Calls Tryz.prog 216 #[.slice ao n c, .slice bo n d] w fun e w' => e = .returned (.bool true) ∧ Below w.heap.size w w' := by
  have HA := Lib.hid ha
  have HB := Lib.hid hb
  clear ha hb
  go_enter Tryz.func216, Tryz.ntmps216
  go_wp2_with fail
  go_loopw [5] (fun i wr => ∃ k : Nat, k ≤ n ∧ i = .int .i64 k ∧ ∃ q, wr = w.drewN q) (fun i _ => n - (intOf i).toNat)
  case atStart => exact ⟨0, Nat.zero_le _, rfl, 0, rfl⟩
  case round =>
    obtain ⟨k, hk, rfl, q, rfl⟩ := hrel
    by_cases hlt : k < n
    · obtain ⟨g, o, e, rfl, hgB, hek, q1⟩ := HA.out.get hlt
      obtain ⟨g', o', e', rfl, hgB', hek', r1⟩ := HB.out.get hlt
      rw [hek] at hek'
      injection hek' with hek'
      subst hek'
      have hx1 : (0 : Int) ≤ k := by omega
      have hx2 : (k : Int) < n := by omega
      clear hek
      go_wp2_with fail
      go_quiet (fail)
      go_wp2_with fail
      go_roundw
      case rel => exact ⟨k + 1, by omega, by go_num, _, rfl⟩
      case measure => simp [intOf]; omega
    · go_wp2_with fail
      go_ret
      exact ⟨rfl, below_drewN (Below.refl _ _) _⟩
theorem own_cap {w : World} {base g : Nat} {e : TypeId} {size n c : Nat} {xs : List Value} (h : w.ownsRow base e size (.slice (some ⟨g, 0, none⟩) n c) n xs) : n ≤ c := by
  rcases h.2 with ⟨hv, _⟩ | ⟨g', cap, cur, hv, _, _, hm, _⟩
  · cases hv
  · injection hv with hv _ hc; subst hc; exact hm
/-- A lent row: the list, and the mark behind it. -/
def LentI (w : World) (B g n c : Nat) (vs : List Int) : Prop :=
  n + 1 ≤ c ∧ B ≤ g ∧ w.ownsRow B 3 1 (.slice (some ⟨g, 0, none⟩) (n + 1) c) (n + 1) (vs.map (Value.int .i64) ++ [.int .i64 (-77)])
theorem LentI.below {w W : World} {B g n c : Nat} {vs : List Int} (h : LentI w B g n c vs) (hb : Below w.heap.size w W) : LentI W B g n c vs :=
  ⟨h.1, h.2.1, own_below h.2.2 hb⟩
theorem LentI.cap {w : World} {B g n c : Nat} {vs : List Int} (h : LentI w B g n c vs) : c ≤ 9223372036854775807 := by
  obtain ⟨_, _, h⟩ := h
  rcases h.2 with ⟨hv, _⟩ | ⟨g', cap, cur, hv, _, _, _, hm, _⟩
  · cases hv
  · injection hv with hv _ hc; subst hc; unfold maxLen at hm; omega
theorem LentI.lt {w : World} {B g n c : Nat} {vs : List Int} (h : LentI w B g n c vs) : g < w.heap.size := (h.2.2.lt g rfl).2
theorem LentI.at_ {w : World} {B g n c : Nat} {vs : List Int} (h : LentI w B g n c vs) (hl : vs.length = n) (k : Nat) (v : Int) (hk : vs[k]? = some v) : w.cell? ⟨g, 0 + k, none⟩ = some ((Value.int .i64) v) := by
  have hkl : k < vs.length := (List.getElem?_eq_some_iff.1 hk).1
  have hc := h.2.2.cells (g := g) rfl k ((Value.int .i64) v) (by rw [List.getElem?_append_left (by simpa using hkl)]; simp [hk])
  rw [add_plain] at hc
  exact hc
theorem LentI.mark {w : World} {B g n c : Nat} {vs : List Int} (h : LentI w B g n c vs) (hl : vs.length = n) : w.cell? ⟨g, n, none⟩ = some (.int .i64 (-77)) := by
  have hc := h.2.2.cells (g := g) rfl n (.int .i64 (-77)) (by rw [List.getElem?_append_right (by simp [hl])]; simp [hl])
  rw [add_plain, Nat.zero_add] at hc
  exact hc
set_option maxRecDepth 20000 in
set_option maxHeartbeats 1000000 in
theorem lentI_any {w : World} {ao : Option Addr} {n c : Nat} {vs : List Int} (hI : IntsIn w ao n c vs) (hn : n ≤ 1000) :
    Calls Tryz.prog 11 #[.slice ao n c] w fun e w' => ∃ g c', e = .returned (.slice (some ⟨g, 0, none⟩) n c') ∧ LentI w' w.heap.size g n c' vs ∧ Below w.heap.size w w' := by
  obtain ⟨i0, hi, hz0, hz1, hz2⟩ := info_parts intInfoL
  have HI := Lib.hid hI
  clear hI
  cases ao with
  | none =>
    obtain ⟨hn0, hc0⟩ := HI.out.nil_ rfl
    have hl := HI.out.len
    subst hn0
    subst hc0
    have hvs : vs = [] := List.eq_nil_of_length_eq_zero hl
    subst hvs
    clear HI hl
    go_enter Tryz.func11, Tryz.ntmps11
    go_wp2_with (first | (at_builtin; refine wpList_append_own_none rfl (.const (.slice none 0 0)) (.tmp 3) 23 rfl w.heap.size 3 i0 1 Tryz.underlying23 hi _ 0 [] rfl (World.ownsRow_nil _ _ _ _) rfl ?_) | (at_builtin; refine wpList_append_own_at _ rfl (.tmp 4) (.tmp 5) 23 rfl w.heap.size 3 i0 _ 1 8 Tryz.underlying23 hi hz0 hz1 hz2 rfl (by omega) _ 0 [] rfl (World.ownsRow_nil _ _ _ _) ⟨w.heap.size, 0, none⟩ 1 1 [.int .i64 (-77)] rfl rfl (cell_one_new _ _ _) (by intro u hu; simp at hu; subst hu; rfl) (by unfold maxLen; omega) (by omega) (by simp) ?_; intro v1 w8 hown8 hg8 _ _; obtain ⟨g8, c8, hv8, hgb8, _⟩ := hown8.form (by omega); subst hv8; have HO8 := Lib.hid hown8; have HB8 := Lib.hid (((Below.refl w.heap.size w).alloc (Nat.le_refl _) _).grown hg8 (by simp) (fun k hk => by cases hk)); have hcap8 : (1 : Nat) ≤ c8 := (own_cap hown8); clear hown8 hg8))
    go_ret
    exact ⟨g8, c8, rfl, ⟨hcap8, hgb8, HO8.out⟩, HB8.out⟩
  | some ad =>
    have hl := HI.out.len
    have hcells : Hid (∀ j u, (vs.map (Value.int .i64))[j]? = some u → w.cell? (ad.add j) = some u) := Lib.hid (by
      intro j u hu
      rw [List.getElem?_map] at hu
      cases hj : vs[j]? with
      | none => rw [hj] at hu; cases hu
      | some x =>
        rw [hj] at hu
        injection hu with hu
        subst hu
        have hjl : j < vs.length := (List.getElem?_eq_some_iff.1 hj).1
        obtain ⟨b, o, ha, _, hc⟩ := HI.out.cell (by omega)
        injection ha with ha
        subst ha
        rw [add_plain]
        exact hc j x hj)
    have HLen : Hid ((vs.map (Value.int .i64)).length = n * 1) := Lib.hid (by rw [List.length_map, hl, Nat.mul_one])
    clear HI
    go_enter Tryz.func11, Tryz.ntmps11
    go_wp2_with (first | (at_builtin; refine wpList_append_own_at _ rfl (.const (.slice none 0 0)) (.tmp 3) 23 rfl w.heap.size 3 i0 _ 1 8 Tryz.underlying23 hi hz0 hz1 hz2 rfl (by omega) _ 0 [] rfl (World.ownsRow_nil _ _ _ _) ad n c (vs.map (Value.int .i64)) rfl HLen.out hcells.out (by intro u hu; obtain ⟨x, _, rfl⟩ := List.mem_map.1 hu; rfl) (by unfold maxLen; omega) (by omega) (by simp) ?_; intro v1 w8 hown8 hg8 _ _; rw [Nat.zero_add, List.nil_append] at hown8; obtain ⟨a8, c8, hv8, _⟩ := own_shape hown8; subst hv8; have HO8 := Lib.hid hown8; have HB8 := Lib.hid ((Below.refl w.heap.size w).grown hg8 (by simp) (fun k hk => by cases hk)); clear hown8 hg8) | (at_builtin; refine wpList_append_own_at _ rfl (.tmp 4) (.tmp 5) 23 rfl w.heap.size 3 i0 _ 1 8 Tryz.underlying23 hi hz0 hz1 hz2 rfl (by omega) _ n (vs.map (Value.int .i64)) rfl (HO8.out.alloc _) ⟨w8.heap.size, 0, none⟩ 1 1 [.int .i64 (-77)] rfl rfl (cell_one_new _ _ _) (by intro u hu; simp at hu; subst hu; rfl) (by unfold maxLen; omega) (by omega) (by have := HB8.out.size; simp; omega) ?_; intro v1 w9 hown9 hg9 _ _; obtain ⟨g9, c9, hv9, hgb9, _⟩ := hown9.form (by omega); subst hv9; have HO9 := Lib.hid hown9; have HB9 := Lib.hid ((HB8.out.alloc HB8.out.size _).grown hg9 (by have := HB8.out.size; simp; omega) (fun k hk => (HO8.out.lt k hk).1)); have hcap9 : n + 1 ≤ c9 := (own_cap hown9); clear hown9 hg9))
    go_ret
    exact ⟨g9, c9, rfl, ⟨hcap9, hgb9, HO9.out⟩, HB9.out⟩
set_option maxRecDepth 20000 in
set_option maxHeartbeats 1000000 in
theorem staysI_any {w : World} {bo : Option Addr} {B g n c d : Nat} {vs : List Int} (hL : LentI w B g n c vs) (hI : IntsOf w bo n vs) (hn : n ≤ 1000) :
    Calls Tryz.prog 31 #[.slice (some ⟨g, 0, none⟩) n c, .slice bo n d] w fun e w' => e = .returned (.bool true) ∧ Below w.heap.size w w' := by
  have hl := hI.1
  have HS := Lib.hid (sameI_yes (c := c) (d := d) (show IntsOf w (some ⟨g, 0, none⟩) n vs from ⟨hl, hI.2.1, fun _ => ⟨g, 0, rfl, hL.lt, hL.at_ hl⟩⟩) hI (by omega))
  have HM : Hid (∀ W, Below w.heap.size w W → W.cell? ⟨g, n, none⟩ = some (.int .i64 (-77))) := Lib.hid (fun W hb => (hL.below hb).mark hl)
  have h1 : ((n : Nat) : Int) + 1 ≤ c := by have := hL.1; omega
  have h2 := hL.cap
  have h3 : (0 : Int) ≤ n := by omega
  clear hL hI
  go_enter Tryz.func31, Tryz.ntmps31
  go_wp2_with fail
  refine HS.out.mono ?_
  rintro e w1 ⟨rfl, hb1⟩
  have q1 := HM.out w1 hb1
  go_wp2_with fail
  go_ret
  exact ⟨rfl, hb1⟩
/-- A lent row: the list, and the mark behind it. -/
def LentT (w : World) (B g n c : Nat) (vs : List ByteArray) : Prop :=
  n + 1 ≤ c ∧ B ≤ g ∧ w.ownsRow B 9 1 (.slice (some ⟨g, 0, none⟩) (n + 1) c) (n + 1) (vs.map Value.string ++ [.string ⟨#[109, 97, 114, 107]⟩])
theorem LentT.below {w W : World} {B g n c : Nat} {vs : List ByteArray} (h : LentT w B g n c vs) (hb : Below w.heap.size w W) : LentT W B g n c vs :=
  ⟨h.1, h.2.1, own_below h.2.2 hb⟩
theorem LentT.cap {w : World} {B g n c : Nat} {vs : List ByteArray} (h : LentT w B g n c vs) : c ≤ 9223372036854775807 := by
  obtain ⟨_, _, h⟩ := h
  rcases h.2 with ⟨hv, _⟩ | ⟨g', cap, cur, hv, _, _, _, hm, _⟩
  · cases hv
  · injection hv with hv _ hc; subst hc; unfold maxLen at hm; omega
theorem LentT.lt {w : World} {B g n c : Nat} {vs : List ByteArray} (h : LentT w B g n c vs) : g < w.heap.size := (h.2.2.lt g rfl).2
theorem LentT.at_ {w : World} {B g n c : Nat} {vs : List ByteArray} (h : LentT w B g n c vs) (hl : vs.length = n) (k : Nat) (v : ByteArray) (hk : vs[k]? = some v) : w.cell? ⟨g, 0 + k, none⟩ = some (Value.string v) := by
  have hkl : k < vs.length := (List.getElem?_eq_some_iff.1 hk).1
  have hc := h.2.2.cells (g := g) rfl k (Value.string v) (by rw [List.getElem?_append_left (by simpa using hkl)]; simp [hk])
  rw [add_plain] at hc
  exact hc
theorem LentT.mark {w : World} {B g n c : Nat} {vs : List ByteArray} (h : LentT w B g n c vs) (hl : vs.length = n) : w.cell? ⟨g, n, none⟩ = some (.string ⟨#[109, 97, 114, 107]⟩) := by
  have hc := h.2.2.cells (g := g) rfl n (.string ⟨#[109, 97, 114, 107]⟩) (by rw [List.getElem?_append_right (by simp [hl])]; simp [hl])
  rw [add_plain, Nat.zero_add] at hc
  exact hc
end Go.Proofs.YtmdidmllaldbaaaGreat
