/- The walk of slices.Clone, of items: the same ones, in new memory. -/
import Derived.Test.YtmdidmllaldbaaaGreatClone
import Derived.Test.YtmdidmllaldbaaaGreatItB
import Derived.Lib.SliceRun
namespace Go.Proofs.YtmdidmllaldbaaaGreat
/-! ### The walk of slices.Clone, of items: the same ones, in new memory. -/
section
open Go.RowKit
set_option linter.unusedVariables false
theorem itmInfo : (Tryz.prog.info? 133).map (fun i => (i.zero, i.size, i.bytes)) = some (some (.agg #[.string ⟨#[]⟩, .string ⟨#[]⟩, .int .i64 0, .int .i64 0]), 4, 48) := by kernel_rfl
/-- A result that owns l. -/
def OwnsItms (B n : Nat) (l : List Itm) (w : World) (e : Ending) (w' : World) : Prop :=
  ∃ ao cap, e = .returned (.slice ao n cap) ∧ w'.ownsRow B 133 4 (.slice ao n cap) n (itmCells l) ∧ Below B w w'
set_option maxHeartbeats 400000 in
theorem cloneI_any (ao : Option Addr) (n c : Nat) (l : List Itm) (w : World) (hl : Itms w w.heap.size ao n l) (hn : n * 48 ≤ 140737488355328) (hnil : ao = none → n = 0) :
    Calls Tryz.prog 208 #[.slice ao n c] w (OwnsItms w.heap.size n l w) := by
  cases ao with
  | none =>
    obtain rfl : n = 0 := hnil rfl
    have hl0 : l = [] := List.eq_nil_of_length_eq_zero hl.1
    subst hl0
    have he := Lib.run_eql_slice_nil (P := Tryz.prog) w 131 133 none 0 c 0 0 Tryz.underlying131
    go_enter Tryz.func208, Tryz.ntmps208
    go_wp2
    go_ret
    exact ⟨none, 0, rfl, World.ownsRow_nil _ _ _ _, Below.refl _ _⟩
  | some ad =>
    obtain ⟨i0, hi, hz0, hz1, hz2⟩ := info_parts itmInfo
    have he := Lib.run_eql_slice_nil (P := Tryz.prog) w 131 133 (some ad) n c 0 0 Tryz.underlying131
    have hlen := itmCells_len l
    rw [hl.1] at hlen
    have hcells := (hl.below ((Below.refl w.heap.size w).alloc (Nat.le_refl _) (.cells #[] 133))).cells
    have HC := Lib.hid hcells
    have HLen := Lib.hid hlen
    have HL := Lib.hid hl
    have HOwn := Lib.hid (World.ownsRow_made (base := w.heap.size) (e := 133) (size := 4) w #[] 0 (Nat.le_refl _) (by unfold maxLen; omega) rfl)
    clear hl hcells hlen hnil
    go_enter Tryz.func208, Tryz.ntmps208
    go_wp2_with (at_builtin; refine wpList_append_own_at _ rfl (.tmp 5) (.tmp 6) 131 rfl w.heap.size 133 i0 _ 4 48 Tryz.underlying131 hi hz0 hz1 hz2 rfl (by omega) _ 0 [] rfl HOwn.out ad n c (itmCells l) rfl HLen.out HC.out (itmCells_one l) (by unfold maxLen; omega) (by omega) (by simp) ?_; intro v1 w1 hown1 hg1 _ _; obtain ⟨ao1, cap1, hv1, hcap1, hn1, ha1⟩ := own_shape hown1; rw [Nat.zero_add] at hv1; subst hv1)
    go_ret
    have hg1' : (w.alloc (.cells #[] 133)).grownBy w1 (some w.heap.size) := hg1
    have hb1 : Below w.heap.size w w1 := ((Below.refl _ _).alloc (Nat.le_refl _) _).grown hg1' (by simp) (fun k hk => by injection hk with hk; omega)
    rw [Nat.zero_add] at hown1
    exact ⟨ao1, cap1, rfl, hown1, hb1⟩
end
/-! ### Parts of items; a row of the call's own, from an earlier block on. -/
section
open Go.RowKit
theorem Itms.take {w : World} {B n : Nat} {b o : Nat} {l : List Itm} (h : Itms w B (some ⟨b, o, none⟩) n l) {i : Nat} (hi : i ≤ n) : Itms w B (some ⟨b, o, none⟩) i (l.take i) := by
  refine ⟨by rw [List.length_take, h.1]; omega, fun h0 => ?_⟩
  obtain ⟨b', o', ha, hb, hc⟩ := h.2 (by omega)
  injection ha with ha
  injection ha with h1 h2
  subst h1 h2
  refine ⟨b, o, rfl, hb, fun k e hk => hc k e ?_⟩
  rw [List.getElem?_take] at hk
  split at hk
  · exact hk
  · cases hk
theorem Itms.drop {w : World} {B n : Nat} {b o : Nat} {l : List Itm} (h : Itms w B (some ⟨b, o, none⟩) n l) {i : Nat} (hi : i ≤ n) : Itms w B (some ⟨b, o + i * 4, none⟩) (n - i) (l.drop i) := by
  refine ⟨by rw [List.length_drop, h.1], fun h0 => ?_⟩
  obtain ⟨b', o', ha, hb, hc⟩ := h.2 (by omega)
  injection ha with ha
  injection ha with h1 h2
  subst h1 h2
  refine ⟨b, o + i * 4, rfl, hb, fun k e hk => ?_⟩
  rw [List.getElem?_drop] at hk
  have := hc (i + k) e hk
  rw [show o + i * 4 + k * 4 = o + (i + k) * 4 from by omega]
  exact this
theorem own_mono {w : World} {base base' : Nat} {e : TypeId} {size n : Nat} {v : Value} {xs : List Value} (h : w.ownsRow base e size v n xs) (hb : base' ≤ base) : w.ownsRow base' e size v n xs := by
  refine ⟨h.1, ?_⟩
  rcases h.2 with hn | ⟨g, cap, cur, rfl, hbg, rest⟩
  · exact .inl hn
  · exact .inr ⟨g, cap, cur, rfl, Nat.le_trans hb hbg, rest⟩
end
end Go.Proofs.YtmdidmllaldbaaaGreat
