/- The walk of slices.Clone, of children: the same ones, in new memory. -/
import Derived.Test.YtmdidmllaldbaaaGreatClone
import Derived.Test.YtmdidmllaldbaaaGreatChB
import Derived.Lib.SliceRun
namespace Go.Proofs.YtmdidmllaldbaaaGreat
open Go.RowKit
set_option linter.unusedVariables false
theorem chdInfo : (Tryz.prog.info? 192).map (fun i => (i.zero, i.size, i.bytes)) = some (some (.agg #[.string ⟨#[]⟩, .int .i64 0]), 2, 24) := by kernel_rfl
/-- A result that owns l. -/
def OwnsChds (B n : Nat) (l : List Chd) (w : World) (e : Ending) (w' : World) : Prop :=
  ∃ ao cap, e = .returned (.slice ao n cap) ∧ w'.ownsRow B 192 2 (.slice ao n cap) n (chdCells l) ∧ Below B w w'
set_option maxHeartbeats 400000 in
theorem cloneC_any (ao : Option Addr) (n c : Nat) (l : List Chd) (w : World) (hl : Chds w w.heap.size ao n l) (hn : n * 24 ≤ 140737488355328) (hnil : ao = none → n = 0) :
    Calls Tryz.prog 180 #[.slice ao n c] w (OwnsChds w.heap.size n l w) := by
  cases ao with
  | none =>
    obtain rfl : n = 0 := hnil rfl
    have hl0 : l = [] := List.eq_nil_of_length_eq_zero hl.1
    subst hl0
    have he := Lib.run_eql_slice_nil (P := Tryz.prog) w 66 192 none 0 c 0 0 Tryz.underlying66
    go_enter Tryz.func180, Tryz.ntmps180
    go_wp2
    go_ret
    exact ⟨none, 0, rfl, World.ownsRow_nil _ _ _ _, Below.refl _ _⟩
  | some ad =>
    obtain ⟨i0, hi, hz0, hz1, hz2⟩ := info_parts chdInfo
    have he := Lib.run_eql_slice_nil (P := Tryz.prog) w 66 192 (some ad) n c 0 0 Tryz.underlying66
    have hlen := chdCells_len l
    rw [hl.1] at hlen
    have hcells := (hl.below ((Below.refl w.heap.size w).alloc (Nat.le_refl _) (.cells #[] 192))).cells
    have HC := Lib.hid hcells
    have HLen := Lib.hid hlen
    have HL := Lib.hid hl
    have HOwn := Lib.hid (World.ownsRow_made (base := w.heap.size) (e := 192) (size := 2) w #[] 0 (Nat.le_refl _) (by unfold maxLen; omega) rfl)
    clear hl hcells hlen hnil
    go_enter Tryz.func180, Tryz.ntmps180
    go_wp2_with (at_builtin; refine wpList_append_own_at _ rfl (.tmp 5) (.tmp 6) 66 rfl w.heap.size 192 i0 _ 2 24 Tryz.underlying66 hi hz0 hz1 hz2 rfl (by omega) _ 0 [] rfl HOwn.out ad n c (chdCells l) rfl HLen.out HC.out (chdCells_one l) (by unfold maxLen; omega) (by omega) (by simp) ?_; intro v1 w1 hown1 hg1 _ _; obtain ⟨ao1, cap1, hv1, hcap1, hn1, ha1⟩ := own_shape hown1; rw [Nat.zero_add] at hv1; subst hv1)
    go_ret
    have hg1' : (w.alloc (.cells #[] 192)).grownBy w1 (some w.heap.size) := hg1
    have hb1 : Below w.heap.size w w1 := ((Below.refl _ _).alloc (Nat.le_refl _) _).grown hg1' (by simp) (fun k hk => by injection hk with hk; omega)
    rw [Nat.zero_add] at hown1
    exact ⟨ao1, cap1, rfl, hown1, hb1⟩
end Go.Proofs.YtmdidmllaldbaaaGreat
