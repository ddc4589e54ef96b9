/- The walk of cli.New: a client of its own. -/
import Derived.Test.YtfogoebflfkknaaCliNew
import Derived.Test.YtfogoebflfkknaaCliJ
import Derived.Deep.RegionWith
namespace Go.Proofs.Ytfogoebflfkknaa
open Go.Conc Go.RowKit
set_option linter.unusedVariables false
def newV (id : Int) (l : List Int) : CliV := { id := id, nodes := l, cur := 0, ss := 0, sq := 0, number := 0, asked := false, op := op0, num := 0, opn := false, qu := op0, wait := 0, stays := false }
def NewCli (W : World) (id : Int) (l : List Int) (e : Ending) (w' : World) : Prop :=
  ∃ b gn ch cap, e = .returned (.tuple #[.pointer (some ⟨b, 0, none⟩), .int .i64 0]) ∧ Cli W w' W.heap.size b gn ch cap (newV id l) []
theorem mkchan (W : World) : (Instr.makeChan 75 (.int .i64 1)).run Try.prog W = .ok (.chan (some W.heap.size)) (W.alloc (.chan 1 #[] false 0 0 false)) := by
  have h : (Try.prog.info? 123).map (·.bytes) = some 40 := by kernel_rfl
  obtain ⟨i, hi, hb⟩ := Option.map_eq_some_iff.1 h
  simpa using run_makeChan (P := Try.prog) (w := W) Try.underlying75 hi .i64 1 (by omega) (by rw [hb]; omega)
theorem cell_alloc_lt {W : World} {o : Obj} {a : Addr} (h : a.block < W.heap.size) : (W.alloc o).cell? a = W.cell? a := World.cell?_alloc_old _ _ _ (Nat.ne_of_lt h)
theorem Cli.fresh {W W' : World} {b ch n cap base : Nat} {id : Int} {l : List Int} {ao : Option Addr} (hn : l.length = n) (h0 : 0 < n) (h9 : n ≤ 100) (hown : W'.ownsRow base 3 1 (.slice ao n cap) n (l.map (Value.int .i64))) (hbase : W.heap.size ≤ base)
    (hblk : W'.heap[b]? = some (.cells (cliCells (newV id l) (.slice ao n cap) (.chan (some ch))) 77 (0, 0))) (hch : W'.heap[ch]? = some (.chan 1 #[] false 0 0 false)) (hB : Below W.heap.size W W') (hb : W.heap.size ≤ b) (hc : W.heap.size ≤ ch) :
    ∃ gn, Cli W W' W.heap.size b gn ch cap (newV id l) [] := by
  rcases hown.2 with ⟨_, h⟩ | ⟨g, cap', cur, hv, hg1, hg2, -⟩
  · omega
  · injection hv with hv hv2 hv3
    subst hv hv3
    refine ⟨g, ⟨?_, ?_, ?_, blk_lt hg2, ?_, ?_, ⟨0, 0, by simpa using hch⟩, hB, hb, Nat.le_trans hbase hg1, hc, ?_, ?_, ?_⟩⟩
    · rw [hblk, ← hn]; rfl
    · intro i x hi
      have := hown.cells (g := g) rfl i (.int .i64 x) (by rw [List.getElem?_map]; show Option.map _ (l[i]?) = _; rw [show l[i]? = some x from hi]; rfl)
      rwa [add_lit] at this
    · exact fun i => blk_frozen hg2 i
    · intro e
      rw [e, hblk] at hg2
      injection hg2 with hg2
      injection hg2 with _ hg2
      exact absurd hg2 (by decide)
    · intro e
      rw [e, hch] at hg2
      cases hg2
    · show 0 < l.length; omega
    · show l.length ≤ 100; omega
    · show 0 < l.length; omega
set_option maxRecDepth 20000 in
set_option maxHeartbeats 2000000 in
theorem new_any (ad : Addr) (n c : Nat) (l : List Int) (W : World) (hl : l.length = n) (h0 : 0 < n) (h9 : n ≤ 9) (hlt : ad.block < W.heap.size) (hc : ∀ j x, l[j]? = some x → W.cell? (ad.add j) = some (.int .i64 x)) (id : Int) (hid : 100 ≤ id ∧ id ≤ 1000) :
    Calls Try.prog 36 #[.int .i64 id, .slice (some ad) n c] W (NewCli W id l) := by
  have hcells : ∀ W', Below W.heap.size W W' → ∀ j u, (l.map (Value.int .i64))[j]? = some u → (W'.alloc (.cells #[] 3)).cell? (ad.add j) = some u := by
    intro W' hb j u hu
    rw [List.getElem?_map] at hu
    obtain ⟨x, hx, rfl⟩ := Option.map_eq_some_iff.1 hu
    rw [cell_alloc_lt (by rw [add_block]; exact Nat.lt_of_lt_of_le hlt hb.size), hb.cell (by rw [add_block]; exact hlt)]
    exact hc j x hx
  have HCl := Lib.hid (fun W' hb => cloneI_any ad n c l W' hl (hcells W' hb) (by omega))
  have HM := mkchan
  have d1 : decide (id < 100) = false := by simp; omega
  have d2 : decide (1000 < id) = false := by simp; omega
  have d3 : decide (9 < (n : Int)) = false := by simp; omega
  have d4 : (((n : Nat) : Int) == 0) = false := by rw [beq_eq_false_iff_ne]; omega
  have d5 : decide (9 < n) = false := by simp; omega
  clear hcells hc hid
  go_enter Try.func36, Try.ntmps36
  go_wp2_with fail
  go_region_with ((go_at_call 72; refine (HCl.out _ (by ((repeat (with_reducible (first | exact Below.refl _ _ | refine Below.drew ?_ | refine Below.alloc ?_ ?_ _))); all_goals (simp <;> omega)))).mono ?_; rintro e w1 ⟨ao1, cap1, rfl, hown, hb1⟩))
  · have hz := hb1.size
    have hb0 : Below W.heap.size W w1 := (Below.refl _ _).drew.trans hb1
    have hA := ((hb0.alloc hb0.size (.chan 1 #[] false 0 0 false)).alloc (by have := hb0.size; simp; omega) (.cells (cliCells (newV id l) (.slice ao1 n cap1) (.chan (some w1.heap.size))) 77))
    obtain ⟨gn, hC⟩ := Cli.fresh (W := W) (id := id) hl h0 (by omega) (own_below hown (((Below.refl w1.heap.size w1).alloc (Nat.le_refl _) (.chan 1 #[] false 0 0 false)).alloc (by simp) (.cells (cliCells (newV id l) (.slice ao1 n cap1) (.chan (some w1.heap.size))) 77))) (Nat.le_refl _) (new_at _ _ (w1.heap.size + 1) (by simp)) (old_at _ _ _ _ (heap_alloc_new w1 _)) hA (by have := hb0.size; omega) (by have := hb0.size; omega)
    go_wp2_with fail
    go_ret2
    exact ⟨w1.heap.size + 1, gn, w1.heap.size, cap1, rfl, hC⟩
  · have hz : W.heap.size + 1 ≤ w1.heap.size := by have := hb1.size; simpa using this
    have hb0 : Below W.heap.size W w1 := ((Below.refl W.heap.size W).alloc (Nat.le_refl _) (.chan 1 #[] false 0 0 false)).drew.trans (hb1.mono (by simp))
    have hch : w1.heap[W.heap.size]? = some (.chan 1 #[] false 0 0 false) := (hb1.block W.heap.size (by simp)).trans (at_drew (heap_alloc_new W _))
    have hA := hb0.alloc hb0.size (.cells (cliCells (newV id l) (.slice ao1 n cap1) (.chan (some W.heap.size))) 77)
    obtain ⟨gn, hC⟩ := Cli.fresh (W := W) (id := id) hl h0 (by omega) (own_below hown ((Below.refl w1.heap.size w1).alloc (Nat.le_refl _) (.cells (cliCells (newV id l) (.slice ao1 n cap1) (.chan (some W.heap.size))) 77))) (by simp) (heap_alloc_new w1 _) (old_at _ _ _ _ hch) hA (by omega) (Nat.le_refl _)
    go_wp2_with fail
    go_ret2
    exact ⟨w1.heap.size, gn, W.heap.size, cap1, rfl, hC⟩
end Go.Proofs.Ytfogoebflfkknaa
