/- The walks of a client's pause and next. -/
import Derived.Test.YtfogoebflfkknaaCliB
import Derived.StillTailTactics
namespace Go.Proofs.Ytfogoebflfkknaa
open Go.Conc Go.RowKit
set_option linter.unusedVariables false
theorem at_drew {w : World} {g : Nat} {o : Obj} (h : w.heap[g]? = some o) : w.drew.heap[g]? = some o := h
theorem at_drewN {w : World} {g n : Nat} {o : Obj} (h : w.heap[g]? = some o) : (w.drewN n).heap[g]? = some o := h
theorem g_drewN {a w : World} {n : Nat} {r : Option Nat} (h : a.grownBy w r) : a.grownBy (w.drewN n) r := h.trans (grown_drewN _ n _)
theorem at_far {w : World} {g g' i : Nat} {o : Obj} {u : Value} (h : w.heap[g]? = some o) (hne : g' ≠ g) : (w.setCell ⟨g', i, none⟩ u).heap[g]? = some o :=
  (Below.heap_setCell _ _ _ _ (fun e => hne e.symm)).trans h
theorem g_set {a w : World} {b i : Nat} {u : Value} (h : a.grownBy w (some b)) : a.grownBy (w.setCell ⟨b, i, none⟩ u) (some b) := h.trans (grown_set _ _ _ _)
theorem g_new {a w : World} {b g i : Nat} {u : Value} (h : a.grownBy w (some b)) (hg : a.heap.size ≤ g) : a.grownBy (w.setCell ⟨g, i, none⟩ u) (some b) :=
  ⟨h.os, h.tape, h.output, by simpa [World.setCell] using h.size, fun k hk hne => (Below.heap_setCell _ _ _ _ (fun e => by simp at e; omega)).trans (h.block k hk hne)⟩
theorem g_alloc {a w : World} {o : Obj} {r : Option Nat} (h : a.grownBy w r) : a.grownBy (w.alloc o) r := h.trans (World.grownBy_alloc _ _ _)
theorem g_drew {a w : World} {r : Option Nat} (h : a.grownBy w r) : a.grownBy w.drew r := h.trans (grown_drewN _ 1 _)
variable {w0 W : World} {B b gn ch cap : Nat} {v : CliV} {q : List (Int × RepV)}
theorem pause_any (h : Cli w0 W B b gn ch cap v q) : Calls Try.prog 79 #[.pointer (some ⟨b, 0, none⟩)] W fun e w' => e = .returned (.tuple #[]) ∧ Cli w0 w' B b gn ch cap { v with wait := 4, stays := true } q ∧ FarC W w' b ch := by
  have HH := Lib.hid h
  have c21 : W.cell? ⟨b, 21, none⟩ = some (.int .i64 v.wait) := h.cell 21
  have c22 : W.cell? ⟨b, 22, none⟩ = some (.bool v.stays) := h.cell 22
  have f21 := h.fr 21
  have f22 := h.fr 22
  clear h
  go_enter Try.func79, Try.ntmps79
  go_wp2_with fail
  go_end0
  refine ⟨rfl, ?_⟩
  exact HH.out.upd2 _ (blk_set (blk_set HH.out.blk 21 _) 22 _) ((grown_set _ _ _ _).trans (grown_set _ _ _ _)) ((HH.out.below.setCell HH.out.hb _).setCell HH.out.hb _) (by simp [cliCells]) rfl HH.out.curlt
theorem next_any (h : Cli w0 W B b gn ch cap v q) : Calls Try.prog 77 #[.pointer (some ⟨b, 0, none⟩)] W fun e w' => e = .returned (.tuple #[]) ∧ Cli w0 w' B b gn ch cap { v with cur := (v.cur + 1) % v.nodes.length } q ∧ FarC W w' b ch := by
  have HH := Lib.hid h
  have c1 : W.cell? ⟨b, 1, none⟩ = some (.slice (some ⟨gn, 0, none⟩) v.nodes.length cap) := h.cell 1
  have c2 : W.cell? ⟨b, 2, none⟩ = some (.int .i64 v.cur) := h.cell 2
  have f2 := h.fr 2
  have hp := h.pos
  have hf := h.few
  have hc := h.curlt
  clear h
  go_enter Try.func77, Try.ntmps77
  go_wp2_with fail
  go_region
  all_goals
    go_end0
    refine ⟨rfl, ?_⟩
    have e : ((v.cur : Int) + 1) % (v.nodes.length : Int) = (((v.cur + 1) % v.nodes.length : Nat) : Int) := by simp
    exact HH.out.upd2 _ (blk_set HH.out.blk 2 _) (g_drew (grown_set _ _ _ _)) (HH.out.below.setCell HH.out.hb _).drew (by rw [e]; simp [cliCells]) rfl (Nat.mod_lt _ HH.out.pos)
end Go.Proofs.Ytfogoebflfkknaa
