/- The walks of slices.Clone (of ints) and of cli.New: a client of its own. -/
import Derived.Test.YtfogoebflfkknaaClone
import Derived.Test.YtfogoebflfkknaaEntB
import Derived.Test.YtfogoebflfkknaaEntM
import Derived.Lib.SliceRun
import Derived.Deep.RegionHeld3
import Derived.Conc.SmallLaws
namespace Go.Proofs.Ytfogoebflfkknaa
open Go.RowKit
set_option linter.unusedVariables false
/-- A result that owns the numbers vs. -/
def OwnsInts (B n : Nat) (vs : List Int) (w : World) (e : Ending) (w' : World) : Prop :=
  ∃ ao cap, e = .returned (.slice ao n cap) ∧ w'.ownsRow B 3 1 (.slice ao n cap) n (vs.map (Value.int .i64)) ∧ Below B w w'
theorem intCells_one (vs : List Int) : ∀ u ∈ vs.map (Value.int .i64), u.oneCell' = true := by
  intro u hu
  obtain ⟨v, _, rfl⟩ := List.mem_map.1 hu
  rfl
set_option maxHeartbeats 400000 in
theorem cloneI_any (ad : Addr) (n c : Nat) (vs : List Int) (w : World) (hlen : vs.length = n) (hcells : ∀ j u, (vs.map (Value.int .i64))[j]? = some u → (w.alloc (.cells #[] 3)).cell? (ad.add j) = some u) (hn : n * 8 ≤ 140737488355328) :
    Calls Try.prog 72 #[.slice (some ad) n c] w (OwnsInts w.heap.size n vs w) := by
  obtain ⟨i0, hi, hz0, hz1, hz2⟩ := info_parts intinfo
  have he := Lib.run_eql_slice_nil (P := Try.prog) w 46 3 (some ad) n c 0 0 Try.underlying46
  have hl : (vs.map (Value.int .i64)).length = n * 1 := by simp [hlen]
  have HC := Lib.hid hcells
  have HLen := Lib.hid hl
  have HOwn := Lib.hid (World.ownsRow_made (base := w.heap.size) (e := 3) (size := 1) w #[] 0 (Nat.le_refl _) (by unfold maxLen; omega) rfl)
  clear hcells hl hlen
  go_enter Try.func72, Try.ntmps72
  go_wp2_with (at_builtin; refine wpList_append_own_at _ rfl (.tmp 5) (.tmp 6) 46 rfl w.heap.size 3 i0 _ 1 8 Try.underlying46 hi hz0 hz1 hz2 rfl (by omega) _ 0 [] rfl HOwn.out ad n c (vs.map (Value.int .i64)) rfl HLen.out HC.out (intCells_one vs) (by unfold maxLen; omega) (by omega) (by simp) ?_; intro v1 w1 hown1 hg1 _ _; obtain ⟨ao1, cap1, hv1, hcap1, hn1, ha1⟩ := own_shape hown1; rw [Nat.zero_add] at hv1; subst hv1)
  go_ret
  have hg1' : (w.alloc (.cells #[] 3)).grownBy w1 (some w.heap.size) := hg1
  have hb1 : Below w.heap.size w w1 := ((Below.refl _ _).alloc (Nat.le_refl _) _).grown hg1' (by simp) (fun k hk => by injection hk with hk; omega)
  rw [Nat.zero_add] at hown1
  exact ⟨ao1, cap1, rfl, hown1, hb1⟩
end Go.Proofs.Ytfogoebflfkknaa
