/- A builder that is asked for its text more than once. -/
import Derived.Test.YtmdidmllaldbaaaGreatBuild
namespace Go.Proofs.YtmdidmllaldbaaaGreat
open Go.RowKit
set_option linter.unusedVariables false
theorem cell_freeze (W : World) (p : Addr) (n : Nat) (a : Addr) : (W.freeze p n).cell? a = W.cell? a := by
  unfold World.freeze
  split
  · rfl
  · unfold World.cell?
    simp only [Array.getElem?_modify]
    by_cases h : p.block = a.block
    · rw [if_pos h]
      cases hx : W.heap[a.block]? with
      | none => rfl
      | some o => cases o <;> rfl
    · rw [if_neg h]
theorem shape_freeze (W : World) (p : Addr) (n : Nat) (r : Nat) : (W.freeze p n).shape? r = W.shape? r := by
  unfold World.freeze
  split
  · rfl
  · unfold World.shape?
    simp only [Array.getElem?_modify]
    by_cases h : p.block = r
    · rw [if_pos h]
      cases hx : W.heap[r]? with
      | none => rfl
      | some o => cases o <;> rfl
    · rw [if_neg h]
/-- What String reads. -/
structure StrAt (W : World) (b g cap : Nat) (l : List UInt8) : Prop where
  blk : W.cell? ⟨b, 1, none⟩ = some (.slice (some ⟨g, 0, none⟩) l.length cap)
  sh : ∃ n, W.shape? g = some (5, n) ∧ l.length ≤ n
  cells : ∀ (j : Nat) (x : UInt8), l[j]? = some x → W.cell? ⟨g, j, none⟩ = some (.int .u8 x.toNat)
  cap : l.length ≤ cap
theorem lt_of_cell {W : World} {a : Addr} {v : Value} (h : W.cell? a = some v) : a.block < W.heap.size := by
  unfold World.cell? at h
  rcases Nat.lt_or_ge a.block W.heap.size with hlt | hge
  · exact hlt
  · rw [Array.getElem?_eq_none hge] at h; cases h
theorem lt_of_shape {W : World} {g : Nat} {x : TypeId × Nat} (h : W.shape? g = some x) : g < W.heap.size := by
  unfold World.shape? at h
  rcases Nat.lt_or_ge g W.heap.size with hlt | hge
  · exact hlt
  · rw [Array.getElem?_eq_none hge] at h; cases h
theorem StrAt.below {W W' : World} {b g cap : Nat} {l : List UInt8} (h : StrAt W b g cap l) (hb : Below W.heap.size W W') : StrAt W' b g cap l := by
  obtain ⟨n, hn, hl⟩ := h.sh
  have hg := lt_of_shape hn
  refine ⟨(hb.cell (p := ⟨b, 1, none⟩) (lt_of_cell h.blk)).trans h.blk, ⟨n, ?_, hl⟩, fun j x hx => (hb.cell (p := ⟨g, j, none⟩) hg).trans (h.cells j x hx), h.cap⟩
  unfold World.shape? at hn ⊢
  rw [hb.block g hg]
  exact hn
theorem StrAt.ofBld {W : World} {B b : Nat} {l : List UInt8} (h : Bld W B b l) (h0 : l ≠ []) : ∃ g cap, StrAt W b g cap l ∧ B ≤ g := by
  obtain ⟨p, hB, v, hbk, hown, hne⟩ : ∃ p, Lib.BuilderAt 162 5 B b p (Lib.byteCells l) W := by
    rcases h with h | h
    · exact ⟨_, h⟩
    · exact ⟨_, h⟩
  rw [Lib.byteCells_length] at hown
  rcases hown.2 with ⟨rfl, hz⟩ | ⟨g, cap, cur, rfl, hbg, hg, hnc, hcm, hcs, htake⟩
  · exact absurd (List.eq_nil_of_length_eq_zero hz) h0
  · refine ⟨g, cap, ⟨by rw [Lib.cell_of_heap hbk]; rfl, ⟨cur.size, by unfold World.shape?; rw [hg], by omega⟩, fun j x hx => ?_, hnc⟩, hbg⟩
    have := hown.cells (g := g) rfl j (.int .u8 x.toNat) (by simp [Lib.byteCells, hx])
    rw [add_lit] at this
    exact this
set_option maxHeartbeats 1000000 in
theorem string_again {W : World} {B b g cap : Nat} {l : List UInt8} (h : StrAt W b g cap l) (h0 : l ≠ []) (hB : B ≤ g) (hcm : l.length ≤ 281474976710656) :
    Calls Tryz.prog 128 #[.pointer (some ⟨b, 0, none⟩)] W fun e w' => e = .returned (.string ⟨l.toArray⟩) ∧ Below B W w' ∧ StrAt w' b g cap l := by
  have hl0 : l.length ≠ 0 := by simpa using h0
  have hcap := h.cap
  have c1 := h.blk
  have hSD : ∀ w : World, (Builtin.unsafeSliceData_ #[160] 225 #[.slice (some ⟨g, 0, none⟩) l.length cap]).run Tryz.prog w = .ok (.pointer (some ⟨g, 0, none⟩)) w := fun w =>
    Lib.run_unsafeSliceData_row _ _ _ _ _ _ (by omega)
  obtain ⟨n, hn, hln⟩ := h.sh
  have hUS : (Builtin.unsafeString_ #[225, 3] 9 #[.pointer (some ⟨g, 0, none⟩), .int .i64 l.length]).run Tryz.prog W.drew = .ok (.string ⟨l.toArray⟩) (W.drew.freeze ⟨g, 0, none⟩ l.length) := by
    refine Lib.run_unsafeString_row W.drew 225 3 9 5 Tryz.underlying225 u8cells g n hn l h0 hln (by omega) ?_
    intro j x hx
    rw [add_lit]
    exact h.cells j x hx
  have HF : Hid (StrAt (W.drew.freeze ⟨g, 0, none⟩ l.length) b g cap l) := Lib.hid ⟨by rw [cell_freeze]; exact h.blk, ⟨n, by rw [shape_freeze]; exact hn, hln⟩, fun j x hx => by rw [cell_freeze]; exact h.cells j x hx, h.cap⟩
  clear hl0 h0 h hn
  go_enter Tryz.func128, Tryz.ntmps128
  go_wp2
  go_region
  all_goals (go_wp2; go_ret; exact ⟨rfl, Lib.below_freeze (Below.drew (Below.refl B W)) (p := ⟨g, 0, none⟩) hB _, HF.out⟩)
end Go.Proofs.YtmdidmllaldbaaaGreat
