/- The walk of arboretumlaw16.alive, and of Get at a nil reader. -/
import Derived.Test.YtmdidmllaldbaaaGreatEntG
import Derived.Laws.StructEq
namespace Go.Proofs.YtmdidmllaldbaaaGreat
open Go.RowKit
set_option linter.unusedVariables false
theorem get_nil (w : World) : Calls Tryz.prog 13 #[.pointer none] w fun e w' => e = .returned (.slice none 0 0) ∧ w = w' := by
  go_enter Tryz.func13, Tryz.ntmps13
  go_wp2_with fail
  refine (count_nil _ _).mono ?_
  rintro e w1 ⟨rfl, rfl⟩
  go_wp2_with fail
  go_loopw [3, 6] (fun l i wr => i = .int .i64 0 ∧ wr = w) (fun _ _ _ => 0)
  case atStart => exact ⟨rfl, rfl⟩
  case round =>
    obtain ⟨rfl, rfl⟩ := hrel
    go_wp2_with fail
    refine (err_nil _).mono ?_
    rintro e w1 ⟨rfl, rfl⟩
    go_wp2_with fail
    go_ret
    exact ⟨rfl, rfl⟩
def aE : Ent := ⟨3, 2, 1, ⟨#[100]⟩⟩
theorem aE_ok : EntOk aE := by unfold EntOk aE; decide
theorem aE_oks : ∀ e ∈ [aE], EntOk e := by
  intro e he
  rcases List.mem_singleton.1 he with rfl
  exact aE_ok
theorem alE_put13 (W : World) : Calls Tryz.prog 23 #[.slice (some ⟨W.heap.size, 0, none⟩) 2 2] (W.alloc (.cells #[.int .i64 1, .int .i64 3] 3)) fun e w' => e = .returned (.string ⟨#[4, 2, 6]⟩) ∧ Below W.heap.size W w' := by
  have hb := (Below.refl W.heap.size W).alloc (Nat.le_refl _) (.cells #[.int .i64 1, .int .i64 3] 3)
  refine (putMembers_any (n := 2) (vs := [1, 3]) ⟨rfl, by decide, fun _ => ⟨W.heap.size, 0, rfl, by simp, fun k v hk => ?_⟩⟩ (by omega)).mono ?_
  · rcases k with _ | _ | k
    · have : v = 1 := by simpa using hk.symm
      subst this; rw [World.cell?_alloc_new]; rfl
    · have : v = 3 := by simpa using hk.symm
      subst this; rw [World.cell?_alloc_new]; rfl
    · simp at hk
  · rintro e w' ⟨he, hb'⟩
    exact ⟨by rw [he]; exact ret_str (by decide), hb.trans (hb'.mono (by simp))⟩
theorem alE_put31 (W : World) : Calls Tryz.prog 23 #[.slice (some ⟨W.heap.size, 0, none⟩) 2 2] (W.alloc (.cells #[.int .i64 3, .int .i64 1] 3)) fun e w' => e = .returned (.string ⟨#[4, 6, 2]⟩) ∧ Below W.heap.size W w' := by
  have hb := (Below.refl W.heap.size W).alloc (Nat.le_refl _) (.cells #[.int .i64 3, .int .i64 1] 3)
  refine (putMembers_any (n := 2) (vs := [3, 1]) ⟨rfl, by decide, fun _ => ⟨W.heap.size, 0, rfl, by simp, fun k v hk => ?_⟩⟩ (by omega)).mono ?_
  · rcases k with _ | _ | k
    · have : v = 3 := by simpa using hk.symm
      subst this; rw [World.cell?_alloc_new]; rfl
    · have : v = 1 := by simpa using hk.symm
      subst this; rw [World.cell?_alloc_new]; rfl
    · simp at hk
  · rintro e w' ⟨he, hb'⟩
    exact ⟨by rw [he]; exact ret_str (by decide), hb.trans (hb'.mono (by simp))⟩
theorem alE_get13 (W : World) : Calls Tryz.prog 17 #[.string ⟨#[4, 2, 6]⟩] W fun e w' => ∃ g c, e = .returned (.tuple #[.slice (some ⟨g, 0, none⟩) 2 c, .int .i64 0]) ∧ w'.cell? ⟨g, 1, none⟩ = some (.int .i64 3) ∧ g < w'.heap.size ∧ Below W.heap.size W w' := by
  refine (getMembers_any ⟨#[4, 2, 6]⟩ W (by decide)).mono ?_
  rw [show membersP (ByteArray.mk #[4, 2, 6]).data.toList = ([1, 3], 0) from by decide]
  rintro e w' ⟨ao, N, c, he, ho, hl, hb⟩
  have hN : N = 2 := by rw [← hl]; rfl
  subst hN
  obtain ⟨g, cap, hv, hgb, hglt⟩ := ho.form (by omega)
  injection hv with h1 _ h2
  subst h1
  refine ⟨g, c, he, ?_, hglt, hb⟩
  rw [ho.cellAt 1 (by omega)]; rfl
theorem alE_get31 (W : World) : Calls Tryz.prog 17 #[.string ⟨#[4, 6, 2]⟩] W fun e w' => ∃ ao N c, e = .returned (.tuple #[.slice ao N c, .int .i64 4]) ∧ Below W.heap.size W w' := by
  refine (getMembers_any ⟨#[4, 6, 2]⟩ W (by decide)).mono ?_
  rw [show membersP (ByteArray.mk #[4, 6, 2]).data.toList = ([], 4) from by decide]
  rintro e w' ⟨ao, N, c, he, ho, hl, hb⟩
  exact ⟨ao, N, c, he, hb⟩
theorem alE_put (W : World) : Calls Tryz.prog 21 #[.slice (some ⟨W.heap.size, 0, none⟩) 1 1] (W.alloc (.cells #[.int .i64 3, .int .i64 2, .int .i64 1, .string ⟨#[100]⟩] 51)) fun e w' => e = .returned (.string ⟨(putB [aE]).toArray⟩) ∧ Below W.heap.size W w' := by
  have hb := (Below.refl W.heap.size W).alloc (Nat.le_refl _) (.cells #[.int .i64 3, .int .i64 2, .int .i64 1, .string ⟨#[100]⟩] 51)
  refine (put_any (n := 1) (l := [aE]) ⟨rfl, fun _ => ⟨W.heap.size, 0, rfl, by simp, fun k e hk => ?_⟩⟩ aE_oks (by omega) (by decide)).mono ?_
  · rcases k with _ | k
    · have : e = aE := by simpa using hk.symm
      subst this
      refine ⟨?_, ?_, ?_, ?_⟩ <;> rw [World.cell?_alloc_new] <;> rfl
    · simp at hk
  · rintro e w' ⟨he, hb'⟩
    exact ⟨he, hb.trans (hb'.mono (by simp))⟩
theorem alE_one (W : World) : Calls Tryz.prog 15 #[.string ⟨(putB [aE]).toArray⟩] W fun e w' => e = .returned (.tuple #[.agg #[.int .i64 3, .int .i64 2, .int .i64 1, .string ⟨#[100]⟩], .int .i64 0]) ∧ Below W.heap.size W w' := by
  have h := one_any ⟨(putB [aE]).toArray⟩ W (by decide)
  rw [bytes_mk, oneP_one aE (by unfold EntOk aE; decide) (by decide)] at h
  exact h
set_option maxRecDepth 20000 in
set_option maxHeartbeats 2000000 in
theorem aliveE_any (w : World) :
    Calls Tryz.prog 9 #[] w fun e w' => e = .returned (.bool true) ∧ Below w.heap.size w w' := by
  go_enter Tryz.func9, Tryz.ntmps9
  go_wp2_with fail
  refine (alE_put13 _).mono ?_
  rintro e w1 ⟨rfl, hb1⟩
  go_wp2_with fail
  refine (alE_get13 _).mono ?_
  rintro e w2 ⟨g, c, rfl, hc2, hg2, hb2'⟩
  have hb2 := hb1.trans (hb2'.mono hb1.size)
  clear hb1 hb2'
  go_wp2_with fail
  refine (alE_put31 _).mono ?_
  rintro e w3 ⟨rfl, hb3'⟩
  have hc3 := (hb3'.cell (p := ⟨g, 1, none⟩) hg2).trans hc2
  have hg3 : g < w3.heap.size := Nat.lt_of_lt_of_le hg2 hb3'.size
  have hb3 := hb2.trans (hb3'.mono hb2.size)
  clear hb2 hb3' hc2 hg2
  go_wp2_with fail
  refine (alE_get31 _).mono ?_
  rintro e w4 ⟨ao4, N4, c4, rfl, hb4'⟩
  have hc4 := (hb4'.cell (p := ⟨g, 1, none⟩) hg3).trans hc3
  have hg4 : g < w4.heap.size := Nat.lt_of_lt_of_le hg3 hb4'.size
  have hb4 := hb3.trans (hb4'.mono hb3.size)
  clear hb3 hb4' hc3 hg3
  go_wp2_with fail
  refine (alE_put _).mono ?_
  rintro e w5 ⟨rfl, hb5'⟩
  have hc5 := (hb5'.cell (p := ⟨g, 1, none⟩) hg4).trans hc4
  have hg5 : g < w5.heap.size := Nat.lt_of_lt_of_le hg4 hb5'.size
  have hb5 := hb4.trans (hb5'.mono hb4.size)
  clear hb4 hb5' hc4 hg4
  go_wp2_with fail
  refine (alE_one _).mono ?_
  rintro e w6 ⟨rfl, hb6'⟩
  have hc6 := (hb6'.cell (p := ⟨g, 1, none⟩) hg5).trans hc5
  have hg6 : g < w6.heap.size := Nat.lt_of_lt_of_le hg5 hb6'.size
  have hc6' : ∀ ob, (w6.alloc ob).cell? ⟨g, 1, none⟩ = some (.int .i64 3) := fun ob => (World.cell?_alloc_lt w6 ob _ hg6).trans hc6
  have hb6 := hb5.trans (hb6'.mono hb5.size)
  clear hb5 hb6' hc5 hg5
  go_wp2_with fail
  go_ret
  exact ⟨rfl, hb6.alloc hb6.size _⟩
end Go.Proofs.YtmdidmllaldbaaaGreat
