/- The walk of arboretumlaw18.alive. -/
import Derived.Test.YticlkfdcocdmaaaLogN
namespace Go.Proofs.Yticlkfdcocdmaaa
open Go.RowKit
set_option linter.unusedVariables false
theorem merge_any {w : World} {B b : Nat} {x : LogV} {ao : Option Addr} {n : Nat} {l : List Ent} (h : MergeHyp w B b x ao n l) (c : Nat) (hnc : n ≤ c) (prev term keep : Int) (hp : prev ≤ 9223372036854775807) :
    Calls Try.prog 12 #[.pointer (some ⟨b, 0, none⟩), .int .i64 prev, .int .i64 term, .int .i64 keep, .slice ao n c] w (MergeRes B b (mergeV x prev term keep l) w) := by
  by_cases hok : (termV x prev).2 = true ∧ (termV x prev).1 = term ∧ folB prev term l = true
  · exact merge_good h c hnc prev term keep hp hok
  · exact merge_bad h c prev term keep hp hok
theorem LogAt.mono {w : World} {B B' b : Nat} {x : LogV} (h : LogAt w B b x) (hB : B' ≤ B) : LogAt w B' b x := by
  obtain ⟨h1, ao, cap, hh, ho⟩ := h
  exact ⟨Nat.le_trans hB h1, ao, cap, hh, own_mono ho hB⟩
/-- An empty entry with an index and a term. -/
def ent0 (i t : Int) : Ent := ⟨i, t, 0, ⟨#[]⟩⟩
theorem ents_one (W : World) (i t : Int) : Ents (W.alloc (.cells #[.int .i64 i, .int .i64 t, .int .i64 0, .string ⟨#[]⟩] 32)) (W.heap.size + 1) (some ⟨W.heap.size, 0, none⟩) 1 [ent0 i t] := by
  refine ⟨rfl, fun _ => ⟨W.heap.size, 0, rfl, by omega, fun k e hk => ?_⟩⟩
  rcases k with _ | k
  · have : e = ent0 i t := by simpa using hk.symm
    subst this
    exact EntAt.fresh W (ent0 i t) _
  · simp at hk
theorem ents_two (W : World) (i t j u : Int) : Ents (W.alloc (.cells #[.int .i64 i, .int .i64 t, .int .i64 0, .string ⟨#[]⟩, .int .i64 j, .int .i64 u, .int .i64 0, .string ⟨#[]⟩] 32)) (W.heap.size + 1) (some ⟨W.heap.size, 0, none⟩) 2 [ent0 i t, ent0 j u] := by
  refine ⟨rfl, fun _ => ⟨W.heap.size, 0, rfl, by omega, fun k e hk => ?_⟩⟩
  rcases k with _ | _ | k
  · have : e = ent0 i t := by simpa using hk.symm
    subst this
    refine ⟨?_, ?_, ?_, ?_⟩ <;> rw [World.cell?_alloc_new] <;> rfl
  · have : e = ent0 j u := by simpa using hk.symm
    subst this
    refine ⟨?_, ?_, ?_, ?_⟩ <;> rw [World.cell?_alloc_new] <;> rfl
  · simp at hk
theorem al_new (W : World) : Calls Try.prog 11 #[.int .i64 0, .int .i64 0, .slice (some ⟨W.heap.size, 0, none⟩) 2 2] (W.alloc (.cells #[.int .i64 1, .int .i64 1, .int .i64 0, .string ⟨#[]⟩, .int .i64 2, .int .i64 1, .int .i64 0, .string ⟨#[]⟩] 32)) (NewRes 0 0 [ent0 1 1, ent0 2 1] W) := by
  have hsz : ∀ o, (W.alloc o).heap.size = W.heap.size + 1 := fun o => by simp
  refine (new_good 0 0 _ 2 2 [ent0 1 1, ent0 2 1] _ (by rw [hsz]; exact ents_two W 1 1 2 1) (by omega) (by simp) (by simp only [ent0, List.mem_cons, List.not_mem_nil, or_false]; rintro e (rfl | rfl) <;> decide) (by omega) (by omega) (by kernel_rfl)).mono ?_
  rintro e w' ⟨b, he, hl, hb⟩
  rw [hsz] at hl hb
  exact ⟨b, he, hl.mono (by omega), ((Below.refl _ _).alloc (Nat.le_refl _) _).trans (hb.mono (by omega))⟩
theorem al_merge {W : World} {B b : Nat} {x : LogV} (h : LogAt W B b x) (hB : B ≤ W.heap.size) (hx0 : 0 ≤ x.base) (hx9 : x.base + x.l.length < 4611686018427387904) (hn : x.l.length ≤ 1000) (t p s k : Int) (hp : p ≤ 9223372036854775807) (y : LogV × Int × Bool) (hy : mergeV x p s k [ent0 2 t] = y) :
    Calls Try.prog 12 #[.pointer (some ⟨b, 0, none⟩), .int .i64 p, .int .i64 s, .int .i64 k, .slice (some ⟨W.heap.size, 0, none⟩) 1 1] (W.alloc (.cells #[.int .i64 2, .int .i64 t, .int .i64 0, .string ⟨#[]⟩] 32)) (MergeRes B b y W) := by
  have hsz : ∀ o, (W.alloc o).heap.size = W.heap.size + 1 := fun o => by simp
  subst hy
  have hb0 : ∀ o, Below B W (W.alloc o) := fun o => (Below.refl _ _).alloc hB _
  refine (merge_any (l := [ent0 2 t]) (n := 1) ⟨h.below ((Below.refl W.heap.size W).alloc (Nat.le_refl _) _) (Nat.le_refl _), by rw [hsz]; omega, by rw [hsz]; exact ents_one W 2 t, by simp, hx0, hx9, by simp [ent0], by omega, by simp only [List.mem_cons, List.not_mem_nil, or_false]; rintro e rfl; exact (by decide : (⟨#[]⟩ : ByteArray).size ≤ 281474976710656)⟩ 1 (by omega) p s k hp).mono ?_
  rintro e w' ⟨he, hl, hb⟩
  exact ⟨he, hl, (hb0 _).trans hb⟩
/-- The log of 'alive' behind its Merge. -/
def alX : LogV := ⟨0, 0, [ent0 1 1, ent0 2 2]⟩
theorem al_last {W : World} {B b : Nat} (h : LogAt W B b alX) : Calls Try.prog 14 #[.pointer (some ⟨b, 0, none⟩)] W fun e w' => e = .returned (.tuple #[.int .i64 2, .int .i64 2]) ∧ Below W.heap.size W w' := last_any h
theorem al_newer {W : World} {B b : Nat} (h : LogAt W B b alX) (i t : Int) (r : Bool) (hr : newerV alX i t = r) : Calls Try.prog 16 #[.pointer (some ⟨b, 0, none⟩), .int .i64 i, .int .i64 t] W fun e w' => e = .returned (.bool r) ∧ Below W.heap.size W w' := by
  subst hr
  exact newer_any h i t
theorem al_add {W : World} {B b : Nat} (h : LogAt W B b alX) (hB : B ≤ W.heap.size) : Calls Try.prog 18 #[.pointer (some ⟨b, 0, none⟩), .int .i64 3, .int .i64 1, .string ⟨#[100]⟩] W fun e w' => e = .returned (.int .i64 3) ∧ Below B W w' :=
  (add_any h 3 1 ⟨#[100]⟩ (by decide) hB (by decide) (by decide) (by decide)).mono fun e w' ⟨he, _, hb⟩ => ⟨he, hb⟩
set_option maxHeartbeats 1000000 in
theorem alive_any (w : World) :
    Calls Try.prog 10 #[] w fun e w' => e = .returned (.bool true) ∧ Below w.heap.size w w' := by
  have m1 : mergeV ⟨0, 0, [ent0 1 1, ent0 2 1]⟩ 1 1 0 [ent0 2 2] = (⟨0, 0, [ent0 1 1, ent0 2 2]⟩, 2, true) := by kernel_rfl
  have m2 : mergeV ⟨0, 0, [ent0 1 1, ent0 2 2]⟩ 1 1 2 [ent0 2 3] = (⟨0, 0, [ent0 1 1, ent0 2 2]⟩, 0, false) := by kernel_rfl
  have M1 := Lib.hid m1
  have M2 := Lib.hid m2
  clear m1 m2
  go_enter Try.func10, Try.ntmps10
  go_wp2_with fail
  refine (al_new _).mono ?_
  rintro e w1 ⟨b, rfl, hl1, hb1⟩
  have hs1 := hb1.size
  go_wp2_with fail
  refine (al_merge hl1 hs1 (by decide) (by decide) (by decide) 2 1 1 0 (by omega) _ M1.out).mono ?_
  rintro e w2 ⟨rfl, hl2, hb2⟩
  have hs2 := Nat.le_trans hs1 hb2.size
  have hbw2 := hb1.trans hb2
  clear hb1 hb2 hl1
  go_wp2_with fail
  refine (al_last hl2).mono ?_
  rintro e w3 ⟨rfl, hb3⟩
  have hl3 := hl2.below hb3 (Nat.le_refl _)
  have hs3 := Nat.le_trans hs2 hb3.size
  have hbw3 := hbw2.trans (hb3.mono hs2)
  clear hb3 hbw2 hl2
  go_wp2_with fail
  refine (al_merge hl3 hs3 (by decide) (by decide) (by decide) 3 1 1 2 (by omega) _ M2.out).mono ?_
  rintro e w4 ⟨rfl, hl4, hb4⟩
  have hs4 := Nat.le_trans hs3 hb4.size
  have hbw4 := hbw3.trans hb4
  clear hb4 hbw3 hl3
  go_wp2_with fail
  refine (al_newer hl4 2 2 true (by kernel_rfl)).mono ?_
  rintro e w5 ⟨rfl, hb5⟩
  have hl5 := hl4.below hb5 (Nat.le_refl _)
  have hs5 := Nat.le_trans hs4 hb5.size
  have hbw5 := hbw4.trans (hb5.mono hs4)
  clear hb5 hbw4 hl4
  go_wp2_with fail
  refine (al_newer hl5 1 2 false (by kernel_rfl)).mono ?_
  rintro e w6 ⟨rfl, hb6⟩
  have hl6 := hl5.below hb6 (Nat.le_refl _)
  have hs6 := Nat.le_trans hs5 hb6.size
  have hbw6 := hbw5.trans (hb6.mono hs5)
  clear hb6 hbw5 hl5
  go_wp2_with fail
  refine (al_add hl6 hs6).mono ?_
  rintro e w7 ⟨rfl, hb7⟩
  have hbw7 := hbw6.trans hb7
  go_wp2_with fail
  go_ret
  exact ⟨rfl, hbw7⟩
end Go.Proofs.Yticlkfdcocdmaaa
