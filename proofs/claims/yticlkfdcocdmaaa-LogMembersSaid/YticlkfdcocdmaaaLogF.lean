/- The walk of a log's Compact. -/
import Derived.Test.YticlkfdcocdmaaaLogN
namespace Go.Proofs.Yticlkfdcocdmaaa
open Go.RowKit
set_option linter.unusedVariables false
def compactV (x : LogV) (to : Int) : LogV × Bool :=
  if (termV x to).2 = true ∧ to ≤ (lastV x).1 then (⟨to, (termV x to).1, x.l.drop (to - x.base).toNat⟩, true) else (x, false)
def CompactRes (B b : Nat) (r : LogV × Bool) (w : World) (e : Ending) (w' : World) : Prop :=
  e = .returned (.bool r.2) ∧ LogAt w' B b r.1 ∧ Below B w w'
/-- The rest of a log's list, as a slice, in the form that the walk reckons. -/
theorem rest_slice {W : World} {B : Nat} {ao : Option Addr} {n cap : Nat} {l : List Ent} (ho : W.ownsRow B 32 4 (.slice ao n cap) n (entCells l)) (k : Nat) (hk : k ≤ n) :
    Ents W W.heap.size (if cap = k then ao else Option.map (fun x => x.add (k * 4)) ao) (n - k) (l.drop k) ∧ ((if cap = k then ao else Option.map (fun x => x.add (k * 4)) ao) = none → n - k = 0) := by
  have hl : l.length = n := by have := ho.1; rw [entCells_len] at this; omega
  have hE := ents_own ho
  obtain ⟨ao1, cap1, hv, hc, hnone, hsome⟩ := own_shape ho
  injection hv with hv _ hv'
  subst hv
  subst hv'
  by_cases hkn : k < n
  · obtain ⟨g, o, e, rfl, hg, _, _⟩ := hE.get hkn
    obtain ⟨g', h1, _, _⟩ := hsome _ rfl
    injection h1 with h1 h2
    subst h1
    subst h2
    rw [if_neg (by omega)]
    refine ⟨?_, by simp⟩
    have := hE.drop hkn
    rw [Nat.zero_add] at this
    simpa [add_lit] using this
  · obtain rfl : k = n := by omega
    have hd : l.drop k = [] := List.drop_of_length_le (by omega)
    rw [Nat.sub_self, hd]
    exact ⟨Ents.nil_ _ _ _, fun _ => rfl⟩
set_option maxHeartbeats 1000000 in
theorem compact_no {w : World} {B b : Nat} {x : LogV} (h : LogAt w B b x) (hB : B ≤ w.heap.size) (to : Int) (hb0 : 0 ≤ x.base) (hb9 : x.base ≤ 9223372036854775807) (hi : to ≤ 9223372036854775807)
    (hno : ¬ ((termV x to).2 = true ∧ to ≤ (lastV x).1)) :
    Calls Try.prog 21 #[.pointer (some ⟨b, 0, none⟩), .int .i64 to] w (CompactRes B b (compactV x to) w) := by
  have e : compactV x to = (x, false) := by unfold compactV; rw [if_neg hno]
  rw [e]
  have HL := Lib.hid (last_any h)
  have HT : Hid (∀ w1, Below w.heap.size w w1 → Calls Try.prog 15 #[.pointer (some ⟨b, 0, none⟩), .int .i64 to] w1 fun e w' => e = .returned (.tuple #[.int .i64 (termV x to).1, .bool (termV x to).2]) ∧ Below w1.heap.size w1 w') :=
    Lib.hid (fun w1 hb => term_any (h.below hb (Nat.le_refl _)) to hb0 hb9 hi)
  have HH := Lib.hid h
  obtain ⟨s, hs⟩ : ∃ s, s = (termV x to).2 := ⟨_, rfl⟩
  obtain ⟨t, ht⟩ : ∃ t, t = (termV x to).1 := ⟨_, rfl⟩
  obtain ⟨u, hu⟩ : ∃ u, u = (lastV x).1 := ⟨_, rfl⟩
  obtain ⟨v, hv⟩ : ∃ v, v = (lastV x).2 := ⟨_, rfl⟩
  rw [← hs, ← ht] at HT
  rw [← hu, ← hv] at HL
  rw [← hs, ← hu] at hno
  clear h hs ht hu hv e
  cases s with
  | false =>
    clear hno
    go_enter Try.func21, Try.ntmps21
    go_wp2_with (first | (go_at_call 14; refine (HL.out).mono ?_; rintro e w1 ⟨rfl, hb1⟩) | (go_at_call 15; refine (HT.out _ hb1).mono ?_; rintro e w2 ⟨rfl, hb2⟩))
    go_ret
    have hb := hb1.trans (hb2.mono hb1.size)
    exact ⟨rfl, HH.out.below hb (Nat.le_refl _), hb.mono hB⟩
  | true =>
    have hd : decide (u < to) = true := by
      have : ¬ to ≤ u := fun hh => hno ⟨rfl, hh⟩
      simp; omega
    clear hno
    go_enter Try.func21, Try.ntmps21
    go_wp2_with (first | (go_at_call 14; refine (HL.out).mono ?_; rintro e w1 ⟨rfl, hb1⟩) | (go_at_call 15; refine (HT.out _ hb1).mono ?_; rintro e w2 ⟨rfl, hb2⟩))
    go_ret
    have hb := hb1.trans (hb2.mono hb1.size)
    exact ⟨rfl, HH.out.below hb (Nat.le_refl _), hb.mono hB⟩
/-- The log written anew, cell by cell. -/
theorem LogAt.put3 {w1 : World} {B b n : Nat} {i0 t0 base term : Int} {v0 v : Value} {l : List Ent} (hBb : B ≤ b) (hb : w1.heap[b]? = some (.cells #[.int .i64 i0, .int .i64 t0, v0] 61 (0, 0)))
    (ho : w1.ownsRow B 32 4 v n (entCells l)) (hl : l.length = n) : LogAt (((w1.setCell ⟨b, 2, none⟩ v).setCell ⟨b, 0, none⟩ (.int .i64 base)).setCell ⟨b, 1, none⟩ (.int .i64 term)) B b ⟨base, term, l⟩ := by
  obtain ⟨ao, cap, rfl, _, _, _⟩ := own_shape ho
  have h2 := blk_set hb 2 (.slice ao n cap)
  have h3 := blk_set h2 0 (.int .i64 base)
  have h4 := blk_set h3 1 (.int .i64 term)
  have hob : (Value.slice ao n cap).ownBlock ≠ some b := own_ne hb (by decide) ho
  subst hl
  refine ⟨hBb, ao, cap, ?_, ?_⟩
  · rw [h4]; rfl
  · exact ((ho.kept (grown_set w1 b 2 _) (.inr hob)).kept (grown_set _ b 0 _) (.inr hob)).kept (grown_set _ b 1 _) (.inr hob)
set_option maxHeartbeats 1000000 in
theorem compact_yes {w : World} {B b : Nat} {x : LogV} (h : LogAt w B b x) (hB : B ≤ w.heap.size) (to : Int) (hb0 : 0 ≤ x.base) (hb9 : x.base + x.l.length ≤ 9223372036854775807) (hn : x.l.length * 40 ≤ 140737488355328)
    (hyes : (termV x to).2 = true ∧ to ≤ (lastV x).1) :
    Calls Try.prog 21 #[.pointer (some ⟨b, 0, none⟩), .int .i64 to] w (CompactRes B b (compactV x to) w) := by
  have e : compactV x to = (⟨to, (termV x to).1, x.l.drop (to - x.base).toNat⟩, true) := by unfold compactV; rw [if_pos hyes]
  have hr := term_range hyes.1
  obtain ⟨K, hK⟩ : ∃ K : Nat, (K : Int) = to - x.base := ⟨(to - x.base).toNat, by omega⟩
  rw [show (to - x.base).toNat = K from by omega] at e
  rw [e]
  have HL := Lib.hid (last_any h)
  have HT : Hid (∀ w1, Below w.heap.size w w1 → Calls Try.prog 15 #[.pointer (some ⟨b, 0, none⟩), .int .i64 to] w1 fun e w' => e = .returned (.tuple #[.int .i64 (termV x to).1, .bool (termV x to).2]) ∧ Below w1.heap.size w1 w') :=
    Lib.hid (fun w1 hb => term_any (h.below hb (Nat.le_refl _)) to hb0 (by omega) (by omega))
  rw [hyes.1] at HT
  have HH := Lib.hid h
  have hle := hyes.2
  obtain ⟨t, ht⟩ : ∃ t, t = (termV x to).1 := ⟨_, rfl⟩
  obtain ⟨u, hu⟩ : ∃ u, u = (lastV x).1 := ⟨_, rfl⟩
  obtain ⟨v, hv⟩ : ∃ v, v = (lastV x).2 := ⟨_, rfl⟩
  rw [← ht] at HT ⊢
  rw [← hu, ← hv] at HL
  rw [← hu] at hle
  have hto : to = x.base + (K : Int) := by omega
  subst hto
  have hw3 : IntKind.i64.wrap (x.base + (K : Int) - x.base) = (K : Int) := by rw [IntWalk.i64_in _ (by omega)]; omega
  have hd : decide (u < x.base + (K : Int)) = false := by simp; omega
  have hwK : IntKind.i64.wrap (K : Int) = (K : Int) := IntWalk.i64_in _ (by omega)
  have hK0 : (0 : Int) ≤ (K : Int) := by omega
  have hKn : K ≤ x.l.length := by omega
  have hKl : (K : Int) ≤ (x.l.length : Int) := by omega
  clear h ht hu hv e hyes hle hr hK
  go_enter Try.func21, Try.ntmps21
  go_wp2_with (first | (go_at_call 14; refine (HL.out).mono ?_; rintro e w1 ⟨rfl, hb1⟩) | (go_at_call 15; refine (HT.out _ hb1).mono ?_; rintro e w2 ⟨rfl, hb2⟩))
  have hbw := hb1.trans (hb2.mono hb1.size)
  have HLg := HH.out.below hbw (Nat.le_refl _)
  obtain ⟨ao, cap, hBb, hbk, hown⟩ := HLg.parts
  have hblt := blk_lt hbk
  have c0 : w2.cell? ⟨b, 0, none⟩ = some (.int .i64 x.base) := by rw [blk_cell hbk]; rfl
  have c2 : w2.cell? ⟨b, 2, none⟩ = some (.slice ao x.l.length cap) := by rw [blk_cell hbk]; rfl
  obtain ⟨hE, hnil⟩ := rest_slice hown K hKn
  have HC : Hid (Calls Try.prog 32 #[.slice (if cap = K then ao else Option.map (fun x => x.add (K * 4)) ao) (x.l.length - K) (cap - K)] w2.drew (OwnsEnts w2.drew.heap.size (x.l.length - K) (x.l.drop K) w2.drew)) := Lib.hid (cloneE_any _ _ _ _ _ hE (by omega) hnil)
  have HBk := Lib.hid hbk
  have HBW := Lib.hid hbw
  clear hbk hown hE hnil hb1 hb2 hbw HLg
  go_region_law (go_simp; go_at_call 32; refine (HC.out).mono ?_; rintro e w3 ⟨ao3, cap3, rfl, ho3, hb3⟩; have hk3 : w3.heap[b]? = _ := (hb3.block b hblt).trans HBk.out; have f2 : w3.cell? ⟨b, 2, none⟩ = some (.slice ao x.l.length cap) := (hb3.cell (p := ⟨b, 2, none⟩) hblt).trans c2; have f2f : w3.frozen? ⟨b, 2, none⟩ = false := blk_frozen hk3 _; have HO3 := Lib.hid ho3; have HB3 : Hid (Below w2.heap.size w2 w3) := Lib.hid (undrewL hb3); have HK3 := Lib.hid hk3; clear ho3 hb3 hk3)
  all_goals (
    have f0 : w3.cell? ⟨b, 0, none⟩ = some (.int .i64 x.base) := by rw [blk_cell HK3.out]; rfl
    have f1 : w3.cell? ⟨b, 1, none⟩ = some (.int .i64 x.term) := by rw [blk_cell HK3.out]; rfl
    have f0f : w3.frozen? ⟨b, 0, none⟩ = false := blk_frozen HK3.out _
    have f1f : w3.frozen? ⟨b, 1, none⟩ = false := blk_frozen HK3.out _
    have hs2 : w.heap.size ≤ w2.heap.size := HBW.out.size
    have hBw : Below B w w3 := (HBW.out.mono hB).trans (HB3.out.mono (Nat.le_trans hB hs2))
    go_wp2
    all_goals go_ret
    all_goals exact ⟨rfl, LogAt.put3 hBb HK3.out (own_mono HO3.out (Nat.le_trans hB hs2)) (by rw [List.length_drop]), ((hBw.setCell hBb _).setCell hBb _).setCell hBb _⟩)
theorem compact_any {w : World} {B b : Nat} {x : LogV} (h : LogAt w B b x) (hB : B ≤ w.heap.size) (to : Int) (hb0 : 0 ≤ x.base) (hb9 : x.base + x.l.length ≤ 9223372036854775807) (hn : x.l.length * 40 ≤ 140737488355328) (hi : to ≤ 9223372036854775807) :
    Calls Try.prog 21 #[.pointer (some ⟨b, 0, none⟩), .int .i64 to] w (CompactRes B b (compactV x to) w) := by
  by_cases hyes : (termV x to).2 = true ∧ to ≤ (lastV x).1
  · exact compact_yes h hB to hb0 hb9 hn hyes
  · exact compact_no h hB to hb0 (by omega) hi hyes
end Go.Proofs.Yticlkfdcocdmaaa
