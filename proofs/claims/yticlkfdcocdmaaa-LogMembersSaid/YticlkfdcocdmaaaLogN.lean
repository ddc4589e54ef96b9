/- The walk of a log's Merge, the good way in. -/
import Derived.Test.YticlkfdcocdmaaaLogM
import Derived.Test.YticlkfdcocdmaaaSl
namespace Go.Proofs.Yticlkfdcocdmaaa
open Go.RowKit
set_option linter.unusedVariables false
/-- An entry just loaded into a block of its own. -/
theorem EntAt.fresh (w : World) (e : Ent) (t : TypeId) : EntAt (w.alloc (.cells #[.int .i64 e.ix, .int .i64 e.tm, .int .i64 e.kd, .string e.dt] t)) w.heap.size 0 e := by
  refine ⟨?_, ?_, ?_, ?_⟩ <;> rw [World.cell?_alloc_new] <;> rfl
set_option maxHeartbeats 4000000 in
theorem merge_good {w : World} {B b : Nat} {x : LogV} {ao : Option Addr} {n : Nat} {l : List Ent} (h : MergeHyp w B b x ao n l) (c : Nat) (hnc : n ≤ c) (prev term keep : Int) (hp : prev ≤ 9223372036854775807)
    (hok : (termV x prev).2 = true ∧ (termV x prev).1 = term ∧ folB prev term l = true) :
    Calls Try.prog 12 #[.pointer (some ⟨b, 0, none⟩), .int .i64 prev, .int .i64 term, .int .i64 keep, .slice ao n c] w (MergeRes B b (mergeV x prev term keep l) w) := by
  have hv : mergeV x prev term keep l = mergeOf x l (scan x keep 0 0 l) := by unfold mergeV; rw [if_pos hok]
  rw [hv]
  clear hv
  have HT := h.term w (Below.refl _ _) prev hp
  have HF := Lib.hid (fun w1 hb => h.follow w1 hb prev term c)
  have HS := Lib.hid (scan_first x keep h.b0 h.b9 l 0 · prev term hok.2.2 hok.1)
  rw [hok.1, hok.2.1] at HT
  rw [hok.2.2] at HF
  have HT0 := Lib.hid HT
  have HH := Lib.hid h
  have hnl := h.sz
  clear h hok HT
  obtain ⟨R, hR⟩ : ∃ R, R = scan x keep 0 0 l := ⟨_, rfl⟩
  rw [← hR]
  have HR := Lib.hid hR
  clear hR
  go_enter Try.func12, Try.ntmps12
  go_wp2_with (first | (go_at_call 15; refine (HT0.out).mono ?_; rintro e w1 ⟨rfl, hb1⟩; have HB1 := Lib.hid hb1; clear hb1) | (go_at_call 29; refine (HF.out _ HB1.out).mono ?_; rintro e w2 ⟨rfl, hb2⟩; have HB2 := Lib.hid (HB1.out.trans (hb2.mono HB1.out.size)); clear hb2))
  clear HT0 HF
  go_loopw [14, 41] (fun y z wr => ∃ (k f : Nat), k ≤ n ∧ f ≤ k ∧ y = .int .i64 f ∧ z = .int .i64 k ∧ Hid (scan x keep k f (l.drop k) = R) ∧ Below w.heap.size w wr) (fun _ z _ => n - (intOf z).toNat)
  case atStart => exact ⟨0, 0, Nat.zero_le _, Nat.le_refl _, rfl, rfl, Lib.hid (by rw [List.drop_zero]; exact HR.out.symm), HB2.out⟩
  case round =>
    obtain ⟨k, f, hk, hfk, rfl, rfl, hf, hb⟩ := hrel
    have HB := Lib.hid hb
    have hBr : w.heap.size ≤ wr.heap.size := hb.size
    clear hb
    by_cases hlt : k < n
    · obtain ⟨g, o, e, rfl, hgB, hek, h1, h2, h3, h4⟩ := (HH.out.ents.below HB.out).get hlt
      have hix : e.ix ≤ 9223372036854775807 := HH.out.ix9 e (List.mem_of_getElem? hek)
      have hdrop : l.drop k = e :: l.drop (k + 1) := by
        have hk' : k < l.length := (List.getElem?_eq_some_iff.1 hek).1
        rw [List.drop_eq_getElem_cons hk']
        congr 1
        exact (List.getElem?_eq_some_iff.1 hek).2
      rw [hdrop, scan] at hf
      have HTk := Lib.hid (fun w1 hb => HH.out.term w1 hb e.ix hix)
      obtain ⟨s, hs⟩ : ∃ s, s = (termV x e.ix).2 := ⟨_, rfl⟩
      obtain ⟨t, ht⟩ : ∃ t, t = (termV x e.ix).1 := ⟨_, rfl⟩
      rw [← hs, ← ht] at hf HTk
      clear hs ht hek hdrop hix
      have hx1 : (0 : Int) ≤ k := by omega
      have hx2 : (k : Int) < n := by omega
      have hn9 : n ≤ 9223372036854775807 := by omega
      by_cases hm : s = true ∧ t = e.tm
      · rw [if_pos hm] at hf
        have HX := hf
        obtain ⟨rfl, rfl⟩ := hm
        clear hf
        go_wp2_with (first | (go_at_call 15; refine (HTk.out _ (HB.out.alloc hBr _)).mono ?_; rintro e' w3 ⟨rfl, hb3⟩; have hc0 : w3.cell? ⟨wr.heap.size, 0, none⟩ = some (.int .i64 e.ix) := (hb3.cell (p := ⟨wr.heap.size, 0, none⟩) (by simp)).trans (EntAt.fresh wr e _).1; have hc1 : w3.cell? ⟨wr.heap.size, 1, none⟩ = some (.int .i64 e.tm) := (hb3.cell (p := ⟨wr.heap.size, 1, none⟩) (by simp)).trans (EntAt.fresh wr e _).2.1; have HB3 := Lib.hid ((HB.out.alloc hBr _).trans (hb3.mono (Nat.le_trans hBr (by simp)))); clear hb3))
        go_roundw
        case rel => exact ⟨k + 1, f, by omega, by omega, by go_num, by go_num, HX, HB3.out⟩
        case measure => simp [intOf]; omega
      · rw [if_neg hm] at hf
        by_cases hq : s = true ∧ e.ix ≤ keep
        · rw [if_pos hq] at hf
          have hR := hf.out
          subst hR
          obtain ⟨rfl, hq2⟩ := hq
          have hd1 : (t == e.tm) = false := by rw [beq_eq_false_iff_ne]; exact fun h => hm ⟨rfl, h⟩
          have hd2 : decide (e.ix ≤ keep) = true := by simpa using hq2
          clear hf hm hq2
          go_wp2_with (first | (go_at_call 15; refine (HTk.out _ (HB.out.alloc hBr _)).mono ?_; rintro e' w3 ⟨rfl, hb3⟩; have hc0 : w3.cell? ⟨wr.heap.size, 0, none⟩ = some (.int .i64 e.ix) := (hb3.cell (p := ⟨wr.heap.size, 0, none⟩) (by simp)).trans (EntAt.fresh wr e _).1; have hc1 : w3.cell? ⟨wr.heap.size, 1, none⟩ = some (.int .i64 e.tm) := (hb3.cell (p := ⟨wr.heap.size, 1, none⟩) (by simp)).trans (EntAt.fresh wr e _).2.1; have HB3 := Lib.hid ((HB.out.alloc hBr _).trans (hb3.mono (Nat.le_trans hBr (by simp)))); clear hb3))
          go_ret2
          exact ⟨rfl, HH.out.stay HB3.out⟩
        · rw [if_neg hq] at hf
          by_cases hf0 : f = 0
          · rw [if_pos hf0] at hf
            have HX := hf
            subst hf0
            clear hf
            cases s with
            | false =>
              clear hm hq
              go_wp2_with (first | (go_at_call 15; refine (HTk.out _ (HB.out.alloc hBr _)).mono ?_; rintro e' w3 ⟨rfl, hb3⟩; have hc0 : w3.cell? ⟨wr.heap.size, 0, none⟩ = some (.int .i64 e.ix) := (hb3.cell (p := ⟨wr.heap.size, 0, none⟩) (by simp)).trans (EntAt.fresh wr e _).1; have hc1 : w3.cell? ⟨wr.heap.size, 1, none⟩ = some (.int .i64 e.tm) := (hb3.cell (p := ⟨wr.heap.size, 1, none⟩) (by simp)).trans (EntAt.fresh wr e _).2.1; have HB3 := Lib.hid ((HB.out.alloc hBr _).trans (hb3.mono (Nat.le_trans hBr (by simp)))); clear hb3))
              go_roundw
              case rel => exact ⟨k + 1, k + 1, by omega, by omega, by go_num, by go_num, HX, HB3.out⟩
              case measure => simp [intOf]; omega
            | true =>
              have hd1 : (t == e.tm) = false := by rw [beq_eq_false_iff_ne]; exact fun h => hm ⟨rfl, h⟩
              have hd2 : decide (e.ix ≤ keep) = false := by rw [decide_eq_false_iff_not]; exact fun h => hq ⟨rfl, h⟩
              clear hm hq
              go_wp2_with (first | (go_at_call 15; refine (HTk.out _ (HB.out.alloc hBr _)).mono ?_; rintro e' w3 ⟨rfl, hb3⟩; have hc0 : w3.cell? ⟨wr.heap.size, 0, none⟩ = some (.int .i64 e.ix) := (hb3.cell (p := ⟨wr.heap.size, 0, none⟩) (by simp)).trans (EntAt.fresh wr e _).1; have hc1 : w3.cell? ⟨wr.heap.size, 1, none⟩ = some (.int .i64 e.tm) := (hb3.cell (p := ⟨wr.heap.size, 1, none⟩) (by simp)).trans (EntAt.fresh wr e _).2.1; have HB3 := Lib.hid ((HB.out.alloc hBr _).trans (hb3.mono (Nat.le_trans hBr (by simp)))); clear hb3))
              go_roundw
              case rel => exact ⟨k + 1, k + 1, by omega, by omega, by go_num, by go_num, HX, HB3.out⟩
              case measure => simp [intOf]; omega
          · rw [if_neg hf0] at hf
            have HX := hf
            have hd3 : ((f : Int) == 0) = false := by rw [beq_eq_false_iff_ne]; omega
            clear hf hf0
            cases s with
            | false =>
              clear hm hq
              go_wp2_with (first | (go_at_call 15; refine (HTk.out _ (HB.out.alloc hBr _)).mono ?_; rintro e' w3 ⟨rfl, hb3⟩; have hc0 : w3.cell? ⟨wr.heap.size, 0, none⟩ = some (.int .i64 e.ix) := (hb3.cell (p := ⟨wr.heap.size, 0, none⟩) (by simp)).trans (EntAt.fresh wr e _).1; have hc1 : w3.cell? ⟨wr.heap.size, 1, none⟩ = some (.int .i64 e.tm) := (hb3.cell (p := ⟨wr.heap.size, 1, none⟩) (by simp)).trans (EntAt.fresh wr e _).2.1; have HB3 := Lib.hid ((HB.out.alloc hBr _).trans (hb3.mono (Nat.le_trans hBr (by simp)))); clear hb3))
              go_roundw
              case rel => exact ⟨k + 1, f, by omega, by omega, by go_num, by go_num, HX, HB3.out⟩
              case measure => simp [intOf]; omega
            | true =>
              have hd1 : (t == e.tm) = false := by rw [beq_eq_false_iff_ne]; exact fun h => hm ⟨rfl, h⟩
              have hd2 : decide (e.ix ≤ keep) = false := by rw [decide_eq_false_iff_not]; exact fun h => hq ⟨rfl, h⟩
              clear hm hq
              go_wp2_with (first | (go_at_call 15; refine (HTk.out _ (HB.out.alloc hBr _)).mono ?_; rintro e' w3 ⟨rfl, hb3⟩; have hc0 : w3.cell? ⟨wr.heap.size, 0, none⟩ = some (.int .i64 e.ix) := (hb3.cell (p := ⟨wr.heap.size, 0, none⟩) (by simp)).trans (EntAt.fresh wr e _).1; have hc1 : w3.cell? ⟨wr.heap.size, 1, none⟩ = some (.int .i64 e.tm) := (hb3.cell (p := ⟨wr.heap.size, 1, none⟩) (by simp)).trans (EntAt.fresh wr e _).2.1; have HB3 := Lib.hid ((HB.out.alloc hBr _).trans (hb3.mono (Nat.le_trans hBr (by simp)))); clear hb3))
              go_roundw
              case rel => exact ⟨k + 1, f, by omega, by omega, by go_num, by go_num, HX, HB3.out⟩
              case measure => simp [intOf]; omega
    · have hkn : n = k := by omega
      subst hkn
      have hl := HH.out.ents.1
      rw [List.drop_of_length_le (by omega), scan] at hf
      have hf' := hf.out
      subst hf'
      cases f with
      | zero =>
        go_wp2
        go_ret2
        exact ⟨rfl, HH.out.stay HB.out⟩
      | succ f =>
        obtain ⟨j, e, hj, hej, hlo, hhi⟩ := (HS.out (f + 1) HR.out.symm).resolve_left (by omega)
        have hjf : j = f := by omega
        subst hjf
        obtain ⟨K, hK⟩ : ∃ K : Nat, (K : Int) = e.ix - x.base - 1 := ⟨(e.ix - x.base - 1).toNat, by omega⟩
        have hjn : j < n := by omega
        obtain ⟨g, o, e', rfl, hgB, hek, h1, h2, h3, h4⟩ := (HH.out.ents.below HB.out).get hjn
        rw [hej] at hek
        injection hek with hek
        subst hek
        have hres : mergeOf x l (some (j + 1)) = (⟨x.base, x.term, x.l.take K ++ l.drop j⟩, e.ix, true) := by
          show takeOf x l j l[j]? = _
          rw [hej]
          show (_, _, _) = _
          rw [show (e.ix - x.base - 1).toNat = K from by omega]
        have HRes := Lib.hid hres
        have HLg := HH.out.log.below HB.out (Nat.le_refl _)
        obtain ⟨ao2, cap2, hBb, hbk, hown⟩ := HLg.parts
        have hblt := blk_lt hbk
        have hKl : K ≤ x.l.length := by omega
        have hKc : K ≤ cap2 := by
          obtain ⟨_, _, hv, hle, _⟩ := own_shape hown
          injection hv with _ _ hv
          omega
        have hgb : g ≠ b := ents_ne hbk rfl ⟨h1, h2, h3, h4⟩
        have c0 : wr.cell? ⟨b, 0, none⟩ = some (.int .i64 x.base) := by rw [blk_cell hbk]; rfl
        have c2 : wr.cell? ⟨b, 2, none⟩ = some (.slice ao2 x.l.length cap2) := by rw [blk_cell hbk]; rfl
        have hs1 := fun W => sliceE_l W g o n c j (by omega) (by omega)
        have hs2 := fun W => sliceE_hm W ao2 x.l.length cap2 K hKc
        have hw0 : IntKind.i64.wrap (((j + 1 : Nat) : Int) - 1) = (j : Int) := by rw [IntWalk.i64_in _ (by omega)]; omega
        have hw0' : IntKind.i64.wrap ((j : Int) + 1 - 1) = (j : Int) := by rw [IntWalk.i64_in _ (by omega)]; omega
        have hw1 : IntKind.i64.wrap (e.ix - x.base) = (K : Int) + 1 := by rw [IntWalk.i64_in _ (by have := HH.out.b0; have := HH.out.b9; omega)]; omega
        have hw2 : IntKind.i64.wrap ((K : Int) + 1 - 1) = (K : Int) := by rw [IntWalk.i64_in _ (by omega)]; omega
        have hd3 : (((j + 1 : Nat) : Int) == 0) = false := by rw [beq_eq_false_iff_ne]; omega
        have hd4 : (((j : Int) + 1) == 0) = false := by rw [beq_eq_false_iff_ne]; omega
        have hx9 : j + 1 ≤ 9223372036854775807 := by omega
        have HOwn := Lib.hid hown
        have HBk := Lib.hid hbk
        clear hown hbk hlo hhi hK hres h2 h3 h4 hj
        have hgr : g < wr.heap.size := Nat.lt_of_lt_of_le hgB hBr
        have hnj : 0 < n - j := by omega
        have hwK : IntKind.i64.wrap (K : Int) = (K : Int) := IntWalk.i64_in _ (by have := HH.out.b0; have := HH.out.b9; omega)
        have hK0 : (0 : Int) ≤ (K : Int) := by omega
        have hKc9 : (K : Int) ≤ (cap2 : Int) := by omega
        obtain ⟨i0, hi, hz0, hz1, hz2⟩ := info_parts entinfo
        have HI := Lib.hid (And.intro hi (And.intro hz0 (And.intro hz1 hz2)))
        have hNone : ao2 = none → K = 0 ∧ K = 0 := fun h => by
          obtain ⟨_, _, hv, _, h0, _⟩ := own_shape HOwn.out
          injection hv with hv _ _
          have := h0 (hv ▸ h)
          omega
        have hLenT : (entCells (x.l.take K)).length = K * 4 := by rw [entCells_len, List.length_take, Nat.min_eq_left hKl]
        have hLenD : (entCells (l.drop j)).length = (n - j) * 4 := by rw [entCells_len, List.length_drop, hl]
        have HOlds : Hid (∀ W, Below wr.heap.size wr W → ∀ b', ao2 = some b' → ∀ q u, (entCells (x.l.take K))[q]? = some u → W.cell? (b'.add q) = some u) := Lib.hid (by
          intro W hbW b' hb' q u hq
          have hE := (ents_own HOwn.out).below hbW
          subst hb'
          refine hE.cells q u ?_
          rw [← entCells_take, List.getElem?_take] at hq
          split at hq
          · exact hq
          · cases hq)
        have HOwnC : Hid (∀ W, Below w.heap.size w W → Calls Try.prog 30 #[.slice (some ⟨g, o + j * 4, none⟩) (n - j) (c - j)] W (OwnsEnts W.heap.size (n - j) (l.drop j) W)) := Lib.hid (fun W hbW =>
          own_any _ _ _ _ _ (((HH.out.ents.below hbW).mono hbW.size).drop hjn) (by omega) (by simp) (fun e' he' => HH.out.dt e' (List.mem_of_mem_drop he')))
        have HAfter : Hid (∀ w4 w5 : World, Below wr.heap.size wr w4 → w4.grownBy w5 none → w5.cell? ⟨b, 0, none⟩ = some (.int .i64 x.base) ∧ w5.cell? ⟨g, o + j * 4, none⟩ = some (.int .i64 e.ix) ∧ w5.cell? ⟨b, 2, none⟩ = some (.slice ao2 x.l.length cap2) ∧ w5.frozen? ⟨b, 2, none⟩ = false ∧
            ∀ v, (w5.setCell ⟨b, 2, none⟩ v).cell? ⟨b, 0, none⟩ = some (.int .i64 x.base) ∧ (w5.setCell ⟨b, 2, none⟩ v).cell? ⟨g, o + j * 4, none⟩ = some (.int .i64 e.ix)) := Lib.hid (by
          intro w4 w5 hb4 hg5
          have hk4 := (hb4.block b hblt).trans HBk.out
          have hk5 := (hg5.block b (blk_lt hk4) (by simp)).trans hk4
          have hq : w5.heap[g]? = wr.heap[g]? := (hg5.block g (Nat.lt_of_lt_of_le hgr hb4.size) (by simp)).trans (hb4.block g hgr)
          have hc : w5.cell? ⟨g, o + j * 4, none⟩ = some (.int .i64 e.ix) := (World.cell?_of_block (w := wr) (a := ⟨g, o + j * 4, none⟩) hq).trans h1
          refine ⟨by rw [blk_cell hk5]; rfl, hc, by rw [blk_cell hk5]; rfl, blk_frozen hk5 _, fun v => ⟨by rw [blk_cell (blk_set hk5 2 v)]; rfl, ?_⟩⟩
          exact (World.cell?_of_block (w := w5) (a := ⟨g, o + j * 4, none⟩) ((grown_set w5 b 2 v).block g (by rw [show w5.heap[g]? = wr.heap[g]? from hq] at *; exact Nat.lt_of_lt_of_le (Nat.lt_of_lt_of_le hgr hb4.size) hg5.size) (by simp; exact hgb))).trans hc)
        have HFin : Hid (∀ (w4 w5 : World) (v5 : Value), Below wr.heap.size wr w4 → w4.grownBy w5 none → w5.ownsRow w4.heap.size 32 4 v5 (K + (n - j)) (entCells (x.l.take K) ++ entCells (l.drop j)) →
            LogAt (w5.setCell ⟨b, 2, none⟩ v5) B b ⟨x.base, x.term, x.l.take K ++ l.drop j⟩ ∧ Below B w (w5.setCell ⟨b, 2, none⟩ v5)) := Lib.hid (by
          intro w4 w5 v5 hb4 hg5 ho5
          have hBw : B ≤ wr.heap.size := Nat.le_trans HH.out.hB hBr
          exact LogAt.put hBb HH.out.hB ((hb4.block b hblt).trans HBk.out) ((HB.out.mono HH.out.hB).trans (hb4.mono hBw)) hg5 (by simp) (by simp)
            (by rw [entCells_append]; exact own_mono ho5 (Nat.le_trans hBw hb4.size)) (by rw [List.length_append, List.length_take, List.length_drop, Nat.min_eq_left hKl, hl]))
        go_wp2_with fail
        refine wp_region_held_drew (S := fun W => W.cell? ⟨b, 0, none⟩ = some (.int .i64 x.base) ∧ W.cell? ⟨g, o + j * 4, none⟩ = some (.int .i64 e.ix)) (by kernel_rfl) ⟨c0, h1⟩ (fun hHeld => ?_)
        refine wpAnyH_take (i := 0) (v := ?v1) rfl (by kernel_rfl) (by kernel_rfl) (by kernel_rfl) (fun _ _ _ h => h) (Or.inl ⟨by rfl, ?y1⟩) (by assumption) ?r1
        case y1 => (intro W hSW; (try dsimp only at hSW); go_simp; try with_reducible rfl)
        (try simp only [Act.put, List.setIfInBounds_toArray, List.set_cons_zero, List.set_cons_succ])
        refine wpAnyH_take (i := 1) (v := ?v2) rfl (by kernel_rfl) (by kernel_rfl) (by kernel_rfl) (fun _ _ _ h => h) (Or.inl ⟨by rfl, ?y2⟩) (by assumption) ?r2
        case y2 => (intro W hSW; (try dsimp only at hSW); go_simp; try with_reducible rfl)
        (try simp only [Act.put, List.setIfInBounds_toArray, List.set_cons_zero, List.set_cons_succ])
        refine wpAnyH_take (i := 2) (v := ?v3) rfl (by kernel_rfl) (by kernel_rfl) (by kernel_rfl) (fun _ _ _ h => h) (Or.inl ⟨by rfl, ?y3⟩) (by assumption) ?r3
        case y3 => (intro W hSW; (try dsimp only at hSW); go_simp; try with_reducible rfl)
        (try simp only [Act.put, List.setIfInBounds_toArray, List.set_cons_zero, List.set_cons_succ])
        refine wpAnyH_take (i := 3) (v := ?v4) rfl (by kernel_rfl) (by kernel_rfl) (by kernel_rfl) (fun _ _ _ h => h) (Or.inl ⟨by rfl, ?y4⟩) (by assumption) ?r4
        case y4 => (intro W hSW; (try dsimp only at hSW); go_simp; try with_reducible rfl)
        (try simp only [Act.put, List.setIfInBounds_toArray, List.set_cons_zero, List.set_cons_succ])
        refine wpAnyH_take (i := 5) (v := ?v5) rfl (by kernel_rfl) (by kernel_rfl) (by kernel_rfl) (fun _ _ _ h => h) (Or.inl ⟨by rfl, ?y5⟩) (by assumption) ?r5
        case y5 => (intro W hSW; (try dsimp only at hSW); go_simp; try with_reducible rfl)
        (try simp only [Act.put, List.setIfInBounds_toArray, List.set_cons_zero, List.set_cons_succ])
        refine wpAnyH_take (i := 6) (v := ?v6) rfl (by kernel_rfl) (by kernel_rfl) (by kernel_rfl) (fun _ _ _ h => h) (Or.inl ⟨by rfl, ?y6⟩) (by assumption) ?r6
        case y6 => (intro W hSW; (try dsimp only at hSW); go_simp; try with_reducible rfl)
        (try simp only [Act.put, List.setIfInBounds_toArray, List.set_cons_zero, List.set_cons_succ])
        refine wpAnyH_take (i := 7) (v := ?v7) rfl (by kernel_rfl) (by kernel_rfl) (by kernel_rfl) (fun _ _ _ h => h) (Or.inl ⟨by rfl, ?y7⟩) (by assumption) ?r7
        case y7 => (intro W hSW; (try dsimp only at hSW); go_simp; try with_reducible rfl)
        (try simp only [Act.put, List.setIfInBounds_toArray, List.set_cons_zero, List.set_cons_succ])
        refine wpAnyH_take (i := 8) (v := ?v8) rfl (by kernel_rfl) (by kernel_rfl) (by kernel_rfl) (fun _ _ _ h => h) (Or.inl ⟨by rfl, ?y8⟩) (by assumption) ?r8
        case y8 => (intro W hSW; (try dsimp only at hSW); go_simp; try with_reducible rfl)
        (try simp only [Act.put, List.setIfInBounds_toArray, List.set_cons_zero, List.set_cons_succ])
        refine wpAnyH_take (i := 9) (v := ?v9) rfl (by kernel_rfl) (by kernel_rfl) (by kernel_rfl) (fun _ _ _ h => h) (Or.inl ⟨by rfl, ?y9⟩) (by assumption) ?r9
        case y9 => (intro W hSW; (try dsimp only at hSW); go_simp; try with_reducible rfl)
        (try simp only [Act.put, List.setIfInBounds_toArray, List.set_cons_zero, List.set_cons_succ])
        refine wpAnyH_take (i := 10) (v := ?v10) rfl (by kernel_rfl) (by kernel_rfl) (by kernel_rfl) (fun _ _ _ h => h) (Or.inl ⟨by rfl, ?y10⟩) (by assumption) ?r10
        case y10 => (intro W hSW; (try dsimp only at hSW); go_simp; try with_reducible rfl)
        (try simp only [Act.put, List.setIfInBounds_toArray, List.set_cons_zero, List.set_cons_succ])
        refine wpAnyH_take (i := 11) (v := ?v11) rfl (by kernel_rfl) (by kernel_rfl) (by kernel_rfl) (fun _ _ _ h => h) (Or.inl ⟨by rfl, ?y11⟩) (by assumption) ?r11
        case y11 => (intro W hSW; (try dsimp only at hSW); go_simp; try with_reducible rfl)
        (try simp only [Act.put, List.setIfInBounds_toArray, List.set_cons_zero, List.set_cons_succ])
        refine wpAnyH_take (i := 12) (v := ?v12) rfl (by kernel_rfl) (by kernel_rfl) (by kernel_rfl) (fun _ _ _ h => h) (Or.inl ⟨by rfl, ?y12⟩) (by assumption) ?r12
        case y12 => (intro W hSW; (try dsimp only at hSW); go_simp; try with_reducible rfl)
        (try simp only [Act.put, List.setIfInBounds_toArray, List.set_cons_zero, List.set_cons_succ])
        refine wpAnyH_take (i := 13) (v := ?v13) rfl (by kernel_rfl) (by kernel_rfl) (by kernel_rfl) (fun _ _ _ h => h) (Or.inl ⟨by rfl, ?y13⟩) (by assumption) ?r13
        case y13 => (intro W hSW; (try dsimp only at hSW); go_simp; try with_reducible rfl)
        (try simp only [Act.put, List.setIfInBounds_toArray, List.set_cons_zero, List.set_cons_succ])
        refine wpAnyH_take (i := 14) (v := ?v14) rfl (by kernel_rfl) (by kernel_rfl) (by kernel_rfl) (fun _ _ _ h => h) (Or.inl ⟨by rfl, ?y14⟩) (by assumption) ?r14
        case y14 => (intro W hSW; (try dsimp only at hSW); go_simp; try with_reducible rfl)
        (try simp only [Act.put, List.setIfInBounds_toArray, List.set_cons_zero, List.set_cons_succ])
        refine wpAnyH_take (i := 15) (v := ?v15) rfl (by kernel_rfl) (by kernel_rfl) (by kernel_rfl) (fun _ _ _ h => h) (Or.inl ⟨by rfl, ?y15⟩) (by assumption) ?r15
        case y15 => (intro W hSW; (try dsimp only at hSW); go_simp; try with_reducible rfl)
        (try simp only [Act.put, List.setIfInBounds_toArray, List.set_cons_zero, List.set_cons_succ])
        refine wpAnyH_take (i := 16) (v := ?v16) rfl (by kernel_rfl) (by kernel_rfl) (by kernel_rfl) (fun _ _ _ h => h) (Or.inl ⟨by rfl, ?y16⟩) (by assumption) ?r16
        case y16 => (intro W hSW; (try dsimp only at hSW); go_simp; try with_reducible rfl)
        (try simp only [Act.put, List.setIfInBounds_toArray, List.set_cons_zero, List.set_cons_succ])
        refine wpAnyH_take (i := 17) (v := ?v17) rfl (by kernel_rfl) (by kernel_rfl) (by kernel_rfl) (fun _ _ _ h => h) (Or.inl ⟨by rfl, ?y17⟩) (by assumption) ?r17
        case y17 => (intro W hSW; (try dsimp only at hSW); go_simp; try with_reducible rfl)
        (try simp only [Act.put, List.setIfInBounds_toArray, List.set_cons_zero, List.set_cons_succ])
        refine wpAnyH_take (i := 18) (v := ?v18) rfl (by kernel_rfl) (by kernel_rfl) (by kernel_rfl) (fun _ _ _ h => h) (Or.inl ⟨by rfl, ?y18⟩) (by assumption) ?r18
        case y18 => (intro W hSW; (try dsimp only at hSW); go_simp; try with_reducible rfl)
        (try simp only [Act.put, List.setIfInBounds_toArray, List.set_cons_zero, List.set_cons_succ])
        refine wpAnyH_take (i := 19) (v := ?v19) rfl (by kernel_rfl) (by kernel_rfl) (by kernel_rfl) (fun _ _ _ h => h) (Or.inl ⟨by rfl, ?y19⟩) (by assumption) ?r19
        case y19 => (intro W hSW; (try dsimp only at hSW); go_simp; try with_reducible rfl)
        (try simp only [Act.put, List.setIfInBounds_toArray, List.set_cons_zero, List.set_cons_succ])
        refine wpAnyH_take (i := 20) (v := ?v20) rfl (by kernel_rfl) (by kernel_rfl) (by kernel_rfl) (fun _ _ _ h => h) (Or.inl ⟨by rfl, ?y20⟩) (by assumption) ?r20
        case y20 => (intro W hSW; (try dsimp only at hSW); go_simp; try with_reducible rfl)
        (try simp only [Act.put, List.setIfInBounds_toArray, List.set_cons_zero, List.set_cons_succ])
        refine wpAnyH_take (i := 21) (v := ?v21) rfl (by kernel_rfl) (by kernel_rfl) (by kernel_rfl) (fun _ _ _ h => h) (Or.inl ⟨by rfl, ?y21⟩) (by assumption) ?r21
        case y21 => (intro W hSW; (try dsimp only at hSW); go_simp; try with_reducible rfl)
        (try simp only [Act.put, List.setIfInBounds_toArray, List.set_cons_zero, List.set_cons_succ])
        refine wpAnyH_take (i := 22) (v := ?v22) rfl (by kernel_rfl) (by kernel_rfl) (by kernel_rfl) (fun _ _ _ h => h) (Or.inl ⟨by rfl, ?y22⟩) (by assumption) ?r22
        case y22 => (intro W hSW; (try dsimp only at hSW); go_simp; try with_reducible rfl)
        (try simp only [Act.put, List.setIfInBounds_toArray, List.set_cons_zero, List.set_cons_succ])
        refine wpAnyH_take (i := 23) (v := ?v23) rfl (by kernel_rfl) (by kernel_rfl) (by kernel_rfl) (fun _ _ _ h => h) (Or.inl ⟨by rfl, ?y23⟩) (by assumption) ?r23
        case y23 => (intro W hSW; (try dsimp only at hSW); go_simp; try with_reducible rfl)
        (try simp only [Act.put, List.setIfInBounds_toArray, List.set_cons_zero, List.set_cons_succ])
        refine wpAnyH_take (i := 24) (v := ?v24) rfl (by kernel_rfl) (by kernel_rfl) (by kernel_rfl) (fun _ _ _ h => h) (Or.inl ⟨by rfl, ?y24⟩) (by assumption) ?r24
        case y24 => (intro W hSW; (try dsimp only at hSW); go_simp; try with_reducible rfl)
        (try simp only [Act.put, List.setIfInBounds_toArray, List.set_cons_zero, List.set_cons_succ])
        refine wpAnyH_take (i := 26) (v := ?v25) rfl (by kernel_rfl) (by kernel_rfl) (by kernel_rfl) (fun _ _ _ h => h) (Or.inl ⟨by rfl, ?y25⟩) (by assumption) ?r25
        case y25 => (intro W hSW; (try dsimp only at hSW); go_simp; try with_reducible rfl)
        (try simp only [Act.put, List.setIfInBounds_toArray, List.set_cons_zero, List.set_cons_succ])
        refine wpAnyH_ready (rs := [4, 27]) (by kernel_rfl) (by simp) ?_
        refine AllReadyH.cons rfl (fun KK hKK => ?_) ?_
        · go_simp
          refine hKK.out _ _ ⟨c0, h1⟩ (fun hHeld => ?_)
          clear hKK KK
          (try simp only [Act.put, List.setIfInBounds_toArray, List.set_cons_zero, List.set_cons_succ])
          refine wpAnyH_take (i := 25) (v := ?v26) rfl (by kernel_rfl) (by kernel_rfl) (by kernel_rfl) (fun _ _ _ h => h) (Or.inl ⟨by rfl, ?y26⟩) (by assumption) ?r26
          case y26 => (intro W hSW; (try dsimp only at hSW); go_simp; try with_reducible rfl)
          (try simp only [Act.put, List.setIfInBounds_toArray, List.set_cons_zero, List.set_cons_succ])
          refine wpAnyH_ready (rs := [27]) (by kernel_rfl) (by simp) ?_
          refine AllReadyH.cons rfl (fun KK hKK => ?_) ?_
          · (go_simp; go_at_call 30; refine (HOwnC.out _ (HB.out.drew)).mono ?_; rintro e' w4 ⟨ao4, cap4, rfl, ho4, hb4⟩; obtain ⟨g4, cap4', hv4, hg4, hlt4⟩ := ho4.form (by omega); injection hv4 with hv4 _ hv4'; subst hv4; subst hv4'; have d0 : w4.cell? ⟨b, 0, none⟩ = some (.int .i64 x.base) := (hb4.cell (p := ⟨b, 0, none⟩) hblt).trans c0; have d2 : w4.cell? ⟨b, 2, none⟩ = some (.slice ao2 x.l.length cap2) := (hb4.cell (p := ⟨b, 2, none⟩) hblt).trans c2; have d1 : w4.cell? ⟨g, o + j * 4, none⟩ = some (.int .i64 e.ix) := (hb4.cell (p := ⟨g, o + j * 4, none⟩) hgr).trans h1; have HB4 : Hid (Below wr.heap.size wr w4) := Lib.hid (undrewL hb4); have HO4 := Lib.hid ho4; clear hb4 ho4 hg4)
            refine hKK.out _ _ ⟨d0, d1⟩ (fun hHeld => ?_)
            clear hKK KK
            (try simp only [Act.put, List.setIfInBounds_toArray, List.set_cons_zero, List.set_cons_succ])
            refine wpAnyH_ready (rs := [28]) (by kernel_rfl) (by simp) ?_
            refine AllReadyH.cons rfl (fun KK hKK => ?_) ?_
            · (refine step_append_grows (by rfl) (.tmp 103) (.tmp 105) 22 (by rfl) 32 i0 _ 4 40 Try.underlying22 HI.out.1 HI.out.2.1 HI.out.2.2.1 HI.out.2.2.2 (by rfl) (by omega) ao2 K K (entCells (x.l.take K)) (by rfl) hNone hLenT (fun b' hb' => HOlds.out w4 HB4.out b' hb') ⟨g4, 0, none⟩ (n - j) cap4 (entCells (l.drop j)) (by rfl) hLenD (ents_own HO4.out).cells (entCells_one _) (by omega) (by unfold maxLen; omega) (by omega) ?_; intro v5 w5 ho5 hg5; obtain ⟨g5, cap5, hv5, hgg5, hlt5⟩ := ho5.form (by omega); subst hv5; have hx5 := HAfter.out w4 w5 HB4.out hg5; have f0 := hx5.1; have f1 := hx5.2.1; have f2 := hx5.2.2.1; have f3 := hx5.2.2.2.1; have f4 := hx5.2.2.2.2)
              refine hKK.out _ _ ⟨f0, f1⟩ (fun hHeld => ?_)
              clear hKK KK
              (try simp only [Act.put, List.setIfInBounds_toArray, List.set_cons_zero, List.set_cons_succ])
              refine wpAnyH_take (i := 29) (v := ?v27) rfl (by kernel_rfl) (by kernel_rfl) (by kernel_rfl) (fun _ _ _ h => h) (Or.inl ⟨by rfl, ?y27⟩) (by assumption) ?r27
              case y27 => (intro W hSW; (try dsimp only at hSW); go_simp; try with_reducible rfl)
              (try simp only [Act.put, List.setIfInBounds_toArray, List.set_cons_zero, List.set_cons_succ])
              refine wpAnyH_take (i := 30) (v := ?v28) rfl (by kernel_rfl) (by kernel_rfl) (by kernel_rfl) (fun _ _ _ h => h) (Or.inl ⟨by rfl, ?y28⟩) (by assumption) ?r28
              case y28 => (intro W hSW; (try dsimp only at hSW); go_simp; try with_reducible rfl)
              (try simp only [Act.put, List.setIfInBounds_toArray, List.set_cons_zero, List.set_cons_succ])
              refine wpAnyH_ready (rs := [31]) (by kernel_rfl) (by simp) ?_
              refine AllReadyH.cons rfl (fun KK hKK => ?_) ?_
              · go_simp
                refine hKK.out _ _ (f4 _) (fun hHeld => ?_)
                clear hKK KK
                (try simp only [Act.put, List.setIfInBounds_toArray, List.set_cons_zero, List.set_cons_succ])
                refine wpAnyH_done (by kernel_rfl) ?_ _
                go_wp2_with fail
                go_ret2
                show MergeRes B b (mergeOf x l (some (j + 1))) w _ _
                rw [HRes.out]
                exact ⟨rfl, HFin.out w4 w5 _ HB4.out hg5 ho5⟩
              exact AllReadyH.nil
            exact AllReadyH.nil
          exact AllReadyH.nil
        refine AllReadyH.cons rfl (fun KK hKK => ?_) ?_
        · (go_simp; go_at_call 30; refine (HOwnC.out _ (HB.out.drew)).mono ?_; rintro e' w4 ⟨ao4, cap4, rfl, ho4, hb4⟩; obtain ⟨g4, cap4', hv4, hg4, hlt4⟩ := ho4.form (by omega); injection hv4 with hv4 _ hv4'; subst hv4; subst hv4'; have d0 : w4.cell? ⟨b, 0, none⟩ = some (.int .i64 x.base) := (hb4.cell (p := ⟨b, 0, none⟩) hblt).trans c0; have d2 : w4.cell? ⟨b, 2, none⟩ = some (.slice ao2 x.l.length cap2) := (hb4.cell (p := ⟨b, 2, none⟩) hblt).trans c2; have d1 : w4.cell? ⟨g, o + j * 4, none⟩ = some (.int .i64 e.ix) := (hb4.cell (p := ⟨g, o + j * 4, none⟩) hgr).trans h1; have HB4 : Hid (Below wr.heap.size wr w4) := Lib.hid (undrewL hb4); have HO4 := Lib.hid ho4; clear hb4 ho4 hg4)
          refine hKK.out _ _ ⟨d0, d1⟩ (fun hHeld => ?_)
          clear hKK KK
          (try simp only [Act.put, List.setIfInBounds_toArray, List.set_cons_zero, List.set_cons_succ])
          refine wpAnyH_ready (rs := [4]) (by kernel_rfl) (by simp) ?_
          refine AllReadyH.cons rfl (fun KK hKK => ?_) ?_
          · go_simp
            refine hKK.out _ _ ⟨d0, d1⟩ (fun hHeld => ?_)
            clear hKK KK
            (try simp only [Act.put, List.setIfInBounds_toArray, List.set_cons_zero, List.set_cons_succ])
            refine wpAnyH_take (i := 25) (v := ?v29) rfl (by kernel_rfl) (by kernel_rfl) (by kernel_rfl) (fun _ _ _ h => h) (Or.inl ⟨by rfl, ?y29⟩) (by assumption) ?r29
            case y29 => (intro W hSW; (try dsimp only at hSW); go_simp; try with_reducible rfl)
            (try simp only [Act.put, List.setIfInBounds_toArray, List.set_cons_zero, List.set_cons_succ])
            refine wpAnyH_ready (rs := [28]) (by kernel_rfl) (by simp) ?_
            refine AllReadyH.cons rfl (fun KK hKK => ?_) ?_
            · (refine step_append_grows (by rfl) (.tmp 103) (.tmp 105) 22 (by rfl) 32 i0 _ 4 40 Try.underlying22 HI.out.1 HI.out.2.1 HI.out.2.2.1 HI.out.2.2.2 (by rfl) (by omega) ao2 K K (entCells (x.l.take K)) (by rfl) hNone hLenT (fun b' hb' => HOlds.out w4 HB4.out b' hb') ⟨g4, 0, none⟩ (n - j) cap4 (entCells (l.drop j)) (by rfl) hLenD (ents_own HO4.out).cells (entCells_one _) (by omega) (by unfold maxLen; omega) (by omega) ?_; intro v5 w5 ho5 hg5; obtain ⟨g5, cap5, hv5, hgg5, hlt5⟩ := ho5.form (by omega); subst hv5; have hx5 := HAfter.out w4 w5 HB4.out hg5; have f0 := hx5.1; have f1 := hx5.2.1; have f2 := hx5.2.2.1; have f3 := hx5.2.2.2.1; have f4 := hx5.2.2.2.2)
              refine hKK.out _ _ ⟨f0, f1⟩ (fun hHeld => ?_)
              clear hKK KK
              (try simp only [Act.put, List.setIfInBounds_toArray, List.set_cons_zero, List.set_cons_succ])
              refine wpAnyH_take (i := 29) (v := ?v30) rfl (by kernel_rfl) (by kernel_rfl) (by kernel_rfl) (fun _ _ _ h => h) (Or.inl ⟨by rfl, ?y30⟩) (by assumption) ?r30
              case y30 => (intro W hSW; (try dsimp only at hSW); go_simp; try with_reducible rfl)
              (try simp only [Act.put, List.setIfInBounds_toArray, List.set_cons_zero, List.set_cons_succ])
              refine wpAnyH_take (i := 30) (v := ?v31) rfl (by kernel_rfl) (by kernel_rfl) (by kernel_rfl) (fun _ _ _ h => h) (Or.inl ⟨by rfl, ?y31⟩) (by assumption) ?r31
              case y31 => (intro W hSW; (try dsimp only at hSW); go_simp; try with_reducible rfl)
              (try simp only [Act.put, List.setIfInBounds_toArray, List.set_cons_zero, List.set_cons_succ])
              refine wpAnyH_ready (rs := [31]) (by kernel_rfl) (by simp) ?_
              refine AllReadyH.cons rfl (fun KK hKK => ?_) ?_
              · go_simp
                refine hKK.out _ _ (f4 _) (fun hHeld => ?_)
                clear hKK KK
                (try simp only [Act.put, List.setIfInBounds_toArray, List.set_cons_zero, List.set_cons_succ])
                refine wpAnyH_done (by kernel_rfl) ?_ _
                go_wp2_with fail
                go_ret2
                show MergeRes B b (mergeOf x l (some (j + 1))) w _ _
                rw [HRes.out]
                exact ⟨rfl, HFin.out w4 w5 _ HB4.out hg5 ho5⟩
              exact AllReadyH.nil
            exact AllReadyH.nil
          exact AllReadyH.nil
        exact AllReadyH.nil
end Go.Proofs.Yticlkfdcocdmaaa
