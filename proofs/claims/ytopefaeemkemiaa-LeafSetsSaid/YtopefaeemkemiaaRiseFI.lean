/- The walk of leaf.rise. -/
import Derived.Test.YtopefaeemkemiaaRightI
import Derived.Test.YtopefaeemkemiaaSince
namespace Go.Proofs.Ytopefaeemkemiaa
open Go.RowKit
set_option linter.unusedVariables false
set_option maxRecDepth 20000 in
set_option maxHeartbeats 4000000 in
theorem rise_anyI {ao : Option Addr} {n c : Nat} {l : List Itm} {w : World} (hE : Itms w w.heap.size ao n l) (hok : ∀ e ∈ l, ItmOk e) (hn : n ≤ 4611686018427387904) :
    Calls Try.prog 24 #[.slice ao n c] w fun e w' => e = .returned (.bool (riseI l)) ∧ Below w.heap.size w w' := by
  have HE := Lib.hid hE
  have HOk := Lib.hid hok
  have hl := hE.1
  have HLn := Lib.hid hl
  obtain ⟨R, hR⟩ : ∃ R, R = riseI l := ⟨_, rfl⟩
  rw [← hR]
  have HR : Hid (riseGoI (prevI l 0) (l.drop 0) = R) := Lib.hid (by rw [hR]; rfl)
  clear hE hl hok hR
  go_enter Try.func24, Try.ntmps24
  go_wp2_with fail
  go_loopw [7] (fun i wr => ∃ k : Nat, k ≤ n ∧ i = .int .i64 k ∧ Hid (riseGoI (prevI l k) (l.drop k) = R) ∧ Hid (Below w.heap.size w wr)) (fun i _ => n - (intOf i).toNat)
  case atStart => exact ⟨0, Nat.zero_le _, rfl, HR, Lib.hid (Below.refl _ _)⟩
  case round =>
    obtain ⟨k, hk, rfl, HG, HB⟩ := hrel
    have hsz := HB.out.size
    by_cases hlt : k < n
    · obtain ⟨b, o, e, rfl, hbB, hek, h1, h2, h3, h4⟩ := (HE.out.below HB.out).get hlt
      have hG := HG.out
      rw [riseGoI_step hek] at hG
      have hx1 : (0 : Int) ≤ k := by omega
      have hx2 : (k : Int) < n := by omega
      obtain ⟨W0, hW0⟩ : ∃ W0, W0 = wr.alloc (.cells #[.string e.key, .string e.vl, .int .i64 e.ov, .int .i64 e.sz] 28) := ⟨_, rfl⟩
      have hR0 : ∀ W, Calls Try.prog 36 #[.agg #[.string e.key, .string e.vl, .int .i64 e.ov, .int .i64 e.sz]] W fun e' w' => e' = .returned (.bool (okI e)) ∧ Below W.heap.size W w' := fun W => right_anyI e (HOk.out e (List.mem_of_getElem? hek)) W
      have HRt := Lib.hid hR0
      have HC : Hid (∀ W, Below (wr.heap.size + 1) (wr.alloc (.cells #[.string e.key, .string e.vl, .int .i64 e.ov, .int .i64 e.sz] 28)) W → W.cell? ⟨wr.heap.size, 0, none⟩ = some (.string e.key) ∧ W.cell? ⟨wr.heap.size, 1, none⟩ = some (.string e.vl) ∧ W.cell? ⟨wr.heap.size, 2, none⟩ = some (.int .i64 e.ov) ∧ W.cell? ⟨wr.heap.size, 3, none⟩ = some (.int .i64 e.sz)) := Lib.hid (by
        intro W hb
        have hc := heap_alloc_new wr (.cells #[.string e.key, .string e.vl, .int .i64 e.ov, .int .i64 e.sz] 28)
        have hk : W.heap[wr.heap.size]? = _ := (hb.block wr.heap.size (by omega)).trans hc
        refine ⟨?_, ?_, ?_, ?_⟩ <;> rw [blk_cell hk] <;> rfl)
      have HBX : Hid (∀ W, Below (wr.heap.size + 1) (wr.alloc (.cells #[.string e.key, .string e.vl, .int .i64 e.ov, .int .i64 e.sz] 28)) W → Below w.heap.size w W) := Lib.hid (fun W hb => HB.out.trans ((((Below.refl _ _).alloc (Nat.le_refl _) _).trans (hb.mono (by omega))).mono hsz))
      obtain ⟨r, hr⟩ : ∃ r, r = okI e := ⟨_, rfl⟩
      rw [← hr] at HRt hG
      clear hR0 hr hW0
      cases r with
      | false =>
        rw [Bool.false_and, Bool.false_and] at hG
        subst hG
        clear hek
        go_wp2_with fail
        have hq : ∀ p : SinceW (wr.heap.size + 1) (wr.alloc (.cells #[.string e.key, .string e.vl, .int .i64 e.ov, .int .i64 e.sz] 28)), _ := fun p => HC.out p.w p.h
        have q0 := fun p => (hq p).1
        have q1 := fun p => (hq p).2.1
        have q2 := fun p => (hq p).2.2.1
        have q3 := fun p => (hq p).2.2.2
        clear hq
        refine wp_region_since (B := wr.heap.size + 1) (W0 := wr.alloc (.cells #[.string e.key, .string e.vl, .int .i64 e.ov, .int .i64 e.sz] 28)) (by kernel_rfl) (by kernel_rfl) (Below.refl _ _) ?_
        repeat (go_big_quiet_step ((go_at_call 36; exact since_call (by simp) (HRt.out _))))
        refine wpQuiet_nil ?_
        intro _ hw'
        obtain ⟨⟨w5, hv5⟩, rfl⟩ := hw'
        clear q0 q1 q2 q3
        all_goals (
          go_wp2_with fail
          go_ret
          exact ⟨rfl, HBX.out _ hv5⟩)
      | true =>
        rw [Bool.true_and] at hG
        by_cases hk0 : k = 0
        · have hs0 : stepI (prevI l k) e = true := by rw [hk0]; rfl
          rw [hs0, Bool.true_and] at hG
          have d0 : decide ((0 : Int) < k) = false := by rw [hk0]; rfl
          have d1 : decide (0 < k) = false := by rw [hk0]; rfl
          have HG2 := Lib.hid hG
          clear hs0 hk0 hek hG
          go_wp2_with fail
          have hq : ∀ p : SinceW (wr.heap.size + 1) (wr.alloc (.cells #[.string e.key, .string e.vl, .int .i64 e.ov, .int .i64 e.sz] 28)), _ := fun p => HC.out p.w p.h
          have q0 := fun p => (hq p).1
          have q1 := fun p => (hq p).2.1
          have q2 := fun p => (hq p).2.2.1
          have q3 := fun p => (hq p).2.2.2
          clear hq
          refine wp_region_since (B := wr.heap.size + 1) (W0 := wr.alloc (.cells #[.string e.key, .string e.vl, .int .i64 e.ov, .int .i64 e.sz] 28)) (by kernel_rfl) (by kernel_rfl) (Below.refl _ _) ?_
          repeat (go_big_quiet_step ((go_at_call 36; exact since_call (by simp) (HRt.out _))))
          refine wpQuiet_nil ?_
          intro _ hw'
          obtain ⟨⟨w5, hv5⟩, rfl⟩ := hw'
          clear q0 q1 q2 q3
          all_goals (
            have HBn := Lib.hid (HBX.out _ hv5)
            clear hv5
            go_wp2_with fail
            go_roundw
            case rel => exact ⟨k + 1, by omega, by go_num, HG2, HBn⟩
            case measure => simp [intOf]; omega)
        · obtain ⟨j, hkj⟩ : ∃ j, k = j + 1 := ⟨k - 1, by omega⟩
          obtain ⟨b', o', e', hbe, hbB', hek', q1, q2, q3, q4⟩ := (HE.out.below HB.out).get (k := j) (by omega)
          obtain ⟨rfl, rfl⟩ : b' = b ∧ o' = o := by injection hbe with h; injection h with h1 h2; exact ⟨h1.symm, h2.symm⟩
          have hs0 : stepI (prevI l k) e = ltB e'.key e.key := by
            rw [hkj]
            show stepI ((l[j]?).map (·.key)) e = _
            rw [hek']; rfl
          rw [hs0] at hG
          have d0 : decide ((0 : Int) < k) = true := by simp; omega
          have d1 : decide (0 < k) = true := by simp; omega
          have d2 : (k : Int) - 1 = j := by omega
          have d3 : IntKind.i64.wrap ((k : Int) - 1) = j := by rw [d2]; exact IntWalk.i64_in _ (by omega)
          have hy1 : (0 : Int) ≤ j := by omega
          have hy2 : (j : Int) < n := by omega
          have HC2 : Hid (∀ W, Below (wr.heap.size + 1) (wr.alloc (.cells #[.string e.key, .string e.vl, .int .i64 e.ov, .int .i64 e.sz] 28)) W → (W.cell? ⟨wr.heap.size, 0, none⟩ = some (.string e.key) ∧ W.cell? ⟨wr.heap.size, 1, none⟩ = some (.string e.vl) ∧ W.cell? ⟨wr.heap.size, 2, none⟩ = some (.int .i64 e.ov) ∧ W.cell? ⟨wr.heap.size, 3, none⟩ = some (.int .i64 e.sz)) ∧ W.cell? ⟨b', o' + j * 4, none⟩ = some (.string e'.key)) := Lib.hid (fun W hb => ⟨HC.out W hb, ((((Below.refl _ _).alloc (Nat.le_refl _) _).trans (hb.mono (by omega))).cell (p := ⟨b', o' + j * 4, none⟩) (by show b' < _; omega)).trans q1⟩)
          obtain ⟨b1, hb1⟩ : ∃ b1, Op.bytesLess e'.key.toList e.key.toList = b1 := ⟨_, rfl⟩
          have hk2 : ltB e'.key e.key = b1 := hb1
          rw [hk2] at hG
          clear hs0 hbe q2 q3 q4 hek' hkj hk2 hek HC hk0
          cases b1 with
          | true =>
            rw [Bool.true_and] at hG
            have HG2 := Lib.hid hG
            clear hG
            go_wp2_with fail
            have hq : ∀ p : SinceW (wr.heap.size + 1) (wr.alloc (.cells #[.string e.key, .string e.vl, .int .i64 e.ov, .int .i64 e.sz] 28)), _ := fun p => HC2.out p.w p.h
            have q0 := fun p => (hq p).1.1
            have q1 := fun p => (hq p).1.2.1
            have q2 := fun p => (hq p).1.2.2.1
            have q3 := fun p => (hq p).1.2.2.2
            have q4 := fun p => (hq p).2
            clear hq
            refine wp_region_since (B := wr.heap.size + 1) (W0 := wr.alloc (.cells #[.string e.key, .string e.vl, .int .i64 e.ov, .int .i64 e.sz] 28)) (by kernel_rfl) (by kernel_rfl) (Below.refl _ _) ?_
            repeat (go_big_quiet_step ((go_at_call 36; exact since_call (by simp) (HRt.out _))))
            refine wpQuiet_nil ?_
            intro _ hw'
            obtain ⟨⟨w5, hv5⟩, rfl⟩ := hw'
            clear q0 q1 q2 q3 q4
            all_goals (
              have HBn := Lib.hid (HBX.out _ hv5)
              clear hv5
              go_wp2_with fail
              go_roundw
              case rel => exact ⟨k + 1, by omega, by go_num, HG2, HBn⟩
              case measure => simp [intOf]; omega)
          | false =>
            rw [Bool.false_and] at hG
            subst hG
            go_wp2_with fail
            have hq : ∀ p : SinceW (wr.heap.size + 1) (wr.alloc (.cells #[.string e.key, .string e.vl, .int .i64 e.ov, .int .i64 e.sz] 28)), _ := fun p => HC2.out p.w p.h
            have q0 := fun p => (hq p).1.1
            have q1 := fun p => (hq p).1.2.1
            have q2 := fun p => (hq p).1.2.2.1
            have q3 := fun p => (hq p).1.2.2.2
            have q4 := fun p => (hq p).2
            clear hq
            refine wp_region_since (B := wr.heap.size + 1) (W0 := wr.alloc (.cells #[.string e.key, .string e.vl, .int .i64 e.ov, .int .i64 e.sz] 28)) (by kernel_rfl) (by kernel_rfl) (Below.refl _ _) ?_
            repeat (go_big_quiet_step ((go_at_call 36; exact since_call (by simp) (HRt.out _))))
            refine wpQuiet_nil ?_
            intro _ hw'
            obtain ⟨⟨w5, hv5⟩, rfl⟩ := hw'
            clear q0 q1 q2 q3 q4
            all_goals (
              go_wp2_with fail
              go_ret
              exact ⟨rfl, HBX.out _ hv5⟩)
    · obtain rfl : k = n := by omega
      have hG := HG.out
      rw [List.drop_eq_nil_of_le (by rw [HLn.out]; omega)] at hG
      have hR1 : R = true := hG.symm
      subst hR1
      clear hG
      go_wp2_with fail
      go_ret
      exact ⟨rfl, HB.out⟩
end Go.Proofs.Ytopefaeemkemiaa
