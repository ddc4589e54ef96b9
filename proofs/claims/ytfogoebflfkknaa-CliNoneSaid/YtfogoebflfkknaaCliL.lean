/- The walk of arboretumlaw29.alive. -/
import Derived.Test.YtfogoebflfkknaaCliM
namespace Go.Proofs.Ytfogoebflfkknaa
open Go.Conc Go.RowKit
set_option linter.unusedVariables false
theorem two_at (w : World) : ∀ j x, ([1, 2] : List Int)[j]? = some x → (w.alloc (.cells #[.int .i64 1, .int .i64 2] 3)).cell? ((⟨w.heap.size, 0, none⟩ : Addr).add j) = some (.int .i64 x) := by
  intro j x hj
  rw [add_lit, blk_cell (heap_alloc_new w _)]
  rcases j with _ | _ | j
  · simp at hj; subst hj; rfl
  · simp at hj; subst hj; rfl
  · simp at hj
set_option maxRecDepth 20000 in
set_option maxHeartbeats 4000000 in
theorem aliveCl_any (w : World) : Calls Try.prog 35 #[] w fun e w' => e = .returned (.bool true) ∧ Below w.heap.size w w' := by
  have HNw := Lib.hid (new_any ⟨w.heap.size, 0, none⟩ 2 2 [1, 2] (w.alloc (.cells #[.int .i64 1, .int .i64 2] 3)) rfl (by omega) (by omega) (by simp) (two_at w) 101 (by omega))
  have HB0 : Hid (Below w.heap.size w (w.alloc (.cells #[.int .i64 1, .int .i64 2] 3))) := Lib.hid ((Below.refl _ _).alloc (Nat.le_refl _) _)
  have hz0 : w.heap.size ≤ (w.alloc (.cells #[.int .i64 1, .int .i64 2] 3)).heap.size := by simp
  have HZ0 := Lib.hid hz0
  clear hz0
  go_enter Try.func35, Try.ntmps35
  go_wp2_with fail
  refine HNw.out.mono ?_
  rintro e w1 ⟨b, gn, ch, cap, rfl, h1⟩
  generalize w.alloc (.cells #[.int .i64 1, .int .i64 2] 3) = W0 at h1 HB0 HZ0
  have HA := Lib.hid (gask (key := ⟨#[107]⟩) h1 (by decide) (by decide))
  clear HNw h1
  go_wp2_with fail
  refine HA.out.mono ?_
  rintro e w2 ⟨rfl, h2, -⟩
  have HT := Lib.hid (gtick1 h2 (by decide) (by decide) 1 rfl)
  clear HA h2
  obtain ⟨D, hD⟩ : ∃ D, D = (⟨(askB 1 (getO ⟨#[107]⟩)).toArray⟩ : ByteArray) := ⟨_, rfl⟩
  rw [← hD] at HT
  have HD := Lib.hid hD
  clear hD
  go_wp2_with fail
  refine HT.out.mono ?_
  rintro e w3 ⟨g, rfl, h3, p3, -, -⟩
  have HC := Lib.hid h3
  have HP := Lib.hid p3
  obtain ⟨z0, z1, z2⟩ := p3.facts
  clear h3 p3 HT z0 z2
  go_wp2_with fail
  go_loopw [6] (fun i wr => ∃ k : Nat, k ≤ 19 ∧ i = .int .i64 k ∧ Hid (Cli W0 wr W0.heap.size b gn ch cap (gV 101 [1, 2] (getO ⟨#[107]⟩) 0 (20 - (k : Int)) false) []) ∧ Hid (OnePk wr g 101 1 D)) (fun i _ => 19 - (intOf i).toNat)
  case atStart => exact ⟨0, by omega, rfl, HC, HP⟩
  case round =>
    obtain ⟨k, hk, rfl, HCk, HPk⟩ := hrel
    clear HC HP z1
    by_cases hlt : k < 19
    · have HW := Lib.hid (gwait HCk.out (by omega) (by omega))
      go_wp2_with fail
      refine HW.out.mono ?_
      rintro e w4 ⟨rfl, h4, f4⟩
      rw [show (20 - (k : Int)) - 1 = 20 - ((k + 1 : Nat) : Int) by omega] at h4
      have HC4 := Lib.hid h4
      have HP4 := Lib.hid (HPk.out.far HCk.out f4)
      clear h4 f4 HW HCk HPk
      go_wp2_with fail
      go_roundw
      case rel => exact ⟨k + 1, by omega, by go_num, HC4, HP4⟩
      case measure => simp [intOf]; omega
    · have hk' : k = 19 := by omega
      subst hk'
      have HW := Lib.hid (gagain HCk.out (by omega) (by omega) (by decide) (by decide) 2 rfl)
      rw [← HD.out] at HW
      clear hk hlt
      go_wp2_with fail
      refine HW.out.mono ?_
      rintro e w4 ⟨g2, rfl, h4, p4, -, f4⟩
      have HC4 := Lib.hid h4
      have HP4 := Lib.hid (HPk.out.far HCk.out f4)
      have HQ4 := Lib.hid p4
      clear h4 f4 p4 HW HCk HPk HD
      go_wp2_with fail
      have hq : ∀ p : SinceW w4.heap.size w4, Cli W0 p.w W0.heap.size b gn ch cap (gV 101 [1, 2] (getO ⟨#[107]⟩) ((0 + 1) % [1, 2].length) 20 false) [] ∧ OnePk p.w g 101 1 D ∧ OnePk p.w g2 101 2 D := fun p => ⟨HC4.out.step p.h, HP4.out.below p.h, HQ4.out.below p.h⟩
      have y1 := fun p => (hq p).2.2.facts.2.1
      have y2 := fun p => (hq p).2.2.facts.2.2
      have x2 := fun p => (hq p).2.1.facts.2.2
      have HBz := Lib.hid (fun p => gbusy (hq p).1)
      clear hq
      refine wp_region_since (B := w4.heap.size) (W0 := w4) (by kernel_rfl) (by kernel_rfl) (Below.refl _ _) ?_
      repeat (go_big_quiet_step ((go_at_call 40; exact since_same (HBz.out _))))
      refine wpQuiet_nil ?_
      intro w5 hw'
      have hv5 : Below w4.heap.size w4 w5 := by obtain ⟨p, rfl⟩ := hw'; exact p.h
      have HX := Lib.hid (HC4.out.step hv5)
      clear hw' y1 y2 x2 HBz hv5 HC4 HP4 HQ4
      go_wp2_with fail
      go_ret
      exact ⟨rfl, HB0.out.trans (HX.out.below.mono HZ0.out)⟩
end Go.Proofs.Ytfogoebflfkknaa
