/- The walk of num.Digits: it writes a number in decimal digits. -/
import Derived.Test.YtegiibpdkioocaaChecked
import Derived.Test.YtegiibpdkioocaaClone
import Derived.Test.YtegiibpdkioocaaDigP
namespace Go.Proofs.Ytegiibpdkioocaa
open Go.RowKit
/-- The bytes from place q on, in a row of 21. -/
def Tail (C : Array Value) (q : Nat) (D : List UInt8) : Prop := C.size = 21 ∧ q + D.length = 21 ∧ C.toList.drop q = Lib.byteCells D
theorem tail_cell {C : Array Value} {q : Nat} {D : List UInt8} (h : Tail C (q + 1) D) : ∃ u, C[q]? = some u :=
  ⟨C[q]'(by have := h.1; have := h.2.1; omega), Array.getElem?_eq_getElem _⟩
theorem tail_set {C : Array Value} {q : Nat} {D : List UInt8} (h : Tail C (q + 1) D) (c : UInt8) : Tail (C.setIfInBounds q (.int .u8 c.toNat)) q (c :: D) := by
  obtain ⟨h1, h2, h3⟩ := h
  refine ⟨by simpa using h1, by simp; omega, ?_⟩
  have hq : q < C.toList.length := by simp; omega
  rw [Array.toList_setIfInBounds, List.drop_eq_getElem_cons (by simpa using hq)]
  simp only [List.getElem_set_self, List.drop_set, Nat.lt_succ_self, if_true]
  rw [h3]; rfl
theorem tail_conv {C : Array Value} {q : Nat} {D : List UInt8} (h : Tail C q D) (w : World) (cap : Nat) :
    (convert 97 9 (.slice (some ⟨w.heap.size, q, none⟩) (21 - q) cap)).run Try.prog (w.alloc (.cells C 111)) = .ok (.string ⟨D.toArray⟩) (w.alloc (.cells C 111)) := by
  obtain ⟨h1, h2, h3⟩ := h
  refine run_string_at 97 9 5 Try.underlying97 Try.underlying5 Try.underlying9 (by omega) (fun i hi => ?_)
  rw [World.cell?_alloc_new, ← h3, List.getElem?_drop]
  simp
theorem run_cut21 (b q : Nat) (hq : q ≤ 20) (w : World) :
    (Instr.sliceAt 111 (.pointer (some ⟨b, 0, none⟩)) (some (.int .i64 (q : Int))) none none).run Try.prog w = .ok (.slice (some ⟨b, q, none⟩) (21 - q) (21 - q)) w := by
  have hlen : Try.prog.arrayLen 111 = 21 := by kernel_rfl
  have hel : Try.prog.elem 111 = 5 := by kernel_rfl
  have hun : Try.prog.underlying 111 = some (.array (Try.prog.arrayLen 111) (Try.prog.elem 111)) := by kernel_rfl
  obtain ⟨i0, hi, hz0, hz1, hz2⟩ := info_parts u8info
  rw [run_sliceAt_array_l w 111 ⟨b, 0, none⟩ hun .i64 (q : Int) (by omega) (by rw [hlen]; omega)]
  simp [slicedAt, hlen, hel, sizeOf, typeInfo, hi, hz1, Result.andThen]
  rw [if_neg (by omega), add_lit]
set_option maxHeartbeats 1000000 in
set_option maxRecDepth 100000 in
theorem digits_any (v : Int) (w : World) (h1 : -9223372036854775808 ≤ v) (h2 : v ≤ 9223372036854775807) :
    Calls Try.prog 30 #[.int .i64 v] w fun e w' => e = .returned (.string ⟨(digits v).toArray⟩) ∧ Below w.heap.size w w' := by
  obtain ⟨N, hN⟩ : ∃ N, N = v.natAbs := ⟨_, rfl⟩
  have hNb : N < 18446744073709551616 := by omega
  by_cases h0 : v < 0
  · have hfin : digits v = 45 :: digF 20 N [] := by unfold digits; rw [if_pos h0, hN]
    have hu64 : IntKind.u64.wrap (-IntKind.u64.wrap v) = (N : Int) := by
      have wr : ∀ x : Int, IntKind.u64.wrap x = x % 18446744073709551616 := fun x => by simp [IntKind.wrap, IntKind.bits, IntKind.signed]
      rw [wr, wr]; omega
    have HF := Lib.hid hfin
    clear hfin hN
    go_enter Try.func30, Try.ntmps30
    go_wp2
    go_loopw [3, 5] (fun x i wr => ∃ (C : Array Value) (D : List UInt8) (m f : Nat), wr = w.alloc (.cells C 111) ∧ x = .int .u64 m ∧ m < 18446744073709551616 ∧ i = .int .i64 ((f + 1 : Nat) : Int) ∧ 0 < f ∧ Tail C (f + 1) D ∧ Hid (m < 10 ^ f) ∧ Hid (digF f m D = digF 20 N [])) (fun _ i _ => (intOf i).toNat)
    case atStart => exact ⟨_, [], N, 20, rfl, rfl, hNb, rfl, by omega, ⟨rfl, rfl, rfl⟩, by show N < 10 ^ 20; omega, rfl⟩
    case round =>
      obtain ⟨C, D, m, f, rfl, rfl, hm, rfl, hf0, ht, hmf, hD⟩ := hrel
      have hf21 : f ≤ 20 := by have := ht.2.1; omega
      cases f with
      | zero => omega
      | succ f =>
        obtain ⟨u, hu⟩ := tail_cell ht
        have ht' := tail_set ht (UInt8.ofNat (48 + m % 10))
        obtain ⟨c, hcE⟩ : ∃ c, c = UInt8.ofNat (48 + m % 10) := ⟨_, rfl⟩
        have hct := dig_toNat m
        rw [← hcE] at ht' hct
        have HCE := Lib.hid hcE
        rw [hct, show ((48 + m % 10 : Nat) : Int) = 48 + (m : Int) % 10 from by omega] at ht'
        have HM := Lib.hid hmf.out
        rcases Nat.lt_or_ge m 10 with hm10 | hm10
        · have hq : ((m : Int) / 10 == 0) = true := by simp; omega
          have hdd : digF 20 N [] = c :: D := by rw [← hD.out, digF_succ, if_pos (by omega), hcE]
          obtain ⟨u2, hu2⟩ := tail_cell ht'
          have ht2 := tail_set ht' 45
          rw [show ((UInt8.toNat 45 : Nat) : Int) = 45 from rfl] at ht2
          have hsl := run_cut21 w.heap.size f (by omega)
          have hcv := tail_conv ht2 w (21 - f)
          have HDD := Lib.hid hdd
          clear hdd hcE hct
          go_wp2
          go_ret
          exact ⟨ret_str (by rw [HF.out, HDD.out]), (Below.refl _ _).alloc (Nat.le_refl _) _⟩
        · have hq : ((m : Int) / 10 == 0) = false := by simp; omega
          clear hcE hct
          go_wp2
          go_roundw
          case rel => exact ⟨_, c :: D, m / 10, f, rfl, by go_num, by omega, by go_num, by
              rcases Nat.eq_zero_or_pos f with h | h
              · subst h
                have := hmf.out
                simp at this; omega
              · exact h, ht', by
              show m / 10 < 10 ^ f
              have := hmf.out
              rw [Nat.pow_succ] at this
              omega, by
              show _ = _
              rw [← hD.out, digF_succ, if_neg (by omega), HCE.out]⟩
          case measure => simp [intOf]; omega
  · obtain rfl : v = (N : Int) := by omega
    have hfin : digits (N : Int) = digF 20 N [] := by unfold digits; rw [if_neg h0, Int.natAbs_natCast]
    have HF := Lib.hid hfin
    clear hfin hN
    go_enter Try.func30, Try.ntmps30
    go_wp2
    go_loopw [3, 5] (fun x i wr => ∃ (C : Array Value) (D : List UInt8) (m f : Nat), wr = w.alloc (.cells C 111) ∧ x = .int .u64 m ∧ m < 18446744073709551616 ∧ i = .int .i64 ((f + 1 : Nat) : Int) ∧ 0 < f ∧ Tail C (f + 1) D ∧ Hid (m < 10 ^ f) ∧ Hid (digF f m D = digF 20 N [])) (fun _ i _ => (intOf i).toNat)
    case atStart => exact ⟨_, [], N, 20, rfl, rfl, hNb, rfl, by omega, ⟨rfl, rfl, rfl⟩, by show N < 10 ^ 20; omega, rfl⟩
    case round =>
      obtain ⟨C, D, m, f, rfl, rfl, hm, rfl, hf0, ht, hmf, hD⟩ := hrel
      have hf21 : f ≤ 20 := by have := ht.2.1; omega
      cases f with
      | zero => omega
      | succ f =>
        obtain ⟨u, hu⟩ := tail_cell ht
        have ht' := tail_set ht (UInt8.ofNat (48 + m % 10))
        obtain ⟨c, hcE⟩ : ∃ c, c = UInt8.ofNat (48 + m % 10) := ⟨_, rfl⟩
        have hct := dig_toNat m
        rw [← hcE] at ht' hct
        have HCE := Lib.hid hcE
        rw [hct, show ((48 + m % 10 : Nat) : Int) = 48 + (m : Int) % 10 from by omega] at ht'
        have hsl := run_cut21 w.heap.size (f + 1) hf21
        rw [show ((f + 1 : Nat) : Int) = (f : Int) + 1 from by omega] at hsl
        have hcv := tail_conv ht' w (21 - (f + 1))
        rw [show 21 - (f + 1) = 20 - f from by omega] at hsl hcv
        have HM := Lib.hid hmf.out
        rcases Nat.lt_or_ge m 10 with hm10 | hm10
        · have hq : ((m : Int) / 10 == 0) = true := by simp; omega
          have hdd : digF 20 N [] = c :: D := by rw [← hD.out, digF_succ, if_pos (by omega), hcE]
          have HDD := Lib.hid hdd
          clear hdd hcE hct
          go_wp2
          go_ret
          exact ⟨ret_str (by rw [HF.out, HDD.out]), (Below.refl _ _).alloc (Nat.le_refl _) _⟩
        · have hq : ((m : Int) / 10 == 0) = false := by simp; omega
          clear hcE hct
          go_wp2
          go_roundw
          case rel => exact ⟨_, c :: D, m / 10, f, rfl, by go_num, by omega, by go_num, by
              rcases Nat.eq_zero_or_pos f with h | h
              · subst h
                have := hmf.out
                simp at this; omega
              · exact h, ht', by
              show m / 10 < 10 ^ f
              have := hmf.out
              rw [Nat.pow_succ] at this
              omega, by
              show _ = _
              rw [← hD.out, digF_succ, if_neg (by omega), HCE.out]⟩
          case measure => simp [intOf]; omega
end Go.Proofs.Ytegiibpdkioocaa
