/- The walk of num.number: it reads what 'numb' tells. -/
import Derived.Test.YtmdidmllaldbaaaChecked
import Derived.Test.YtmdidmllaldbaaaNumP
import Derived.Test.YtmdidmllaldbaaaBase
import Derived.Deep.QuietTactic
import Derived.BigQuiet
namespace Go.Proofs.Ytmdidmllaldbaaa
open Go.RowKit
/-- What num.number answers. -/
def NumberRes (s : ByteArray) (w : World) (e : Ending) (w' : World) : Prop :=
  ∃ r : ByteArray, r.size ≤ s.size ∧ r.data.toList = (numb 0 0 s.data.toList).2.1 ∧ e = .returned (.tuple #[.int .i64 (numb 0 0 s.data.toList).1, .string r, .int .i64 (numb 0 0 s.data.toList).2.2]) ∧ ∃ n, w' = w.drewN n
def Run (s : ByteArray) (k acc : Nat) : Prop := numb k acc (s.data.toList.drop k) = numb 0 0 s.data.toList
theorem drop_cons (s : ByteArray) (k : Nat) (h : k < s.size) : s.data.toList.drop k = s[k] :: s.data.toList.drop (k + 1) := by
  rw [List.drop_eq_getElem_cons (by simpa using h)]; rfl
theorem or_step (acc c k : Nat) (hacc : acc < 128 ^ k) (hk : k ≤ 9) (hc : c < 128) (h9 : k = 9 → c ≤ 1) :
    bits .or .u64 (acc : Int) (IntKind.u64.wrap ((c : Int) * 2 ^ (7 * k))) = ((acc + c * 128 ^ k : Nat) : Int) ∧ acc + c * 128 ^ k < 18446744073709551616 := by
  have e : ((c : Int) * 2 ^ (7 * k)) = ((c * 128 ^ k : Nat) : Int) := by
    rw [show (128 : Nat) = 2 ^ 7 from rfl, ← Nat.pow_mul]; simp
  have hb : c * 128 ^ k + 128 ^ k ≤ 18446744073709551616 := by
    rw [← Nat.succ_mul]
    rcases Nat.lt_or_ge k 9 with h | h
    · calc (c + 1) * 128 ^ k ≤ 128 * 128 ^ 8 := Nat.mul_le_mul (by omega) (Nat.pow_le_pow_right (by omega) (by omega))
        _ ≤ _ := by decide
    · obtain rfl : k = 9 := by omega
      calc (c + 1) * 128 ^ 9 ≤ 2 * 128 ^ 9 := Nat.mul_le_mul_right _ (by have := h9 rfl; omega)
        _ ≤ _ := by decide
  have hw : IntKind.u64.wrap ((c * 128 ^ k : Nat) : Int) = ((c * 128 ^ k : Nat) : Int) := by
    have : (0 : Int) < 128 ^ k := Int.pow_pos (by omega)
    rw [show IntKind.u64.wrap ((c * 128 ^ k : Nat) : Int) = ((c * 128 ^ k : Nat) : Int) % 18446744073709551616 from by simp [IntKind.wrap, IntKind.bits, IntKind.signed]]
    exact Int.emod_eq_of_lt (by omega) (by have : 0 < 128 ^ k := Nat.pow_pos (by omega); omega)
  rw [e, hw, u64_or_nat acc (c * 128 ^ k) (by omega) (by have : 0 < 128 ^ k := Nat.pow_pos (by omega); omega), or_join _ _ _ hacc]
  exact ⟨rfl, by omega⟩
theorem i64_xor_zero (a : Nat) (ha : a < 9223372036854775808) : bits .xor .i64 (a : Int) 0 = a := by
  show IntKind.i64.wrap ((BitVec.ofInt 64 (a : Int) ^^^ BitVec.ofInt 64 0).toNat : Int) = _
  have h1 : BitVec.ofInt 64 0 = 0#64 := by decide
  rw [h1, BitVec.xor_zero, ofInt_u64 a (by omega)]
  simp [IntKind.wrap, IntKind.bits, IntKind.signed]
  omega
theorem i64_xor_ones (a : Nat) (ha : a < 9223372036854775808) : bits .xor .i64 (a : Int) (-1) = -(a : Int) - 1 := by
  show IntKind.i64.wrap ((BitVec.ofInt 64 (a : Int) ^^^ BitVec.ofInt 64 (-1)).toNat : Int) = _
  have h1 : BitVec.ofInt 64 (-1) = BitVec.allOnes 64 := by decide
  rw [h1, BitVec.xor_allOnes, BitVec.toNat_not, ofInt_u64 a (by omega)]
  simp [IntKind.wrap, IntKind.bits, IntKind.signed]
  omega
theorem unzig_walk (n : Nat) (h : n < 18446744073709551616) : bits .xor .i64 ((n : Int) / 2) (wrap64 (-wrap64 (bits .and .u64 (n : Int) 1))) = unzig n := by
  have e1 : bits .and .u64 (n : Int) 1 = ((n % 2 : Nat) : Int) := by
    have := u64_and_nat n 1 h (by omega)
    rw [nat_mask1] at this
    exact this
  have e2 : ((n : Int) / 2) = ((n / 2 : Nat) : Int) := by omega
  rw [e1, e2]
  unfold unzig
  by_cases hp : n % 2 = 0
  · rw [if_pos hp, hp, show wrap64 (-wrap64 ((0 : Nat) : Int)) = 0 from by unfold wrap64; decide, i64_xor_zero _ (by omega)]
  · rw [if_neg hp, show n % 2 = 1 from by omega, show wrap64 (-wrap64 ((1 : Nat) : Int)) = -1 from by unfold wrap64; decide, i64_xor_ones _ (by omega)]
theorem run_bad {s : ByteArray} {k acc : Nat} (h : k < s.size) (hr : Run s k acc) (h9 : k = 9 ∧ 1 < s[k].toNat) : numb 0 0 s.data.toList = (0, [], 4) := by
  unfold Run at hr
  rw [← hr, drop_cons s k h, numb, if_pos h9]
theorem run_zero {s : ByteArray} {k acc : Nat} (h : k < s.size) (hr : Run s k acc) (h9 : ¬ (k = 9 ∧ 1 < s[k].toNat)) (hm : ¬ 128 ≤ s[k].toNat) (h0 : s[k].toNat = 0 ∧ 0 < k) : numb 0 0 s.data.toList = (0, [], 4) := by
  unfold Run at hr
  rw [← hr, drop_cons s k h, numb, if_neg h9, if_neg hm, if_pos h0]
theorem run_good {s : ByteArray} {k acc : Nat} (h : k < s.size) (hr : Run s k acc) (h9 : ¬ (k = 9 ∧ 1 < s[k].toNat)) (hm : ¬ 128 ≤ s[k].toNat) (h0 : ¬ (s[k].toNat = 0 ∧ 0 < k)) : numb 0 0 s.data.toList = (unzig (acc + s[k].toNat % 128 * 128 ^ k), s.data.toList.drop (k + 1), 0) := by
  unfold Run at hr
  rw [← hr, drop_cons s k h, numb, if_neg h9, if_neg hm, if_neg h0]
theorem run_short {s : ByteArray} {k acc : Nat} (h : ¬ k < s.size) (hr : Run s k acc) : numb 0 0 s.data.toList = (0, [], 5) := by
  unfold Run at hr
  rw [← hr, List.drop_eq_nil_of_le (by have : s.data.toList.length = s.size := rfl; omega), numb]
theorem or_byte (acc c k : Nat) (hacc : acc < 128 ^ k) (hk : k ≤ 9) (h9 : k = 9 → c % 128 ≤ 1) :
    bits .or .u64 (acc : Int) (IntKind.u64.wrap ((c : Int) % 128 * 2 ^ (7 * k))) = ((acc + c % 128 * 128 ^ k : Nat) : Int) ∧ acc + c % 128 * 128 ^ k < 18446744073709551616 :=
  or_step acc (c % 128) k hacc hk (by omega) h9
theorem run_more {s : ByteArray} {k acc : Nat} (h : k < s.size) (hr : Run s k acc) (h9 : ¬ k = 9) (hm : 128 ≤ s[k].toNat) : Run s (k + 1) (acc + s[k].toNat % 128 * 128 ^ k) := by
  unfold Run at hr ⊢
  rw [← hr, drop_cons s k h, numb, if_neg (by omega), if_pos hm]
theorem bit_yes (c : Nat) (h : c < 256) (hm : 128 ≤ c) : bits .and .u8 (c : Int) 128 = 128 := by
  have e : (c &&& 128 : Nat) = 128 := by
    have := nat_bit 7 c
    rw [show c / 2 ^ 7 % 2 = 1 from by omega] at this
    exact this
  have := u8_and_nat c 128 h (by omega)
  rw [e] at this
  exact this
theorem bit_no (c : Nat) (hm : ¬ 128 ≤ c) : bits .and .u8 (c : Int) 128 = 0 := by
  have e : (c &&& 128 : Nat) = 0 := by
    have := nat_bit 7 c
    rw [show c / 2 ^ 7 % 2 = 0 from by omega] at this
    exact this
  have := u8_and_nat c 128 (by omega) (by omega)
  rw [e] at this
  exact this
set_option maxHeartbeats 400000 in
theorem number_any (s : ByteArray) (w : World) (hs : s.size ≤ 9223372036854775807) :
    Calls Try.prog 47 #[.string s] w (NumberRes s w) := by
  go_enter Try.func47, Try.ntmps47
  go_wp2
  go_loop [5, 6] (fun x i => ∃ (k acc : Nat), k ≤ s.size ∧ k ≤ 9 ∧ i = .int .i64 k ∧ x = .int .u64 acc ∧ acc < 128 ^ k ∧ Run s k acc) (fun _ i => 10 - (intOf i).toNat)
  case atStart => exact ⟨0, 0, by omega, by omega, rfl, rfl, by omega, rfl⟩
  case round =>
    obtain ⟨k, acc, hk, hk9, rfl, rfl, hacc, hrun⟩ := hrel
    by_cases hlt : k < s.size
    · have hb : s[k].toNat < 256 := s[k].toNat_lt
      have hlow : bits .and .u8 (s[k].toNat : Int) 127 = ((s[k].toNat % 128 : Nat) : Int) := by
        have := u8_and_nat s[k].toNat 127 hb (by omega)
        rw [nat_mask7] at this
        exact this
      have hmod : s[k].toNat % 128 < 128 := by omega
      by_cases h9 : k = 9 ∧ 1 < s[k].toNat
      · have h9b : ((k : Int) == 9) = true := by simp [h9.1]
        have hc1 : (1 : Int) < s[k].toNat := by omega
        have hend := run_bad hlt hrun h9
        have HE := Lib.hid hend
        clear hend h9
        go_wp2
        refine bodyPost_ret (results_tmp3 rfl _ _ _) rfl ?_
        exact ⟨⟨#[]⟩, Nat.zero_le _, by rw [HE.out], by rw [HE.out]; rfl, 0, rfl⟩
      · obtain ⟨hor, hlt64⟩ := or_byte acc s[k].toNat k hacc hk9 (fun h => by omega)
        by_cases hmore : 128 ≤ s[k].toNat
        · have hm := bit_yes _ hb hmore
          have hrun' := run_more hlt hrun (by omega) hmore
          have hd := digit_lt hacc hmod
          have h9b : ((k : Int) == 9) = false := by simp; omega
          have hk8 : k < 9 := by omega
          clear h9
          go_wp2
          go_round
          case rel => exact ⟨k + 1, _, by omega, by omega, by go_num, rfl, hd, hrun'⟩
          case measure => simp [intOf]; omega
        · have hm := bit_no _ hmore
          obtain ⟨N, hN⟩ : ∃ N, N = acc + s[k].toNat % 128 * 128 ^ k := ⟨_, rfl⟩
          by_cases h0 : s[k].toNat = 0 ∧ 0 < k
          · have hend := run_zero hlt hrun h9 hmore h0
            have HE := Lib.hid hend
            have h0b : ((s[k].toNat : Int) == 0) = true := by simp [h0.1]
            have hk0 : (0 : Int) < k := by omega
            clear hend
            rw [← hN] at hor hlt64
            clear hN
            rcases (show ((((k : Int) == 9) = true ∧ ¬ (1 : Int) < s[k].toNat) ∨ ((k : Int) == 9) = false) from by
              by_cases h : k = 9
              · exact .inl ⟨by simp [h], by omega⟩
              · exact .inr (by simp; omega)) with ⟨h9b, hc1⟩ | h9b
            all_goals
              clear h9 h0
              go_wp2
              refine bodyPost_ret (results_tmp3 rfl _ _ _) rfl ?_
              exact ⟨⟨#[]⟩, Nat.zero_le _, by rw [HE.out], by rw [HE.out]; rfl, 0, rfl⟩
          · have hend := run_good hlt hrun h9 hmore h0
            rw [← hN] at hor hlt64 hend
            clear hN
            have HE := Lib.hid hend
            clear hend
            rcases (show (((s[k].toNat : Int) == 0) = false ∨ (((s[k].toNat : Int) == 0) = true ∧ ¬ (0 : Int) < k)) from by
              by_cases h : s[k].toNat = 0
              · exact .inr ⟨by simp [h], by omega⟩
              · exact .inl (by simp; omega)) with h0b | ⟨h0b, hk0⟩
            all_goals
              rcases (show ((((k : Int) == 9) = true ∧ ¬ (1 : Int) < s[k].toNat) ∨ ((k : Int) == 9) = false) from by
                by_cases h : k = 9
                · exact .inl ⟨by simp [h], by omega⟩
                · exact .inr (by simp; omega)) with ⟨h9b, hc1⟩ | h9b
              all_goals
                clear h9 h0
                go_wp2
                go_quiet (fail)
                go_wp2
            all_goals
              refine bodyPost_ret (results_tmp3 rfl _ _ _) rfl ?_
              refine ⟨s.extract (k + 1) s.size, ?_, by rw [HE.out]; exact Lib.extract_to_end s (k + 1), ?_, _, rfl⟩
              · have := congrArg List.length (Lib.extract_to_end s (k + 1))
                rw [List.length_drop] at this
                have h1 : (s.extract (k + 1) s.size).data.toList.length = (s.extract (k + 1) s.size).size := rfl
                have h2 : s.data.toList.length = s.size := rfl
                omega
              · rw [HE.out, ← unzig_walk N hlt64]
                rfl
    · have hend := run_short hlt hrun
      have HE := Lib.hid hend
      clear hend
      go_wp2
      refine bodyPost_ret (results_tmp3 rfl _ _ _) rfl ?_
      exact ⟨⟨#[]⟩, Nat.zero_le _, by rw [HE.out], by rw [HE.out]; rfl, 0, rfl⟩
end Go.Proofs.Ytmdidmllaldbaaa
