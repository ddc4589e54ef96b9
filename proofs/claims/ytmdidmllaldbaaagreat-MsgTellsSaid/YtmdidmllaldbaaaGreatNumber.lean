/- The plain numbers in bytes: what num.number and num.Var compute, with no program in sight. -/
import Derived.Test.YtmdidmllaldbaaaGreatChecked
import Derived.Test.YtmdidmllaldbaaaGreatBase
import Derived.Deep.QuietTactic
import Derived.BigQuiet
import Derived.Test.YtmdidmllaldbaaaGreatClone
namespace Go.Proofs.YtmdidmllaldbaaaGreat
/-! ### The plain numbers in bytes: what num.number and num.Var compute, with no program in sight. -/
section
def unzig (n : Nat) : Int := if n % 2 = 0 then ((n / 2 : Nat) : Int) else -((n / 2 : Nat) : Int) - 1
def zig (v : Int) : Nat := if 0 ≤ v then (2 * v).toNat else (-2 * v - 1).toNat
/-- What a number's bytes tell from place i on, when acc was read: the number, the bytes behind it, the error. -/
def numb (i acc : Nat) : List UInt8 → Int × List UInt8 × Int
  | [] => (0, [], 5)
  | c :: r =>
    if i = 9 ∧ 1 < c.toNat then (0, [], 4)
    else if 128 ≤ c.toNat then numb (i + 1) (acc + c.toNat % 128 * 128 ^ i) r
    else if c.toNat = 0 ∧ 0 < i then (0, [], 4)
    else (unzig (acc + c.toNat % 128 * 128 ^ i), r, 0)
def varFuel : Nat → Nat → List UInt8
  | 0, n => [UInt8.ofNat n]
  | f + 1, n => if 128 ≤ n then UInt8.ofNat (n % 128 + 128) :: varFuel f (n / 128) else [UInt8.ofNat n]
/-- The bytes of one number. -/
def var1 (v : Int) : List UInt8 := varFuel 9 (zig v)
def vars (l : List Int) : List UInt8 := (l.map var1).flatten
theorem unzig_zig (v : Int) : unzig (zig v) = v := by
  unfold unzig zig
  split <;> split <;> omega
theorem zig_lt {v : Int} (h1 : -9223372036854775808 ≤ v) (h2 : v ≤ 9223372036854775807) : zig v < 18446744073709551616 := by
  unfold zig; split <;> omega
theorem zig_unzig (n : Nat) : zig (unzig n) = n := by
  unfold unzig
  by_cases h : n % 2 = 0
  · rw [if_pos h]; unfold zig; rw [if_pos (by omega)]; omega
  · rw [if_neg h]; unfold zig; rw [if_neg (by omega)]; omega
/-- What was laid is read: from place i on. -/
theorem numb_var (f : Nat) : ∀ (i acc n : Nat) (r : List UInt8), i + f = 9 → n < 128 ^ f * 2 → (0 < i → 0 < n) → numb i acc (varFuel f n ++ r) = (unzig (acc + n * 128 ^ i), r, 0) := by
  induction f with
  | zero =>
    intro i acc n r hi hn hp
    have hn2 : n < 2 := by simpa using hn
    obtain rfl : i = 9 := by omega
    have hb : (UInt8.ofNat n).toNat = n := by simp; omega
    show numb 9 acc (UInt8.ofNat n :: r) = _
    rw [numb, hb, if_neg (by omega), if_neg (by omega), if_neg (by have := hp (by omega); omega), Nat.mod_eq_of_lt (by omega)]
  | succ f ih =>
    intro i acc n r hi hn hp
    rw [varFuel]
    by_cases h : 128 ≤ n
    · rw [if_pos h]
      have hb : (UInt8.ofNat (n % 128 + 128)).toNat = n % 128 + 128 := by simp; omega
      show numb i acc (UInt8.ofNat (n % 128 + 128) :: (varFuel f (n / 128) ++ r)) = _
      rw [numb, hb, if_neg (by omega), if_pos (by omega)]
      have hn' : n / 128 < 128 ^ f * 2 := by
        rw [Nat.pow_succ] at hn
        apply Nat.div_lt_of_lt_mul
        omega
      rw [ih (i + 1) _ (n / 128) r (by omega) hn' (by omega)]
      have e : acc + (n % 128 + 128) % 128 * 128 ^ i + n / 128 * 128 ^ (i + 1) = acc + n * 128 ^ i := by
        rw [Nat.pow_succ, show (n % 128 + 128) % 128 = n % 128 from by omega, show n / 128 * (128 ^ i * 128) = (128 * (n / 128)) * 128 ^ i from by rw [Nat.mul_comm (128 ^ i) 128, ← Nat.mul_assoc, Nat.mul_comm (n / 128) 128], Nat.add_assoc, ← Nat.add_mul]
        congr 2
        omega
      rw [e]
    · rw [if_neg h]
      have hb : (UInt8.ofNat n).toNat = n := by simp; omega
      show numb i acc (UInt8.ofNat n :: r) = _
      rw [numb, hb, if_neg (by omega), if_neg (by omega), if_neg (by intro hh; have := hp hh.2; omega), Nat.mod_eq_of_lt (by omega)]
theorem numb_var1 (v : Int) (r : List UInt8) (h1 : -9223372036854775808 ≤ v) (h2 : v ≤ 9223372036854775807) : numb 0 0 (var1 v ++ r) = (v, r, 0) := by
  have h := zig_lt h1 h2
  rw [var1, numb_var 9 0 0 (zig v) r (by omega) (by simpa using h) (by omega)]
  simp [unzig_zig]
theorem numb_err (l : List UInt8) : ∀ i acc, (numb i acc l).2.2 = 0 ∨ (numb i acc l).2.2 = 4 ∨ (numb i acc l).2.2 = 5 := by
  induction l with
  | nil => intro i acc; right; right; rfl
  | cons c r ih =>
    intro i acc
    rw [numb]
    split
    · right; left; rfl
    · split
      · exact ih _ _
      · split
        · right; left; rfl
        · left; rfl
theorem numb_zero (l : List UInt8) : ∀ i acc, (numb i acc l).2.2 ≠ 0 → (numb i acc l).1 = 0 ∧ (numb i acc l).2.1 = [] := by
  induction l with
  | nil => intro i acc _; exact ⟨rfl, rfl⟩
  | cons c r ih =>
    intro i acc h
    rw [numb] at h ⊢
    split
    · exact ⟨rfl, rfl⟩
    · rename_i h1
      rw [if_neg h1] at h
      split
      · rename_i h2
        rw [if_pos h2] at h
        exact ih _ _ h
      · rename_i h2
        rw [if_neg h2] at h
        split
        · exact ⟨rfl, rfl⟩
        · rename_i h3
          rw [if_neg h3] at h
          exact absurd rfl h
theorem varFuel_len (f : Nat) : ∀ n, (varFuel f n).length ≤ f + 1 := by
  induction f with
  | zero => intro n; simp [varFuel]
  | succ f ih =>
    intro n
    rw [varFuel]
    split
    · simp; exact ih _
    · simp
theorem var1_len (v : Int) : (var1 v).length ≤ 10 := varFuel_len 9 _
theorem vars_snoc (vs : List Int) (k : Nat) (h : k < vs.length) : vars (vs.take (k + 1)) = vars (vs.take k) ++ var1 (vs.getD k 0) := by
  have e : vs.take (k + 1) = vs.take k ++ [vs.getD k 0] := by
    rw [List.take_succ_eq_append_getElem h]; simp [List.getElem?_eq_getElem h]
  rw [e]; simp [vars]
theorem unzig_range {n : Nat} (h : n < 18446744073709551616) : -9223372036854775808 ≤ unzig n ∧ unzig n ≤ 9223372036854775807 := by
  unfold unzig; split <;> omega
theorem or_join (a b i : Nat) (ha : a < 128 ^ i) : a ||| b * 128 ^ i = a + b * 128 ^ i := by
  have e : (128 : Nat) ^ i = 2 ^ (7 * i) := by rw [show (128 : Nat) = 2 ^ 7 from rfl, ← Nat.pow_mul]
  rw [e] at ha ⊢
  rw [Nat.or_comm, Nat.mul_comm b, ← Nat.two_pow_add_eq_or_of_lt ha, Nat.add_comm]
theorem digit_lt {acc c i : Nat} (ha : acc < 128 ^ i) (hc : c < 128) : acc + c * 128 ^ i < 128 ^ (i + 1) := by
  rw [Nat.pow_succ]
  have : c * 128 ^ i + 128 ^ i ≤ 128 ^ i * 128 := by
    rw [Nat.mul_comm (128 ^ i) 128, ← Nat.succ_mul]
    exact Nat.mul_le_mul_right _ (by omega)
  omega
end
/-! ### The walk of num.number: it reads what 'numb' tells. -/
section
open Go.RowKit
/-- What num.number answers. -/
def NumberRes (s : ByteArray) (w : World) (e : Ending) (w' : World) : Prop :=
  ∃ r : ByteArray, r.size ≤ s.size ∧ r.data.toList = (numb 0 0 s.data.toList).2.1 ∧ e = .returned (.tuple #[.int .i64 (numb 0 0 s.data.toList).1, .string r, .int .i64 (numb 0 0 s.data.toList).2.2]) ∧ ∃ n, w' = w.drewN n
def Run (s : ByteArray) (k acc : Nat) : Prop := numb k acc (s.data.toList.drop k) = numb 0 0 s.data.toList
theorem drop_cons (s : ByteArray) (k : Nat) (h : k < s.size) : s.data.toList.drop k = s[k] :: s.data.toList.drop (k + 1) := by
  rw [List.drop_eq_getElem_cons (by simpa using h)]; rfl
theorem or_step (acc c k : Nat) (hacc : acc < 128 ^ k) (hk : k ≤ 9) (hc : c < 128) (h9 : k = 9 → c ≤ 1) :
    bits .or .u64 (acc : Int) (IntKind.u64.wrap ((c : Int) * 2 ^ (7 * k))) = ((acc + c * 128 ^ k : Nat) : Int) ∧ acc + c * 128 ^ k < 18446744073709551616 := by
  have e : ((c : Int) * 2 ^ (7 * k)) = ((c * 128 ^ k : Nat) : Int) := by
    rw [show (128 : Nat) = 2 ^ 7 from rfl, ← Nat.pow_mul]; simp
  have hb : c * 128 ^ k + 128 ^ k ≤ 18446744073709551616 := by
    rw [← Nat.succ_mul]
    rcases Nat.lt_or_ge k 9 with h | h
    · calc (c + 1) * 128 ^ k ≤ 128 * 128 ^ 8 := Nat.mul_le_mul (by omega) (Nat.pow_le_pow_right (by omega) (by omega))
        _ ≤ _ := by decide
    · obtain rfl : k = 9 := by omega
      calc (c + 1) * 128 ^ 9 ≤ 2 * 128 ^ 9 := Nat.mul_le_mul_right _ (by have := h9 rfl; omega)
        _ ≤ _ := by decide
  have hw : IntKind.u64.wrap ((c * 128 ^ k : Nat) : Int) = ((c * 128 ^ k : Nat) : Int) := by
    have : (0 : Int) < 128 ^ k := Int.pow_pos (by omega)
    rw [show IntKind.u64.wrap ((c * 128 ^ k : Nat) : Int) = ((c * 128 ^ k : Nat) : Int) % 18446744073709551616 from by simp [IntKind.wrap, IntKind.bits, IntKind.signed]]
    exact Int.emod_eq_of_lt (by omega) (by have : 0 < 128 ^ k := Nat.pow_pos (by omega); omega)
  rw [e, hw, u64_or_nat acc (c * 128 ^ k) (by omega) (by have : 0 < 128 ^ k := Nat.pow_pos (by omega); omega), or_join _ _ _ hacc]
  exact ⟨rfl, by omega⟩
theorem i64_xor_zero (a : Nat) (ha : a < 9223372036854775808) : bits .xor .i64 (a : Int) 0 = a := by
  show IntKind.i64.wrap ((BitVec.ofInt 64 (a : Int) ^^^ BitVec.ofInt 64 0).toNat : Int) = _
  have h1 : BitVec.ofInt 64 0 = 0#64 := by decide
  rw [h1, BitVec.xor_zero, ofInt_u64 a (by omega)]
  simp [IntKind.wrap, IntKind.bits, IntKind.signed]
  omega
theorem i64_xor_ones (a : Nat) (ha : a < 9223372036854775808) : bits .xor .i64 (a : Int) (-1) = -(a : Int) - 1 := by
  show IntKind.i64.wrap ((BitVec.ofInt 64 (a : Int) ^^^ BitVec.ofInt 64 (-1)).toNat : Int) = _
  have h1 : BitVec.ofInt 64 (-1) = BitVec.allOnes 64 := by decide
  rw [h1, BitVec.xor_allOnes, BitVec.toNat_not, ofInt_u64 a (by omega)]
  simp [IntKind.wrap, IntKind.bits, IntKind.signed]
  omega
theorem unzig_walk (n : Nat) (h : n < 18446744073709551616) : bits .xor .i64 ((n : Int) / 2) (wrap64 (-wrap64 (bits .and .u64 (n : Int) 1))) = unzig n := by
  have e1 : bits .and .u64 (n : Int) 1 = ((n % 2 : Nat) : Int) := by
    have := u64_and_nat n 1 h (by omega)
    rw [nat_mask1] at this
    exact this
  have e2 : ((n : Int) / 2) = ((n / 2 : Nat) : Int) := by omega
  rw [e1, e2]
  unfold unzig
  by_cases hp : n % 2 = 0
  · rw [if_pos hp, hp, show wrap64 (-wrap64 ((0 : Nat) : Int)) = 0 from by unfold wrap64; decide, i64_xor_zero _ (by omega)]
  · rw [if_neg hp, show n % 2 = 1 from by omega, show wrap64 (-wrap64 ((1 : Nat) : Int)) = -1 from by unfold wrap64; decide, i64_xor_ones _ (by omega)]
theorem run_bad {s : ByteArray} {k acc : Nat} (h : k < s.size) (hr : Run s k acc) (h9 : k = 9 ∧ 1 < s[k].toNat) : numb 0 0 s.data.toList = (0, [], 4) := by
  unfold Run at hr
  rw [← hr, drop_cons s k h, numb, if_pos h9]
theorem run_zero {s : ByteArray} {k acc : Nat} (h : k < s.size) (hr : Run s k acc) (h9 : ¬ (k = 9 ∧ 1 < s[k].toNat)) (hm : ¬ 128 ≤ s[k].toNat) (h0 : s[k].toNat = 0 ∧ 0 < k) : numb 0 0 s.data.toList = (0, [], 4) := by
  unfold Run at hr
  rw [← hr, drop_cons s k h, numb, if_neg h9, if_neg hm, if_pos h0]
theorem run_good {s : ByteArray} {k acc : Nat} (h : k < s.size) (hr : Run s k acc) (h9 : ¬ (k = 9 ∧ 1 < s[k].toNat)) (hm : ¬ 128 ≤ s[k].toNat) (h0 : ¬ (s[k].toNat = 0 ∧ 0 < k)) : numb 0 0 s.data.toList = (unzig (acc + s[k].toNat % 128 * 128 ^ k), s.data.toList.drop (k + 1), 0) := by
  unfold Run at hr
  rw [← hr, drop_cons s k h, numb, if_neg h9, if_neg hm, if_neg h0]
theorem run_short {s : ByteArray} {k acc : Nat} (h : ¬ k < s.size) (hr : Run s k acc) : numb 0 0 s.data.toList = (0, [], 5) := by
  unfold Run at hr
  rw [← hr, List.drop_eq_nil_of_le (by have : s.data.toList.length = s.size := rfl; omega), numb]
theorem or_byte (acc c k : Nat) (hacc : acc < 128 ^ k) (hk : k ≤ 9) (h9 : k = 9 → c % 128 ≤ 1) :
    bits .or .u64 (acc : Int) (IntKind.u64.wrap ((c : Int) % 128 * 2 ^ (7 * k))) = ((acc + c % 128 * 128 ^ k : Nat) : Int) ∧ acc + c % 128 * 128 ^ k < 18446744073709551616 :=
  or_step acc (c % 128) k hacc hk (by omega) h9
theorem run_more {s : ByteArray} {k acc : Nat} (h : k < s.size) (hr : Run s k acc) (h9 : ¬ k = 9) (hm : 128 ≤ s[k].toNat) : Run s (k + 1) (acc + s[k].toNat % 128 * 128 ^ k) := by
  unfold Run at hr ⊢
  rw [← hr, drop_cons s k h, numb, if_neg (by omega), if_pos hm]
theorem bit_yes (c : Nat) (h : c < 256) (hm : 128 ≤ c) : bits .and .u8 (c : Int) 128 = 128 := by
  have e : (c &&& 128 : Nat) = 128 := by
    have := nat_bit 7 c
    rw [show c / 2 ^ 7 % 2 = 1 from by omega] at this
    exact this
  have := u8_and_nat c 128 h (by omega)
  rw [e] at this
  exact this
theorem bit_no (c : Nat) (hm : ¬ 128 ≤ c) : bits .and .u8 (c : Int) 128 = 0 := by
  have e : (c &&& 128 : Nat) = 0 := by
    have := nat_bit 7 c
    rw [show c / 2 ^ 7 % 2 = 0 from by omega] at this
    exact this
  have := u8_and_nat c 128 (by omega) (by omega)
  rw [e] at this
  exact this
set_option maxHeartbeats 400000 in
theorem number_any (s : ByteArray) (w : World) (hs : s.size ≤ 9223372036854775807) :
    Calls Tryz.prog 213 #[.string s] w (NumberRes s w) := by
  go_enter Tryz.func213, Tryz.ntmps213
  go_wp2
  go_loop [5, 6] (fun x i => ∃ (k acc : Nat), k ≤ s.size ∧ k ≤ 9 ∧ i = .int .i64 k ∧ x = .int .u64 acc ∧ acc < 128 ^ k ∧ Run s k acc) (fun _ i => 10 - (intOf i).toNat)
  case atStart => exact ⟨0, 0, by omega, by omega, rfl, rfl, by omega, rfl⟩
  case round =>
    obtain ⟨k, acc, hk, hk9, rfl, rfl, hacc, hrun⟩ := hrel
    by_cases hlt : k < s.size
    · have hb : s[k].toNat < 256 := s[k].toNat_lt
      have hlow : bits .and .u8 (s[k].toNat : Int) 127 = ((s[k].toNat % 128 : Nat) : Int) := by
        have := u8_and_nat s[k].toNat 127 hb (by omega)
        rw [nat_mask7] at this
        exact this
      have hmod : s[k].toNat % 128 < 128 := by omega
      by_cases h9 : k = 9 ∧ 1 < s[k].toNat
      · have h9b : ((k : Int) == 9) = true := by simp [h9.1]
        have hc1 : (1 : Int) < s[k].toNat := by omega
        have hend := run_bad hlt hrun h9
        have HE := Lib.hid hend
        clear hend h9
        go_wp2
        refine bodyPost_ret (results_tmp3 rfl _ _ _) rfl ?_
        exact ⟨⟨#[]⟩, Nat.zero_le _, by rw [HE.out], by rw [HE.out]; rfl, 0, rfl⟩
      · obtain ⟨hor, hlt64⟩ := or_byte acc s[k].toNat k hacc hk9 (fun h => by omega)
        by_cases hmore : 128 ≤ s[k].toNat
        · have hm := bit_yes _ hb hmore
          have hrun' := run_more hlt hrun (by omega) hmore
          have hd := digit_lt hacc hmod
          have h9b : ((k : Int) == 9) = false := by simp; omega
          have hk8 : k < 9 := by omega
          clear h9
          go_wp2
          go_round
          case rel => exact ⟨k + 1, _, by omega, by omega, by go_num, rfl, hd, hrun'⟩
          case measure => simp [intOf]; omega
        · have hm := bit_no _ hmore
          obtain ⟨N, hN⟩ : ∃ N, N = acc + s[k].toNat % 128 * 128 ^ k := ⟨_, rfl⟩
          by_cases h0 : s[k].toNat = 0 ∧ 0 < k
          · have hend := run_zero hlt hrun h9 hmore h0
            have HE := Lib.hid hend
            have h0b : ((s[k].toNat : Int) == 0) = true := by simp [h0.1]
            have hk0 : (0 : Int) < k := by omega
            clear hend
            rw [← hN] at hor hlt64
            clear hN
            rcases (show ((((k : Int) == 9) = true ∧ ¬ (1 : Int) < s[k].toNat) ∨ ((k : Int) == 9) = false) from by
              by_cases h : k = 9
              · exact .inl ⟨by simp [h], by omega⟩
              · exact .inr (by simp; omega)) with ⟨h9b, hc1⟩ | h9b
            all_goals
              clear h9 h0
              go_wp2
              refine bodyPost_ret (results_tmp3 rfl _ _ _) rfl ?_
              exact ⟨⟨#[]⟩, Nat.zero_le _, by rw [HE.out], by rw [HE.out]; rfl, 0, rfl⟩
          · have hend := run_good hlt hrun h9 hmore h0
            rw [← hN] at hor hlt64 hend
            clear hN
            have HE := Lib.hid hend
            clear hend
            rcases (show (((s[k].toNat : Int) == 0) = false ∨ (((s[k].toNat : Int) == 0) = true ∧ ¬ (0 : Int) < k)) from by
              by_cases h : s[k].toNat = 0
              · exact .inr ⟨by simp [h], by omega⟩
              · exact .inl (by simp; omega)) with h0b | ⟨h0b, hk0⟩
            all_goals
              rcases (show ((((k : Int) == 9) = true ∧ ¬ (1 : Int) < s[k].toNat) ∨ ((k : Int) == 9) = false) from by
                by_cases h : k = 9
                · exact .inl ⟨by simp [h], by omega⟩
                · exact .inr (by simp; omega)) with ⟨h9b, hc1⟩ | h9b
              all_goals
                clear h9 h0
                go_wp2
                go_quiet (fail)
                go_wp2
            all_goals
              refine bodyPost_ret (results_tmp3 rfl _ _ _) rfl ?_
              refine ⟨s.extract (k + 1) s.size, ?_, by rw [HE.out]; exact Lib.extract_to_end s (k + 1), ?_, _, rfl⟩
              · have := congrArg List.length (Lib.extract_to_end s (k + 1))
                rw [List.length_drop] at this
                have h1 : (s.extract (k + 1) s.size).data.toList.length = (s.extract (k + 1) s.size).size := rfl
                have h2 : s.data.toList.length = s.size := rfl
                omega
              · rw [HE.out, ← unzig_walk N hlt64]
                rfl
    · have hend := run_short hlt hrun
      have HE := Lib.hid hend
      clear hend
      go_wp2
      refine bodyPost_ret (results_tmp3 rfl _ _ _) rfl ?_
      exact ⟨⟨#[]⟩, Nat.zero_le _, by rw [HE.out], by rw [HE.out]; rfl, 0, rfl⟩
end
/-! ### The plain reader: what each method of num.Reader answers and leaves, on lists of bytes. -/
section
abbrev RSt := List UInt8 × Int
def rVar (st : RSt) : Int × RSt :=
  if st.2 ≠ 0 then (0, st)
  else if (numb 0 0 st.1).2.2 ≠ 0 then (0, (st.1, (numb 0 0 st.1).2.2)) else ((numb 0 0 st.1).1, ((numb 0 0 st.1).2.1, 0))
def rCount (most : Int) (st : RSt) : Int × RSt :=
  if (rVar st).2.2 ≠ 0 then (0, (rVar st).2)
  else if (rVar st).1 < 0 then (0, ((rVar st).2.1, 4))
  else if most < (rVar st).1 then (0, ((rVar st).2.1, 2)) else rVar st
def rText (most : Int) (st : RSt) : List UInt8 × RSt :=
  if (rCount most st).2.2 ≠ 0 then ([], (rCount most st).2)
  else if ((rCount most st).2.1.length : Int) < (rCount most st).1 then ([], ((rCount most st).2.1, 5))
  else ((rCount most st).2.1.take (rCount most st).1.toNat, ((rCount most st).2.1.drop (rCount most st).1.toNat, 0))
def rBool (st : RSt) : Bool × RSt :=
  if st.2 ≠ 0 then (false, st)
  else match st.1 with
    | [] => (false, ([], 5))
    | c :: r => if 1 < c.toNat then (false, (c :: r, 4)) else (c.toNat == 1, (r, 0))
def rEnd (st : RSt) : Int := if st.2 ≠ 0 then st.2 else if st.1 ≠ [] then 4 else 0
theorem numb_len (l : List UInt8) : ∀ i acc, (numb i acc l).2.1.length ≤ l.length := by
  induction l with
  | nil => intro i acc; exact Nat.le_refl _
  | cons c r ih =>
    intro i acc
    rw [numb]
    split
    · exact Nat.zero_le _
    · split
      · exact Nat.le_trans (ih _ _) (by simp)
      · split
        · exact Nat.zero_le _
        · simp
theorem rVar_off {st : RSt} (h : st.2 ≠ 0) : rVar st = (0, st) := by unfold rVar; rw [if_pos h]
theorem rVar_var1 (v : Int) (r : List UInt8) (h1 : -9223372036854775808 ≤ v) (h2 : v ≤ 9223372036854775807) : rVar (var1 v ++ r, 0) = (v, (r, 0)) := by
  unfold rVar; simp [numb_var1 v r h1 h2]
theorem rVar_len (st : RSt) : (rVar st).2.1.length ≤ st.1.length := by
  unfold rVar
  split
  · exact Nat.le_refl _
  · split
    · exact Nat.le_refl _
    · exact numb_len _ _ _
theorem rCount_len (m : Int) (st : RSt) : (rCount m st).2.1.length ≤ st.1.length := by
  have := rVar_len st
  unfold rCount
  repeat' split
  all_goals exact this
end
/-! ### The walks of num.Reader's methods: each answers and leaves what the plain reader tells. -/
section
open Go.RowKit
/-- A reader stands at block b: the bytes that are left, and its error. -/
def Rdr (w : World) (b : Nat) (st : RSt) : Prop :=
  ∃ s : ByteArray, s.data.toList = st.1 ∧ s.size ≤ 9223372036854775807 ∧ w.heap[b]? = some (.cells #[.string s, .int .i64 st.2] 154 (0, 0))
theorem Rdr.lt {w : World} {b : Nat} {st : RSt} (h : Rdr w b st) : b < w.heap.size := by obtain ⟨s, _, _, hb⟩ := h; exact blk_lt hb
theorem off_no {w : World} {b : Nat} {st : RSt} (h : Rdr w b st) (h0 : st.2 = 0) :
    Calls Tryz.prog 212 #[.pointer (some ⟨b, 0, none⟩)] w fun e w' => e = .returned (.bool false) ∧ w = w' := by
  obtain ⟨s, hs, hz, hb⟩ := h
  have h1 := blk_cell hb 1
  rw [h0] at h1
  clear hb hs
  simp at h1
  go_enter Tryz.func212, Tryz.ntmps212
  go_wp2
  go_ret
  exact ⟨rfl, rfl⟩
theorem off_yes {w : World} {b : Nat} {st : RSt} (h : Rdr w b st) (h0 : st.2 ≠ 0) :
    Calls Tryz.prog 212 #[.pointer (some ⟨b, 0, none⟩)] w fun e w' => e = .returned (.bool true) ∧ w = w' := by
  obtain ⟨s, hs, hz, hb⟩ := h
  have h1 := blk_cell hb 1
  have hne : (st.2 != 0) = true := by simpa using h0
  clear hb hs h0
  simp at h1
  go_enter Tryz.func212, Tryz.ntmps212
  go_wp2
  go_ret
  exact ⟨rfl, rfl⟩
theorem off_nil (w : World) :
    Calls Tryz.prog 212 #[.pointer none] w fun e w' => e = .returned (.bool true) ∧ w = w' := by
  go_enter Tryz.func212, Tryz.ntmps212
  go_wp2
  go_ret
  exact ⟨rfl, rfl⟩
theorem err_any {w : World} {b : Nat} {st : RSt} (h : Rdr w b st) :
    Calls Tryz.prog 26 #[.pointer (some ⟨b, 0, none⟩)] w fun e w' => e = .returned (.int .i64 st.2) ∧ w = w' := by
  obtain ⟨s, hs, hz, hb⟩ := h
  have h1 := blk_cell hb 1
  clear hb hs
  simp at h1
  go_enter Tryz.func26, Tryz.ntmps26
  go_wp2
  go_ret
  exact ⟨rfl, rfl⟩
theorem err_nil (w : World) :
    Calls Tryz.prog 26 #[.pointer none] w fun e w' => e = .returned (.int .i64 1) ∧ w = w' := by
  go_enter Tryz.func26, Tryz.ntmps26
  go_wp2
  go_ret
  exact ⟨rfl, rfl⟩
theorem end_any {w : World} {b : Nat} {st : RSt} (h : Rdr w b st) :
    Calls Tryz.prog 27 #[.pointer (some ⟨b, 0, none⟩)] w fun e w' => e = .returned (.int .i64 (rEnd st)) ∧ w = w' := by
  have he := err_any h
  have HE := Lib.hid he
  clear he
  obtain ⟨s, hs, hz, hb⟩ := h
  have h0 := blk_cell hb 0
  clear hb
  simp at h0
  by_cases hst : st.2 = 0
  · have hne : (st.2 != 0) = false := by simpa using hst
    by_cases hl : st.1 = []
    · have hse : s = ⟨#[]⟩ := by
        rcases s with ⟨⟨l⟩⟩
        have : l = [] := by rw [← hl, ← hs]
        subst this; rfl
      have hr : rEnd st = 0 := by unfold rEnd; rw [if_neg (by simpa using hst), if_neg (by simpa using hl)]
      subst hse
      have HR := Lib.hid hr
      clear hs hl hr hst
      go_enter Tryz.func27, Tryz.ntmps27
      go_wp2_with (go_at_call 26; refine (HE.out).mono ?_; rintro e w' ⟨rfl, rfl⟩)
      go_ret
      exact ⟨by rw [HR.out]; rfl, rfl⟩
    · have hse : (!s.toList.isEmpty) = true := by
        rw [ByteArray.toList_eq, hs]
        cases h : st.1 with
        | nil => exact absurd h hl
        | cons a l => rfl
      have hr : rEnd st = 4 := by unfold rEnd; rw [if_neg (by simpa using hst), if_pos (by simpa using hl)]
      have HR := Lib.hid hr
      clear hs hl hr hst
      go_enter Tryz.func27, Tryz.ntmps27
      go_wp2_with (go_at_call 26; refine (HE.out).mono ?_; rintro e w' ⟨rfl, rfl⟩)
      go_ret
      exact ⟨by rw [HR.out]; rfl, rfl⟩
  · have hne : (st.2 != 0) = true := by simpa using hst
    have hr : rEnd st = st.2 := by unfold rEnd; rw [if_pos (by simpa using hst)]
    have HR := Lib.hid hr
    clear hs hr hst
    go_enter Tryz.func27, Tryz.ntmps27
    go_wp2_with (go_at_call 26; refine (HE.out).mono ?_; rintro e w' ⟨rfl, rfl⟩)
    go_ret
    exact ⟨by rw [HR.out]; rfl, rfl⟩
theorem end_nil (w : World) :
    Calls Tryz.prog 27 #[.pointer none] w fun e w' => e = .returned (.int .i64 1) ∧ w = w' := by
  go_enter Tryz.func27, Tryz.ntmps27
  go_wp2_with (go_at_call 26; refine (err_nil _).mono ?_; rintro e w' ⟨rfl, rfl⟩)
  go_ret
  exact ⟨rfl, rfl⟩

set_option maxHeartbeats 400000 in
theorem rvar_any {w : World} {b : Nat} {st : RSt} (h : Rdr w b st) :
    Calls Tryz.prog 116 #[.pointer (some ⟨b, 0, none⟩)] w fun e w' => e = .returned (.int .i64 (rVar st).1) ∧ Rdr w' b (rVar st).2 ∧ w.grownBy w' (some b) := by
  by_cases h0 : st.2 = 0
  · have HO := Lib.hid (off_no h h0)
    obtain ⟨s, hs, hz, hb⟩ := h
    have c0 := blk_cell hb 0
    have c1 := blk_cell hb 1
    have f0 := blk_frozen hb 0
    have f1 := blk_frozen hb 1
    have HB := Lib.hid hb
    have hst : st = (s.data.toList, 0) := by rw [hs, ← h0]
    simp at c0 c1
    have hnb := number_any s w hz
    have HN := Lib.hid hnb
    clear hb hs h0 hnb
    subst hst
    by_cases he : (numb 0 0 s.data.toList).2.2 = 0
    · have hr : rVar (s.data.toList, 0) = ((numb 0 0 s.data.toList).1, ((numb 0 0 s.data.toList).2.1, 0)) := by
        unfold rVar; rw [if_neg (by simp), if_neg (by simpa using he)]
      have HR := Lib.hid hr
      have HE := Lib.hid he
      clear hr he
      go_enter Tryz.func116, Tryz.ntmps116
      go_wp2_with (first | (go_at_call 212; refine (HO.out).mono ?_; rintro e w' ⟨rfl, rfl⟩) | (go_at_call 213; refine (HN.out).mono ?_; rintro e w' ⟨r, hrz, hrd, rfl, n, rfl⟩; rw [HE.out]; have HD := Lib.hid hrd; clear hrd))
      go_ret
      refine ⟨by rw [HR.out]; rfl, ⟨r, by rw [HR.out]; exact HD.out, by omega, ?_⟩, (grown_drewN w n _).trans (grown_set _ _ _ _)⟩
      have := blk_set (w := w.drewN n) (g := b) HB.out 0 (.string r)
      rw [HR.out]
      exact this
    · have hr : rVar (s.data.toList, 0) = (0, (s.data.toList, (numb 0 0 s.data.toList).2.2)) := by
        unfold rVar; rw [if_neg (by simp), if_pos (by simpa using he)]
      have hne : ((numb 0 0 s.data.toList).2.2 != 0) = true := by simpa using he
      have HR := Lib.hid hr
      clear hr he
      go_enter Tryz.func116, Tryz.ntmps116
      go_wp2_with (first | (go_at_call 212; refine (HO.out).mono ?_; rintro e w' ⟨rfl, rfl⟩) | (go_at_call 213; refine (HN.out).mono ?_; rintro e w' ⟨r, hrz, hrd, rfl, n, rfl⟩; have HD := Lib.hid hrd; clear hrd))
      go_ret
      refine ⟨by rw [HR.out]; rfl, ⟨s, by rw [HR.out], by omega, ?_⟩, (grown_drewN w n _).trans (grown_set _ _ _ _)⟩
      have := blk_set (w := w.drewN n) (g := b) HB.out 1 (.int .i64 (numb 0 0 s.data.toList).2.2)
      rw [HR.out]
      exact this
  · have HO := Lib.hid (off_yes h h0)
    have HR := Lib.hid (rVar_off h0)
    have H := Lib.hid h
    clear h h0
    go_enter Tryz.func116, Tryz.ntmps116
    go_wp2_with (go_at_call 212; refine (HO.out).mono ?_; rintro e w' ⟨rfl, rfl⟩)
    go_ret
    exact ⟨by rw [HR.out]; rfl, by rw [HR.out]; exact H.out, grown_refl _ _⟩
theorem rvar_nil (w : World) :
    Calls Tryz.prog 116 #[.pointer none] w fun e w' => e = .returned (.int .i64 0) ∧ w = w' := by
  go_enter Tryz.func116, Tryz.ntmps116
  go_wp2_with (go_at_call 212; refine (off_nil _).mono ?_; rintro e w' ⟨rfl, rfl⟩)
  go_ret
  exact ⟨rfl, rfl⟩
end
/-! ### The walks of num.Reader's Count, Text and Bool. -/
section
open Go.RowKit
theorem rCount_pos (m : Int) (st : RSt) (_h : (rCount m st).2.2 = 0) : 0 ≤ (rCount m st).1 := by
  have h := _h
  unfold rCount at h ⊢
  split
  · exact Int.le_refl _
  · rename_i h1
    rw [if_neg h1] at h
    split
    · exact Int.le_refl _
    · rename_i h2
      split
      · exact Int.le_refl _
      · omega
/-- The error's place behind the store of an error. -/
theorem rdr_err {w : World} {b : Nat} {st : RSt} (h : Rdr w b st) (e : Int) : Rdr (w.setCell ⟨b, 1, none⟩ (.int .i64 e)) b (st.1, e) := by
  obtain ⟨s, hs, hz, hb⟩ := h
  exact ⟨s, hs, hz, blk_set hb 1 _⟩
theorem rdr_facts {w : World} {b : Nat} {st : RSt} (h : Rdr w b st) : ∃ s : ByteArray, s.data.toList = st.1 ∧ s.size ≤ 9223372036854775807 ∧ w.cell? ⟨b, 0, none⟩ = some (.string s) ∧
    w.cell? ⟨b, 1, none⟩ = some (.int .i64 st.2) ∧ w.frozen? ⟨b, 0, none⟩ = false ∧ w.frozen? ⟨b, 1, none⟩ = false := by
  obtain ⟨s, hs, hz, hb⟩ := h
  exact ⟨s, hs, hz, by rw [blk_cell hb]; rfl, by rw [blk_cell hb]; rfl, blk_frozen hb _, blk_frozen hb _⟩
theorem rdr_rest {w : World} {b : Nat} {st : RSt} (h : Rdr w b st) (r : ByteArray) (hr : r.size ≤ 9223372036854775807) : Rdr (w.setCell ⟨b, 0, none⟩ (.string r)) b (r.data.toList, st.2) := by
  obtain ⟨s, hs, hz, hb⟩ := h
  exact ⟨r, rfl, hr, blk_set hb 0 _⟩
set_option maxHeartbeats 400000 in
theorem count_any {w : World} {b : Nat} {st : RSt} (h : Rdr w b st) (m : Int) :
    Calls Tryz.prog 115 #[.pointer (some ⟨b, 0, none⟩), .int .i64 m] w fun e w' => e = .returned (.int .i64 (rCount m st).1) ∧ Rdr w' b (rCount m st).2 ∧ w.grownBy w' (some b) := by
  have HV := Lib.hid (rvar_any h)
  clear h
  by_cases h0 : (rVar st).2.2 = 0
  · by_cases h1 : (rVar st).1 < 0
    · have hr : rCount m st = (0, ((rVar st).2.1, 4)) := by unfold rCount; rw [if_neg (by simpa using h0), if_pos h1]
      have HR := Lib.hid hr
      have H0 := Lib.hid h0
      clear hr h0
      go_enter Tryz.func115, Tryz.ntmps115
      go_wp2_with (first | (go_at_call 116; refine (HV.out).mono ?_; rintro e w1 ⟨rfl, hr1, hg1⟩; obtain ⟨s, hs, hz, c0, c1, f0, f1⟩ := rdr_facts hr1; have HS := Lib.hid hs; clear hs) | (go_at_call 212; refine (off_no hr1 H0.out).mono ?_; rintro e w' ⟨rfl, rfl⟩))
      go_ret
      exact ⟨by rw [HR.out]; rfl, by rw [HR.out]; exact rdr_err hr1 4, hg1.trans (grown_set _ _ _ _)⟩
    · by_cases h2 : m < (rVar st).1
      · have hr : rCount m st = (0, ((rVar st).2.1, 2)) := by unfold rCount; rw [if_neg (by simpa using h0), if_neg h1, if_pos h2]
        have HR := Lib.hid hr
        have H0 := Lib.hid h0
        clear hr h0
        go_enter Tryz.func115, Tryz.ntmps115
        go_wp2_with (first | (go_at_call 116; refine (HV.out).mono ?_; rintro e w1 ⟨rfl, hr1, hg1⟩; obtain ⟨s, hs, hz, c0, c1, f0, f1⟩ := rdr_facts hr1; have HS := Lib.hid hs; clear hs) | (go_at_call 212; refine (off_no hr1 H0.out).mono ?_; rintro e w' ⟨rfl, rfl⟩))
        go_ret
        exact ⟨by rw [HR.out]; rfl, by rw [HR.out]; exact rdr_err hr1 2, hg1.trans (grown_set _ _ _ _)⟩
      · have hr : rCount m st = rVar st := by unfold rCount; rw [if_neg (by simpa using h0), if_neg h1, if_neg h2]
        have HR := Lib.hid hr
        have H0 := Lib.hid h0
        clear hr h0
        go_enter Tryz.func115, Tryz.ntmps115
        go_wp2_with (first | (go_at_call 116; refine (HV.out).mono ?_; rintro e w1 ⟨rfl, hr1, hg1⟩) | (go_at_call 212; refine (off_no hr1 H0.out).mono ?_; rintro e w' ⟨rfl, rfl⟩))
        go_ret
        exact ⟨by rw [HR.out]; rfl, by rw [HR.out]; exact hr1, hg1⟩
  · have hr : rCount m st = (0, (rVar st).2) := by unfold rCount; rw [if_pos (by simpa using h0)]
    have HR := Lib.hid hr
    have H0 := Lib.hid h0
    clear hr h0
    go_enter Tryz.func115, Tryz.ntmps115
    go_wp2_with (first | (go_at_call 116; refine (HV.out).mono ?_; rintro e w1 ⟨rfl, hr1, hg1⟩) | (go_at_call 212; refine (off_yes hr1 H0.out).mono ?_; rintro e w' ⟨rfl, rfl⟩))
    go_ret
    exact ⟨by rw [HR.out]; rfl, by rw [HR.out]; exact hr1, hg1⟩
theorem count_nil (w : World) (m : Int) :
    Calls Tryz.prog 115 #[.pointer none, .int .i64 m] w fun e w' => e = .returned (.int .i64 0) ∧ w = w' := by
  go_enter Tryz.func115, Tryz.ntmps115
  go_wp2_with (first | (go_at_call 116; refine (rvar_nil _).mono ?_; rintro e w' ⟨rfl, rfl⟩) | (go_at_call 212; refine (off_nil _).mono ?_; rintro e w' ⟨rfl, rfl⟩))
  go_ret
  exact ⟨rfl, rfl⟩
/-- What num.Reader.Text answers. -/
def TextRes (st : RSt) (m : Int) (b : Nat) (w : World) (e : Ending) (w' : World) : Prop :=
  ∃ r : ByteArray, r.data.toList = (rText m st).1 ∧ e = .returned (.string r) ∧ Rdr w' b (rText m st).2 ∧ w.grownBy w' (some b)
set_option maxHeartbeats 400000 in
theorem text_any {w : World} {b : Nat} {st : RSt} (h : Rdr w b st) (m : Int) :
    Calls Tryz.prog 117 #[.pointer (some ⟨b, 0, none⟩), .int .i64 m] w (TextRes st m b w) := by
  have HC := Lib.hid (count_any h m)
  clear h
  by_cases h0 : (rCount m st).2.2 = 0
  · have hn : 0 ≤ (rCount m st).1 := rCount_pos m st h0
    by_cases h1 : ((rCount m st).2.1.length : Int) < (rCount m st).1
    · have hr : rText m st = ([], ((rCount m st).2.1, 5)) := by unfold rText; rw [if_neg (by simpa using h0), if_pos h1]
      have HR := Lib.hid hr
      have H0 := Lib.hid h0
      clear hr h0
      go_enter Tryz.func117, Tryz.ntmps117
      go_wp2_with (first | (go_at_call 115; refine (HC.out).mono ?_; rintro e w1 ⟨rfl, hr1, hg1⟩; obtain ⟨s, hs, hz, c0, c1, f0, f1⟩ := rdr_facts hr1; have h2 : (s.size : Int) < (rCount m st).1 := (by have : s.data.toList.length = s.size := rfl; rw [hs] at this; omega); have HS := Lib.hid hs; clear hs) | (go_at_call 212; refine (off_no hr1 H0.out).mono ?_; rintro e w' ⟨rfl, rfl⟩))
      go_ret
      exact ⟨⟨#[]⟩, by rw [HR.out], rfl, by rw [HR.out]; exact rdr_err hr1 5, hg1.trans (grown_set _ _ _ _)⟩
    · obtain ⟨n, hn2⟩ := Int.eq_ofNat_of_zero_le hn
      have hr : rText m st = ((rCount m st).2.1.take n, ((rCount m st).2.1.drop n, 0)) := by unfold rText; rw [if_neg (by simpa using h0), if_neg h1, hn2]; rfl
      rw [hn2] at HC h1
      have HR := Lib.hid hr
      have H0 := Lib.hid h0
      clear hr h0 hn hn2
      go_enter Tryz.func117, Tryz.ntmps117
      go_wp2_with (first | (go_at_call 115; refine (HC.out).mono ?_; rintro e w1 ⟨rfl, hr1, hg1⟩; obtain ⟨s, hs, hz, c0, c1, f0, f1⟩ := rdr_facts hr1; have h2 : n ≤ s.size := (by have : s.data.toList.length = s.size := rfl; rw [hs] at this; omega); have HS := Lib.hid hs; clear hs) | (go_at_call 212; refine (off_no hr1 H0.out).mono ?_; rintro e w' ⟨rfl, rfl⟩))
      go_ret
      have hsz : s.data.toList.length = s.size := rfl
      have hd : (s.extract n s.size).data.toList = (rCount m st).2.1.drop n := by rw [Lib.extract_to_end, HS.out]
      have hdz : (s.extract n s.size).size ≤ s.size := by
        have := congrArg List.length (Lib.extract_to_end s n)
        rw [List.length_drop] at this
        have h1 : (s.extract n s.size).data.toList.length = (s.extract n s.size).size := rfl
        omega
      refine ⟨s.extract 0 n, by rw [HR.out, Lib.extract_data, HS.out]; rfl, rfl, ?_, hg1.trans (grown_set _ _ _ _)⟩
      have := rdr_rest hr1 (s.extract n s.size) (by omega)
      rw [HR.out]
      rw [hd, H0.out] at this
      exact this
  · have hr : rText m st = ([], (rCount m st).2) := by unfold rText; rw [if_pos (by simpa using h0)]
    have HR := Lib.hid hr
    have H0 := Lib.hid h0
    clear hr h0
    go_enter Tryz.func117, Tryz.ntmps117
    go_wp2_with (first | (go_at_call 115; refine (HC.out).mono ?_; rintro e w1 ⟨rfl, hr1, hg1⟩) | (go_at_call 212; refine (off_yes hr1 H0.out).mono ?_; rintro e w' ⟨rfl, rfl⟩))
    go_ret
    exact ⟨⟨#[]⟩, by rw [HR.out], rfl, by rw [HR.out]; exact hr1, hg1⟩
theorem text_nil (w : World) (m : Int) :
    Calls Tryz.prog 117 #[.pointer none, .int .i64 m] w fun e w' => e = .returned (.string ⟨#[]⟩) ∧ w = w' := by
  go_enter Tryz.func117, Tryz.ntmps117
  go_wp2_with (first | (go_at_call 115; refine (count_nil _ _).mono ?_; rintro e w' ⟨rfl, rfl⟩) | (go_at_call 212; refine (off_nil _).mono ?_; rintro e w' ⟨rfl, rfl⟩))
  go_ret
  exact ⟨rfl, rfl⟩
set_option maxHeartbeats 400000 in
theorem bool_any {w : World} {b : Nat} {st : RSt} (h : Rdr w b st) :
    Calls Tryz.prog 203 #[.pointer (some ⟨b, 0, none⟩)] w fun e w' => e = .returned (.bool (rBool st).1) ∧ Rdr w' b (rBool st).2 ∧ w.grownBy w' (some b) := by
  by_cases h0 : st.2 = 0
  · have HO := Lib.hid (off_no h h0)
    obtain ⟨s, hs, hz, c0, c1, f0, f1⟩ := rdr_facts h
    have H := Lib.hid h
    cases hl : st.1 with
    | nil =>
      have hr : rBool st = (false, ([], 5)) := by unfold rBool; rw [if_neg (by simpa using h0), hl]
      have hse : s.toList.isEmpty = true := by rw [ByteArray.toList_eq, hs, hl]; rfl
      have hse2 : s.toList = [] := by rw [ByteArray.toList_eq, hs, hl]
      have HR := Lib.hid hr
      have HL := Lib.hid hl
      clear hr hl hs h0 h
      go_enter Tryz.func203, Tryz.ntmps203
      go_wp2_with (go_at_call 212; refine (HO.out).mono ?_; rintro e w' ⟨rfl, rfl⟩)
      go_ret
      refine ⟨by rw [HR.out]; rfl, ?_, grown_set _ _ _ _⟩
      have := rdr_err H.out 5
      rw [HL.out] at this
      rw [HR.out]
      exact this
    | cons c r =>
      have hpos : 0 < s.size := by have e : s.data.toList.length = s.size := rfl; rw [hs, hl] at e; simp at e; omega
      have hc : s[0] = c := by
        have e1 : s.data.toList[0]? = some s[0] := by rw [List.getElem?_eq_getElem (by have e : s.data.toList.length = s.size := rfl; omega)]; rfl
        rw [hs, hl] at e1
        simpa using e1.symm
      have hse : s.toList.isEmpty = false := by rw [ByteArray.toList_eq, hs, hl]; rfl
      have hse2 : ¬ s.toList = [] := by rw [ByteArray.toList_eq, hs, hl]; simp
      by_cases h1 : 1 < c.toNat
      · have hr : rBool st = (false, (c :: r, 4)) := by unfold rBool; rw [if_neg (by simpa using h0), hl]; simp only; rw [if_pos h1]
        have h1' : (1 : Int) < s[0].toNat := by rw [hc]; omega
        have HR := Lib.hid hr
        have HL := Lib.hid hl
        clear hr hl hs h0 h hc
        go_enter Tryz.func203, Tryz.ntmps203
        go_wp2_with (go_at_call 212; refine (HO.out).mono ?_; rintro e w' ⟨rfl, rfl⟩)
        go_ret
        refine ⟨by rw [HR.out]; rfl, ?_, grown_set _ _ _ _⟩
        have := rdr_err H.out 4
        rw [HL.out] at this
        rw [HR.out]
        exact this
      · have hr : rBool st = (c.toNat == 1, (r, 0)) := by unfold rBool; rw [if_neg (by simpa using h0), hl]; simp only; rw [if_neg h1]
        have h1' : ¬ (1 : Int) < s[0].toNat := by rw [hc]; omega
        have hb1 : ((s[0].toNat : Int) == 1) = (c.toNat == 1) := by
          rw [hc, Bool.eq_iff_iff]; simp; omega
        have hd : (s.extract 1 s.size).data.toList = r := by rw [Lib.extract_to_end, hs, hl]; rfl
        have hdz : (s.extract 1 s.size).size ≤ 9223372036854775807 := by
          have h1 : (s.extract 1 s.size).data.toList.length = (s.extract 1 s.size).size := rfl
          have e : s.data.toList.length = s.size := rfl
          rw [hd] at h1; rw [hs, hl] at e; simp at e; omega
        obtain ⟨bb, hbb⟩ : ∃ bb, bb = (c.toNat == 1) := ⟨_, rfl⟩
        rw [← hbb] at hb1 hr
        have HR := Lib.hid hr
        have HL := Lib.hid hl
        have HD := Lib.hid hd
        have H0 := Lib.hid h0
        clear hr hl hs h0 h hc hd hbb
        go_enter Tryz.func203, Tryz.ntmps203
        go_wp2_with (go_at_call 212; refine (HO.out).mono ?_; rintro e w' ⟨rfl, rfl⟩)
        go_ret
        refine ⟨by rw [HR.out]; rfl, ?_, grown_set _ _ _ _⟩
        have := rdr_rest H.out (s.extract 1 s.size) hdz
        rw [HD.out, H0.out] at this
        rw [HR.out]
        exact this
  · have HO := Lib.hid (off_yes h h0)
    have hr : rBool st = (false, st) := by unfold rBool; rw [if_pos (by simpa using h0)]
    have HR := Lib.hid hr
    have H := Lib.hid h
    clear h h0 hr
    go_enter Tryz.func203, Tryz.ntmps203
    go_wp2_with (go_at_call 212; refine (HO.out).mono ?_; rintro e w' ⟨rfl, rfl⟩)
    go_ret
    exact ⟨by rw [HR.out]; rfl, by rw [HR.out]; exact H.out, grown_refl _ _⟩
theorem bool_nil (w : World) :
    Calls Tryz.prog 203 #[.pointer none] w fun e w' => e = .returned (.bool false) ∧ w = w' := by
  go_enter Tryz.func203, Tryz.ntmps203
  go_wp2_with (go_at_call 212; refine (off_nil _).mono ?_; rintro e w' ⟨rfl, rfl⟩)
  go_ret
  exact ⟨rfl, rfl⟩
end
end Go.Proofs.YtmdidmllaldbaaaGreat
