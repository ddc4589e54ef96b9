/- The plain numbers in bytes: what num.number and num.Var compute, with no program in sight. -/
namespace Go.Proofs.Ytmdidmllaldbaaa
def unzig (n : Nat) : Int := if n % 2 = 0 then ((n / 2 : Nat) : Int) else -((n / 2 : Nat) : Int) - 1
def zig (v : Int) : Nat := if 0 ≤ v then (2 * v).toNat else (-2 * v - 1).toNat
/-- What a number's bytes tell from place i on, when acc was read: the number, the bytes behind it, the error. -/
def numb (i acc : Nat) : List UInt8 → Int × List UInt8 × Int
  | [] => (0, [], 5)
  | c :: r =>
    if i = 9 ∧ 1 < c.toNat then (0, [], 4)
    else if 128 ≤ c.toNat then numb (i + 1) (acc + c.toNat % 128 * 128 ^ i) r
    else if c.toNat = 0 ∧ 0 < i then (0, [], 4)
    else (unzig (acc + c.toNat % 128 * 128 ^ i), r, 0)
def varFuel : Nat → Nat → List UInt8
  | 0, n => [UInt8.ofNat n]
  | f + 1, n => if 128 ≤ n then UInt8.ofNat (n % 128 + 128) :: varFuel f (n / 128) else [UInt8.ofNat n]
/-- The bytes of one number. -/
def var1 (v : Int) : List UInt8 := varFuel 9 (zig v)
def vars (l : List Int) : List UInt8 := (l.map var1).flatten
theorem unzig_zig (v : Int) : unzig (zig v) = v := by
  unfold unzig zig
  split <;> split <;> omega
theorem zig_lt {v : Int} (h1 : -9223372036854775808 ≤ v) (h2 : v ≤ 9223372036854775807) : zig v < 18446744073709551616 := by
  unfold zig; split <;> omega
theorem zig_unzig (n : Nat) : zig (unzig n) = n := by
  unfold unzig
  by_cases h : n % 2 = 0
  · rw [if_pos h]; unfold zig; rw [if_pos (by omega)]; omega
  · rw [if_neg h]; unfold zig; rw [if_neg (by omega)]; omega
/-- What was laid is read: from place i on. -/
theorem numb_var (f : Nat) : ∀ (i acc n : Nat) (r : List UInt8), i + f = 9 → n < 128 ^ f * 2 → (0 < i → 0 < n) → numb i acc (varFuel f n ++ r) = (unzig (acc + n * 128 ^ i), r, 0) := by
  induction f with
  | zero =>
    intro i acc n r hi hn hp
    have hn2 : n < 2 := by simpa using hn
    obtain rfl : i = 9 := by omega
    have hb : (UInt8.ofNat n).toNat = n := by simp; omega
    show numb 9 acc (UInt8.ofNat n :: r) = _
    rw [numb, hb, if_neg (by omega), if_neg (by omega), if_neg (by have := hp (by omega); omega), Nat.mod_eq_of_lt (by omega)]
  | succ f ih =>
    intro i acc n r hi hn hp
    rw [varFuel]
    by_cases h : 128 ≤ n
    · rw [if_pos h]
      have hb : (UInt8.ofNat (n % 128 + 128)).toNat = n % 128 + 128 := by simp; omega
      show numb i acc (UInt8.ofNat (n % 128 + 128) :: (varFuel f (n / 128) ++ r)) = _
      rw [numb, hb, if_neg (by omega), if_pos (by omega)]
      have hn' : n / 128 < 128 ^ f * 2 := by
        rw [Nat.pow_succ] at hn
        apply Nat.div_lt_of_lt_mul
        omega
      rw [ih (i + 1) _ (n / 128) r (by omega) hn' (by omega)]
      have e : acc + (n % 128 + 128) % 128 * 128 ^ i + n / 128 * 128 ^ (i + 1) = acc + n * 128 ^ i := by
        rw [Nat.pow_succ, show (n % 128 + 128) % 128 = n % 128 from by omega, show n / 128 * (128 ^ i * 128) = (128 * (n / 128)) * 128 ^ i from by rw [Nat.mul_comm (128 ^ i) 128, ← Nat.mul_assoc, Nat.mul_comm (n / 128) 128], Nat.add_assoc, ← Nat.add_mul]
        congr 2
        omega
      rw [e]
    · rw [if_neg h]
      have hb : (UInt8.ofNat n).toNat = n := by simp; omega
      show numb i acc (UInt8.ofNat n :: r) = _
      rw [numb, hb, if_neg (by omega), if_neg (by omega), if_neg (by intro hh; have := hp hh.2; omega), Nat.mod_eq_of_lt (by omega)]
theorem numb_var1 (v : Int) (r : List UInt8) (h1 : -9223372036854775808 ≤ v) (h2 : v ≤ 9223372036854775807) : numb 0 0 (var1 v ++ r) = (v, r, 0) := by
  have h := zig_lt h1 h2
  rw [var1, numb_var 9 0 0 (zig v) r (by omega) (by simpa using h) (by omega)]
  simp [unzig_zig]
theorem numb_err (l : List UInt8) : ∀ i acc, (numb i acc l).2.2 = 0 ∨ (numb i acc l).2.2 = 4 ∨ (numb i acc l).2.2 = 5 := by
  induction l with
  | nil => intro i acc; right; right; rfl
  | cons c r ih =>
    intro i acc
    rw [numb]
    split
    · right; left; rfl
    · split
      · exact ih _ _
      · split
        · right; left; rfl
        · left; rfl
theorem numb_zero (l : List UInt8) : ∀ i acc, (numb i acc l).2.2 ≠ 0 → (numb i acc l).1 = 0 ∧ (numb i acc l).2.1 = [] := by
  induction l with
  | nil => intro i acc _; exact ⟨rfl, rfl⟩
  | cons c r ih =>
    intro i acc h
    rw [numb] at h ⊢
    split
    · exact ⟨rfl, rfl⟩
    · rename_i h1
      rw [if_neg h1] at h
      split
      · rename_i h2
        rw [if_pos h2] at h
        exact ih _ _ h
      · rename_i h2
        rw [if_neg h2] at h
        split
        · exact ⟨rfl, rfl⟩
        · rename_i h3
          rw [if_neg h3] at h
          exact absurd rfl h
theorem varFuel_len (f : Nat) : ∀ n, (varFuel f n).length ≤ f + 1 := by
  induction f with
  | zero => intro n; simp [varFuel]
  | succ f ih =>
    intro n
    rw [varFuel]
    split
    · simp; exact ih _
    · simp
theorem var1_len (v : Int) : (var1 v).length ≤ 10 := varFuel_len 9 _
theorem vars_snoc (vs : List Int) (k : Nat) (h : k < vs.length) : vars (vs.take (k + 1)) = vars (vs.take k) ++ var1 (vs.getD k 0) := by
  have e : vs.take (k + 1) = vs.take k ++ [vs.getD k 0] := by
    rw [List.take_succ_eq_append_getElem h]; simp [List.getElem?_eq_getElem h]
  rw [e]; simp [vars]
theorem unzig_range {n : Nat} (h : n < 18446744073709551616) : -9223372036854775808 ≤ unzig n ∧ unzig n ≤ 9223372036854775807 := by
  unfold unzig; split <;> omega
theorem or_join (a b i : Nat) (ha : a < 128 ^ i) : a ||| b * 128 ^ i = a + b * 128 ^ i := by
  have e : (128 : Nat) ^ i = 2 ^ (7 * i) := by rw [show (128 : Nat) = 2 ^ 7 from rfl, ← Nat.pow_mul]
  rw [e] at ha ⊢
  rw [Nat.or_comm, Nat.mul_comm b, ← Nat.two_pow_add_eq_or_of_lt ha, Nat.add_comm]
theorem digit_lt {acc c i : Nat} (ha : acc < 128 ^ i) (hc : c < 128) : acc + c * 128 ^ i < 128 ^ (i + 1) := by
  rw [Nat.pow_succ]
  have : c * 128 ^ i + 128 ^ i ≤ 128 ^ i * 128 := by
    rw [Nat.mul_comm (128 ^ i) 128, ← Nat.succ_mul]
    exact Nat.mul_le_mul_right _ (by omega)
  omega
end Go.Proofs.Ytmdidmllaldbaaa
