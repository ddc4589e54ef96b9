/- The plain digits of a number, and the number of digits, with no program in sight. -/
namespace Go.Proofs.Ytegiibpdkioocaa
def digF : Nat → Nat → List UInt8 → List UInt8
  | 0, _, acc => acc
  | f + 1, n, acc => if n / 10 = 0 then UInt8.ofNat (48 + n % 10) :: acc else digF f (n / 10) (UInt8.ofNat (48 + n % 10) :: acc)
def digits (v : Int) : List UInt8 := if v < 0 then 45 :: digF 20 v.natAbs [] else digF 20 v.natAbs []
theorem digF_succ (f n : Nat) (acc : List UInt8) : digF (f + 1) n acc = if n / 10 = 0 then UInt8.ofNat (48 + n % 10) :: acc else digF f (n / 10) (UInt8.ofNat (48 + n % 10) :: acc) := rfl
theorem digF_acc (f : Nat) : ∀ n acc, digF f n acc = digF f n [] ++ acc := by
  induction f with
  | zero => intro n acc; rfl
  | succ f ih =>
    intro n acc
    rw [digF_succ, digF_succ]
    split
    · rfl
    · rw [ih, ih (n / 10) [_], List.append_assoc]; rfl
/-- A number read from its digits, whatever they are. -/
def undig (l : List UInt8) : Nat := l.foldl (fun n c => 10 * n + (c.toNat - 48)) 0
theorem undig_snoc (l : List UInt8) (c : UInt8) : undig (l ++ [c]) = 10 * undig l + (c.toNat - 48) := by simp [undig]
theorem dig_toNat (n : Nat) : (UInt8.ofNat (48 + n % 10)).toNat = 48 + n % 10 := by simp; omega
theorem undig_digF (f : Nat) : ∀ n, n < 10 ^ f → 0 < f → undig (digF f n []) = n := by
  induction f with
  | zero => intro n _ h; omega
  | succ f ih =>
    intro n hn _
    rw [digF_succ]
    split
    · rename_i h0
      show 10 * 0 + ((UInt8.ofNat (48 + n % 10)).toNat - 48) = n
      rw [dig_toNat]; omega
    · rename_i h0
      have hf : 0 < f := by
        rcases Nat.eq_zero_or_pos f with h | h
        · subst h; simp at hn; omega
        · exact h
      rw [digF_acc, undig_snoc, dig_toNat, ih (n / 10) (by rw [Nat.pow_succ] at hn; omega) hf]
      omega
theorem digF_ne (f n : Nat) (acc : List UInt8) (hf : 0 < f) : digF f n acc ≠ [] := by
  cases f with
  | zero => omega
  | succ f =>
    rw [digF_succ]
    split
    · simp
    · rw [digF_acc]; simp
theorem digF_all (f : Nat) : ∀ n acc, (∀ c ∈ acc, 48 ≤ c.toNat ∧ c.toNat ≤ 57) → ∀ c ∈ digF f n acc, 48 ≤ c.toNat ∧ c.toNat ≤ 57 := by
  induction f with
  | zero => intro n acc h; exact h
  | succ f ih =>
    intro n acc h
    have h' : ∀ c ∈ UInt8.ofNat (48 + n % 10) :: acc, 48 ≤ c.toNat ∧ c.toNat ≤ 57 := by
      intro c hc
      rcases List.mem_cons.1 hc with rfl | hc
      · rw [dig_toNat]; omega
      · exact h c hc
    rw [digF_succ]
    split
    · exact h'
    · exact ih _ _ h'
theorem digF_len (f : Nat) : ∀ n acc, (digF f n acc).length ≤ f + acc.length := by
  induction f with
  | zero => intro n acc; rw [Nat.zero_add]; exact Nat.le_refl _
  | succ f ih =>
    intro n acc
    have := ih (n / 10) (UInt8.ofNat (48 + n % 10) :: acc)
    rw [List.length_cons] at this
    rw [digF_succ]
    by_cases h : n / 10 = 0
    · rw [if_pos h, List.length_cons]; omega
    · rw [if_neg h]; omega
/-- k digits or fewer, just if the number lies below 10^k. -/
theorem digF_len_le (f : Nat) : ∀ n k, n < 10 ^ f → 0 < f → 0 < k → ((digF f n []).length ≤ k ↔ n < 10 ^ k) := by
  induction f with
  | zero => intro n k _ h; omega
  | succ f ih =>
    intro n k hn _ hk
    rw [digF_succ]
    split
    · rename_i h0
      have : 10 ≤ 10 ^ k := by
        have := Nat.pow_le_pow_right (n := 10) (by omega) hk
        simpa using this
      simp; omega
    · rename_i h0
      have hf : 0 < f := by
        rcases Nat.eq_zero_or_pos f with h | h
        · subst h; simp at hn; omega
        · exact h
      rw [digF_acc, List.length_append]
      obtain ⟨k, rfl⟩ : ∃ j, k = j + 1 := ⟨k - 1, by omega⟩
      rcases Nat.eq_zero_or_pos k with h | h
      · subst h
        have hne := digF_ne f (n / 10) [] hf
        have : 0 < (digF f (n / 10) []).length := by cases h : digF f (n / 10) [] with
          | nil => exact absurd h hne
          | cons a l => simp
        simp only [List.length_singleton, Nat.zero_add, Nat.pow_one]; omega
      · have := ih (n / 10) k (by rw [Nat.pow_succ] at hn; omega) hf h
        rw [Nat.pow_succ]
        simp; omega
/-- The first digit is no nought, but of 0 itself. -/
theorem digF_head (f : Nat) : ∀ n, n < 10 ^ f → 0 < n → (digF f n []).head? ≠ some 48 := by
  induction f with
  | zero => intro n h1 h2; simp at h1; omega
  | succ f ih =>
    intro n hn h0
    rw [digF_succ]
    split
    · rename_i h1
      intro h
      have h2 : UInt8.ofNat (48 + n % 10) = 48 := by simpa using h
      have := dig_toNat n
      rw [h2] at this
      have : (48 : UInt8).toNat = 48 := rfl
      omega
    · rename_i h1
      have hf : 0 < f := by
        rcases Nat.eq_zero_or_pos f with h | h
        · subst h; simp at hn; omega
        · exact h
      rw [digF_acc]
      have hne := digF_ne f (n / 10) [] hf
      have := ih (n / 10) (by rw [Nat.pow_succ] at hn; omega) (by omega)
      cases h : digF f (n / 10) [] with
      | nil => exact absurd h hne
      | cons a l => rw [h] at this; simpa using this
/-- What num.Number tells: the number, and the error. -/
def numD (d : List UInt8) (below : Bool) : Int × Int :=
  if d = [] ∨ 18 < d.length ∨ (d.head? = some 48 ∧ (1 < d.length ∨ below = true)) then (0, 1)
  else if d.all (fun c => 48 ≤ c.toNat && c.toNat ≤ 57) then ((if below then -(undig d : Int) else undig d), 0) else (0, 1)
def numS (l : List UInt8) : Int × Int := match l with
  | [] => numD [] false
  | c :: r => if c = 45 then numD r true else numD (c :: r) false
theorem numD_digF (n : Nat) (below : Bool) (h : n < 10 ^ 20) (hb : below = true → 0 < n) :
    numD (digF 20 n []) below = if n < 10 ^ 18 then ((if below then -(n : Int) else n), 0) else (0, 1) := by
  have hne := digF_ne 20 n [] (by omega)
  have hlen := digF_len_le 20 n 18 h (by omega) (by omega)
  have hall : (digF 20 n []).all (fun c => 48 ≤ c.toNat && c.toNat ≤ 57) = true := by
    rw [List.all_eq_true]
    intro c hc
    have := digF_all 20 n [] (by simp) c hc
    simp [this.1, this.2]
  unfold numD
  by_cases hs : n < 10 ^ 18
  · have hl : (digF 20 n []).length ≤ 18 := hlen.2 hs
    rw [if_pos hs, if_neg, if_pos hall, undig_digF 20 n h (by omega)]
    rintro (h1 | h1 | ⟨h1, h2⟩)
    · exact hne h1
    · omega
    · rcases Nat.eq_zero_or_pos n with h0 | h0
      · subst h0
        rcases h2 with h2 | h2
        · have : digF 20 0 [] = [48] := by decide
          rw [this] at h2
          simp at h2
        · have := hb h2; omega
      · exact digF_head 20 n h h0 h1
  · rw [if_neg hs, if_pos]
    right; left
    have : ¬ (digF 20 n []).length ≤ 18 := fun h => hs (hlen.1 h)
    omega
theorem numS_digits (v : Int) (h1 : -9223372036854775808 ≤ v) (h2 : v ≤ 9223372036854775807) :
    numS (digits v) = if -1000000000000000000 < v ∧ v < 1000000000000000000 then (v, 0) else (0, 1) := by
  unfold digits
  by_cases h0 : v < 0
  · rw [if_pos h0]
    have e2 : -(v.natAbs : Int) = v := by omega
    rw [show numS (45 :: digF 20 v.natAbs []) = numD (digF 20 v.natAbs []) true from rfl, numD_digF _ _ (by omega) (by omega)]
    by_cases hs : v.natAbs < 10 ^ 18
    · rw [if_pos hs, if_pos (show _ ∧ _ by omega), if_pos rfl, e2]
    · rw [if_neg hs, if_neg (show ¬ (_ ∧ _) by omega)]
  · rw [if_neg h0]
    have hne := digF_ne 20 v.natAbs [] (by omega)
    have hn := numD_digF v.natAbs false (by omega) (by simp)
    have hall := digF_all 20 v.natAbs [] (by simp)
    cases hd : digF 20 v.natAbs [] with
    | nil => exact absurd hd hne
    | cons c r =>
      rw [hd] at hn hall
      have hc : c ≠ 45 := by
        intro e
        have := hall c (by simp)
        rw [e] at this
        have h45 : (45 : UInt8).toNat = 45 := rfl
        omega
      show (if c = 45 then _ else numD (c :: r) false) = _
      rw [if_neg hc, hn]
      have e2 : (v.natAbs : Int) = v := by omega
      by_cases hs : v.natAbs < 10 ^ 18
      · rw [if_pos hs, if_pos (show _ ∧ _ by omega), if_neg (by simp), e2]
      · rw [if_neg hs, if_neg (show ¬ (_ ∧ _) by omega)]
theorem digits_inj {a b : Int} (ha1 : -9223372036854775808 ≤ a) (ha2 : a ≤ 9223372036854775807) (hb1 : -9223372036854775808 ≤ b) (hb2 : b ≤ 9223372036854775807) (h : digits a = digits b) : a = b := by
  have key : ∀ n : Nat, n < 10 ^ 20 → (digF 20 n []).head? ≠ some 45 := by
    intro n hn e
    cases hd : digF 20 n [] with
    | nil => rw [hd] at e; cases e
    | cons c r =>
      rw [hd] at e
      have := digF_all 20 n [] (by simp) c (by rw [hd]; simp)
      have hc : c = 45 := by simpa using e
      rw [hc] at this
      have h45 : (45 : UInt8).toNat = 45 := rfl
      omega
  have hA : a.natAbs < 10 ^ 20 := by omega
  have hB : b.natAbs < 10 ^ 20 := by omega
  unfold digits at h
  by_cases h1 : a < 0 <;> by_cases h2 : b < 0
  · rw [if_pos h1, if_pos h2] at h
    have e : digF 20 a.natAbs [] = digF 20 b.natAbs [] := by simpa using h
    have e2 := congrArg undig e
    rw [undig_digF 20 _ hA (by omega), undig_digF 20 _ hB (by omega)] at e2
    omega
  · rw [if_pos h1, if_neg h2] at h
    exact absurd (by rw [← h]; rfl) (key _ hB)
  · rw [if_neg h1, if_pos h2] at h
    exact absurd (by rw [h]; rfl) (key _ hA)
  · rw [if_neg h1, if_neg h2] at h
    have e2 := congrArg undig h
    rw [undig_digF 20 _ hA (by omega), undig_digF 20 _ hB (by omega)] at e2
    omega
end Go.Proofs.Ytegiibpdkioocaa
