/- The plain check sum: what num.Crc computes, on lists of bytes, with no program in sight. -/
namespace Go.Proofs.YtmdidmllaldbaaaGreat
/-! ### The plain check sum: what num.Crc computes, on lists of bytes, with no program in sight. -/
section
def crcBit (x : Nat) : Nat := if x % 2 = 1 then (x / 2) ^^^ 3988292384 else x / 2
def crcN : Nat → Nat → Nat
  | 0, x => x
  | n + 1, x => crcN n (crcBit x)
def crcByte (x : Nat) (b : UInt8) : Nat := crcN 8 (x ^^^ b.toNat)
def crcS (x : Nat) (l : List UInt8) : Nat := l.foldl crcByte x
def crcAll (x : Nat) (l : List (List UInt8)) : Nat := l.foldl crcS x
def crc (l : List UInt8) : Nat := 4294967295 - crcS 4294967295 l

theorem crcN_succ (n : Nat) : ∀ x, crcN (n + 1) x = crcBit (crcN n x) := by
  induction n with
  | zero => intro x; rfl
  | succ n ih => intro x; show crcN (n + 1) (crcBit x) = _; rw [ih]; rfl
theorem xor_lt {a b : Nat} (ha : a < 4294967296) (hb : b < 4294967296) : a ^^^ b < 4294967296 := Nat.xor_lt_two_pow (n := 32) ha hb
theorem crcBit_lt {x : Nat} (h : x < 4294967296) : crcBit x < 4294967296 := by
  unfold crcBit
  split
  · exact xor_lt (by omega) (by omega)
  · omega
theorem crcN_lt (n : Nat) : ∀ x, x < 4294967296 → crcN n x < 4294967296 := by
  induction n with
  | zero => intro x h; exact h
  | succ n ih => intro x h; exact ih _ (crcBit_lt h)
theorem crcByte_lt {x : Nat} (h : x < 4294967296) (b : UInt8) : crcByte x b < 4294967296 :=
  crcN_lt 8 _ (xor_lt h (by have := b.toNat_lt; omega))
theorem crcS_lt (l : List UInt8) : ∀ x, x < 4294967296 → crcS x l < 4294967296 := by
  induction l with
  | nil => intro x h; exact h
  | cons b l ih => intro x h; exact ih _ (crcByte_lt h b)
theorem crcAll_lt (l : List (List UInt8)) : ∀ x, x < 4294967296 → crcAll x l < 4294967296 := by
  induction l with
  | nil => intro x h; exact h
  | cons b l ih => intro x h; exact ih _ (crcS_lt b _ h)
theorem crcS_append (x : Nat) (a b : List UInt8) : crcS x (a ++ b) = crcS (crcS x a) b := List.foldl_append ..
theorem crcAll_flatten (l : List (List UInt8)) : ∀ x, crcAll x l = crcS x l.flatten := by
  induction l with
  | nil => intro x; rfl
  | cons b l ih => intro x; rw [List.flatten_cons, crcS_append, ← ih]; rfl
theorem crcS_snoc (x : Nat) (s : ByteArray) (k : Nat) (h : k < s.size) : crcS x (s.data.toList.take (k + 1)) = crcByte (crcS x (s.data.toList.take k)) s[k] := by
  have e : s.data.toList.take (k + 1) = s.data.toList.take k ++ [s[k]] := by
    rw [List.take_succ_eq_append_getElem (by simpa using h)]; rfl
  rw [e, crcS_append]; rfl

theorem xor_cancel {a b c : Nat} (h : a ^^^ c = b ^^^ c) : a = b := by
  have e : ∀ z : Nat, z ^^^ c ^^^ c = z := fun z => by rw [Nat.xor_assoc, Nat.xor_self, Nat.xor_zero]
  rw [← e a, h, e b]
theorem xor_cancel' {a b c : Nat} (h : c ^^^ a = c ^^^ b) : a = b := by
  rw [Nat.xor_comm c a, Nat.xor_comm c b] at h
  exact xor_cancel h
theorem xor_ones (x : Nat) (h : x < 4294967296) : 4294967295 ^^^ x = 4294967295 - x := by
  have e : (BitVec.allOnes 32 ^^^ BitVec.ofNat 32 x) = ~~~ BitVec.ofNat 32 x := by rw [BitVec.xor_comm, BitVec.xor_allOnes]
  have e2 := congrArg BitVec.toNat e
  rw [BitVec.toNat_xor, BitVec.toNat_not, BitVec.toNat_allOnes, BitVec.toNat_ofNat, Nat.mod_eq_of_lt (by simpa using h)] at e2
  exact e2
/-- One step of the sum loses nothing. -/
theorem crcBit_inj {x y : Nat} (hx : x < 4294967296) (hy : y < 4294967296) (h : crcBit x = crcBit y) : x = y := by
  have top : ∀ z, z < 2147483648 → (z ^^^ 3988292384).testBit 31 = true := by
    intro z hz
    rw [Nat.testBit_xor, Nat.testBit_lt_two_pow (by simpa using hz)]
    decide
  have low : ∀ z, z < 2147483648 → z.testBit 31 = false := fun z hz => Nat.testBit_lt_two_pow (by simpa using hz)
  unfold crcBit at h
  by_cases hx1 : x % 2 = 1 <;> by_cases hy1 : y % 2 = 1
  · rw [if_pos hx1, if_pos hy1] at h
    have h2 : x / 2 = y / 2 := xor_cancel h
    omega
  · rw [if_pos hx1, if_neg hy1] at h
    have := top (x / 2) (by omega)
    rw [h, low _ (by omega)] at this
    cases this
  · rw [if_neg hx1, if_pos hy1] at h
    have := top (y / 2) (by omega)
    rw [← h, low _ (by omega)] at this
    cases this
  · rw [if_neg hx1, if_neg hy1] at h
    omega
theorem crcN_inj (n : Nat) : ∀ x y, x < 4294967296 → y < 4294967296 → crcN n x = crcN n y → x = y := by
  induction n with
  | zero => intro x y _ _ h; exact h
  | succ n ih => intro x y hx hy h; exact crcBit_inj hx hy (ih _ _ (crcBit_lt hx) (crcBit_lt hy) h)
theorem crcByte_inj {x y : Nat} (b : UInt8) (hx : x < 4294967296) (hy : y < 4294967296) (h : crcByte x b = crcByte y b) : x = y := by
  have hb := b.toNat_lt
  exact xor_cancel (crcN_inj 8 _ _ (xor_lt hx (by omega)) (xor_lt hy (by omega)) h)
theorem crcS_inj (l : List UInt8) : ∀ x y, x < 4294967296 → y < 4294967296 → crcS x l = crcS y l → x = y := by
  induction l with
  | nil => intro x y _ _ h; exact h
  | cons b l ih => intro x y hx hy h; exact crcByte_inj b hx hy (ih _ _ (crcByte_lt hx b) (crcByte_lt hy b) h)
/-- One byte that is changed changes the sum. -/
theorem crc_changed (l m : List UInt8) (a b : UInt8) (h : a ≠ b) : crc (l ++ a :: m) ≠ crc (l ++ b :: m) := by
  intro e
  unfold crc at e
  have h1 := crcS_lt (l ++ a :: m) 4294967295 (by omega)
  have h2 := crcS_lt (l ++ b :: m) 4294967295 (by omega)
  have e1 : crcS 4294967295 (l ++ a :: m) = crcS 4294967295 (l ++ b :: m) := by omega
  rw [crcS_append, crcS_append] at e1
  have hl := crcS_lt l 4294967295 (by omega)
  have e2 : crcByte (crcS 4294967295 l) a = crcByte (crcS 4294967295 l) b := crcS_inj m _ _ (crcByte_lt hl a) (crcByte_lt hl b) e1
  have ha := a.toNat_lt
  have hb := b.toNat_lt
  have e3 := xor_cancel' (crcN_inj 8 _ _ (xor_lt hl (by omega)) (xor_lt hl (by omega)) e2)
  exact h (UInt8.toNat_inj.1 e3)
end
/-! ### The plain number of fixed width: what num.Fix and num.Unfix compute. -/
section
/-- The n lowest bytes of v, the lowest first. -/
def fixB (v : Nat) : Nat → List UInt8
  | 0 => []
  | n + 1 => fixB v n ++ [UInt8.ofNat (v / 256 ^ n)]
def unfixB : List UInt8 → Nat
  | [] => 0
  | c :: r => c.toNat + 256 * unfixB r
/-- May v be laid in n bytes? -/
def fixOK (v n : Int) : Prop := 1 ≤ n ∧ n ≤ 7 ∧ 0 ≤ v ∧ v.toNat < 256 ^ n.toNat
instance (v n : Int) : Decidable (fixOK v n) := inferInstanceAs (Decidable (_ ∧ _))
theorem fixB_len (v n : Nat) : (fixB v n).length = n := by
  induction n with
  | zero => rfl
  | succ n ih => simp [fixB, ih]
theorem unfixB_append (a b : List UInt8) : unfixB (a ++ b) = unfixB a + 256 ^ a.length * unfixB b := by
  induction a with
  | nil => simp [unfixB]
  | cons c r ih =>
    show c.toNat + 256 * unfixB (r ++ b) = c.toNat + 256 * unfixB r + _
    rw [ih, List.length_cons, Nat.pow_succ, Nat.mul_add, ← Nat.mul_assoc, Nat.mul_comm 256 (256 ^ r.length)]
    omega
theorem unfix_fix (v n : Nat) : unfixB (fixB v n) = v % 256 ^ n := by
  induction n with
  | zero => show 0 = v % 1; omega
  | succ n ih =>
    rw [fixB, unfixB_append, ih, fixB_len]
    show v % 256 ^ n + 256 ^ n * ((UInt8.ofNat (v / 256 ^ n)).toNat + 256 * 0) = _
    have : (UInt8.ofNat (v / 256 ^ n)).toNat = v / 256 ^ n % 256 := by simp
    rw [this, Nat.mul_zero, Nat.add_zero, Nat.pow_succ, Nat.mod_mul]
theorem unfixB_lt (l : List UInt8) : unfixB l < 256 ^ l.length := by
  induction l with
  | nil => show 0 < 1; omega
  | cons c r ih =>
    have := c.toNat_lt
    show c.toNat + 256 * unfixB r < _
    rw [List.length_cons, Nat.pow_succ]
    omega
end
end Go.Proofs.YtmdidmllaldbaaaGreat
