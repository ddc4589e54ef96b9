/- The plain number of fixed width: what num.Fix and num.Unfix compute. -/
namespace Go.Proofs.Ytmdidmllaldbaaa
/-- The n lowest bytes of v, the lowest first. -/
def fixB (v : Nat) : Nat → List UInt8
  | 0 => []
  | n + 1 => fixB v n ++ [UInt8.ofNat (v / 256 ^ n)]
def unfixB : List UInt8 → Nat
  | [] => 0
  | c :: r => c.toNat + 256 * unfixB r
/-- May v be laid in n bytes? -/
def fixOK (v n : Int) : Prop := 1 ≤ n ∧ n ≤ 7 ∧ 0 ≤ v ∧ v.toNat < 256 ^ n.toNat
instance (v n : Int) : Decidable (fixOK v n) := inferInstanceAs (Decidable (_ ∧ _))
theorem fixB_len (v n : Nat) : (fixB v n).length = n := by
  induction n with
  | zero => rfl
  | succ n ih => simp [fixB, ih]
theorem unfixB_append (a b : List UInt8) : unfixB (a ++ b) = unfixB a + 256 ^ a.length * unfixB b := by
  induction a with
  | nil => simp [unfixB]
  | cons c r ih =>
    show c.toNat + 256 * unfixB (r ++ b) = c.toNat + 256 * unfixB r + _
    rw [ih, List.length_cons, Nat.pow_succ, Nat.mul_add, ← Nat.mul_assoc, Nat.mul_comm 256 (256 ^ r.length)]
    omega
theorem unfix_fix (v n : Nat) : unfixB (fixB v n) = v % 256 ^ n := by
  induction n with
  | zero => show 0 = v % 1; omega
  | succ n ih =>
    rw [fixB, unfixB_append, ih, fixB_len]
    show v % 256 ^ n + 256 ^ n * ((UInt8.ofNat (v / 256 ^ n)).toNat + 256 * 0) = _
    have : (UInt8.ofNat (v / 256 ^ n)).toNat = v / 256 ^ n % 256 := by simp
    rw [this, Nat.mul_zero, Nat.add_zero, Nat.pow_succ, Nat.mod_mul]
theorem unfixB_lt (l : List UInt8) : unfixB l < 256 ^ l.length := by
  induction l with
  | nil => show 0 < 1; omega
  | cons c r ih =>
    have := c.toNat_lt
    show c.toNat + 256 * unfixB r < _
    rw [List.length_cons, Nat.pow_succ]
    omega
end Go.Proofs.Ytmdidmllaldbaaa
