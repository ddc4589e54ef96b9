/- A reader along a walk: it stands at block b, and nothing that was there has turned. -/
import Derived.Test.YtmdidmllaldbaaaGreatNumber
import Derived.Test.YtmdidmllaldbaaaGreatTextP
namespace Go.Proofs.YtmdidmllaldbaaaGreat
open Go.RowKit
set_option linter.unusedVariables false
/-- The reader st stands at block b of w1; what lay below B in w0 lies as it did. -/
def RS (w0 w1 : World) (B b : Nat) (st : RSt) : Prop := Rdr w1 b st ∧ Below B w0 w1 ∧ B ≤ b
theorem RS.size {w0 w1 : World} {B b : Nat} {st : RSt} (h : RS w0 w1 B b st) : B ≤ w1.heap.size := Nat.le_of_lt (Nat.lt_of_le_of_lt h.2.2 h.1.lt)
theorem RS.grown {w0 w1 w2 : World} {B b : Nat} {st st' : RSt} (h : RS w0 w1 B b st) (hr : Rdr w2 b st') (hg : w1.grownBy w2 (some b)) : RS w0 w2 B b st' :=
  ⟨hr, h.2.1.grown hg h.size (fun k hk => by injection hk with hk; have := h.2.2; omega), h.2.2⟩
theorem RS.step {w0 w1 w2 : World} {B b : Nat} {st : RSt} (h : RS w0 w1 B b st) (hb : Below w1.heap.size w1 w2) : RS w0 w2 B b st := by
  obtain ⟨⟨s, h1, h2, h3⟩, h4, h5⟩ := h
  have hlt := blk_lt h3
  exact ⟨⟨s, h1, h2, (hb.block b hlt).trans h3⟩, h4.trans (hb.mono (by omega)), h5⟩
theorem RS.alloc {w0 w1 : World} {B b : Nat} {st : RSt} (h : RS w0 w1 B b st) (o : Obj) : RS w0 (w1.alloc o) B b st := h.step ((Below.refl _ _).alloc (Nat.le_refl _) _)
theorem RS.drewN {w0 w1 : World} {B b : Nat} {st : RSt} (h : RS w0 w1 B b st) (n : Nat) : RS w0 (w1.drewN n) B b st := h.step (below_drewN (Below.refl _ _) _)
section
variable {w0 W : World} {B b : Nat} {st : RSt} (h : RS w0 W B b st)
include h
theorem RS.rvar : Calls Tryz.prog 116 #[.pointer (some ⟨b, 0, none⟩)] W fun e w' => e = .returned (.int .i64 (rVar st).1) ∧ RS w0 w' B b (rVar st).2 ∧ W.grownBy w' (some b) := by
  refine (rvar_any h.1).mono ?_
  rintro e w' ⟨he, hr, hg⟩
  exact ⟨he, h.grown hr hg, hg⟩
theorem RS.count (m : Int) : Calls Tryz.prog 115 #[.pointer (some ⟨b, 0, none⟩), .int .i64 m] W fun e w' => e = .returned (.int .i64 (rCount m st).1) ∧ RS w0 w' B b (rCount m st).2 ∧ W.grownBy w' (some b) := by
  refine (count_any h.1 m).mono ?_
  rintro e w' ⟨he, hr, hg⟩
  exact ⟨he, h.grown hr hg, hg⟩
theorem RS.text (m : Int) : Calls Tryz.prog 117 #[.pointer (some ⟨b, 0, none⟩), .int .i64 m] W fun e w' => e = .returned (.string ⟨(rText m st).1.toArray⟩) ∧ RS w0 w' B b (rText m st).2 ∧ W.grownBy w' (some b) := by
  refine (text_any h.1 m).mono ?_
  rintro e w' ⟨r, hr, he, hr', hg⟩
  have hrb : r = ⟨(rText m st).1.toArray⟩ := bytes_ext hr
  rw [hrb] at he
  exact ⟨he, h.grown hr' hg, hg⟩
theorem RS.bool : Calls Tryz.prog 203 #[.pointer (some ⟨b, 0, none⟩)] W fun e w' => e = .returned (.bool (rBool st).1) ∧ RS w0 w' B b (rBool st).2 ∧ W.grownBy w' (some b) := by
  refine (bool_any h.1).mono ?_
  rintro e w' ⟨he, hr, hg⟩
  exact ⟨he, h.grown hr hg, hg⟩
theorem RS.err : Calls Tryz.prog 26 #[.pointer (some ⟨b, 0, none⟩)] W fun e w' => e = .returned (.int .i64 st.2) ∧ W = w' := err_any h.1
theorem RS.fin : Calls Tryz.prog 27 #[.pointer (some ⟨b, 0, none⟩)] W fun e w' => e = .returned (.int .i64 (rEnd st)) ∧ W = w' := end_any h.1
end
/-- A write to another row leaves the reader. -/
theorem RS.far {w0 W W' : World} {B b : Nat} {st : RSt} {row : Option Nat} (h : RS w0 W B b st) (hg : W.grownBy W' row) (hne : row ≠ some b) (hb : Below B w0 W') : RS w0 W' B b st := by
  obtain ⟨⟨s, h1, h2, h3⟩, _, h5⟩ := h
  exact ⟨⟨s, h1, h2, (hg.block b (blk_lt h3) (fun e => hne e.symm)).trans h3⟩, hb, h5⟩
theorem RS.ne {w0 W : World} {B b base : Nat} {st : RSt} {e : TypeId} {size n : Nat} {v : Value} {xs : List Value} (h : RS w0 W B b st) (hT : 154 ≠ e) (ho : W.ownsRow base e size v n xs) : v.ownBlock ≠ some b := by
  obtain ⟨⟨s, h1, h2, h3⟩, _, _⟩ := h
  rcases ho.2 with ⟨rfl, _⟩ | ⟨g, cap, cur, rfl, _, hg, _⟩
  · simp [Value.ownBlock]
  · intro he
    have hgb : g = b := by simpa [Value.ownBlock] using he
    subst hgb
    rw [h3] at hg
    injection hg with hg
    injection hg with _ h2
    exact hT h2
/-- A new reader. -/
theorem RS.new {w0 W : World} {B : Nat} (s : ByteArray) (hb : Below B w0 W) (hB : B ≤ W.heap.size) (hs : s.size ≤ 281474976710656) :
    Calls Tryz.prog 12 #[.string s] W fun e w' => ∃ b, e = .returned (.pointer (some ⟨b, 0, none⟩)) ∧ RS w0 w' B b (s.data.toList, 0) := by
  refine (newReader_any s W hs).mono ?_
  rintro e w' ⟨b, he, hbb, hr, hb'⟩
  exact ⟨b, he, ⟨s, rfl, by omega, hr⟩, hb.trans (hb'.mono hB), Nat.le_trans hB hbb⟩
theorem rText_len (m : Int) (st : RSt) : ((rText m st).1.length : Int) ≤ max m 0 := by
  unfold rText
  split
  · simp; omega
  · split
    · simp; omega
    · rename_i h1 h2
      have : (rCount m st).1 ≤ max m 0 := by
        unfold rCount
        split
        · omega
        · split
          · show (0 : Int) ≤ _; omega
          · split
            · show (0 : Int) ≤ _; omega
            · rename_i h3 h4 h5; omega
      show ((List.take (rCount m st).1.toNat _).length : Int) ≤ _
      rw [List.length_take]
      omega
theorem rCount_range (m : Int) (st : RSt) (hm : 0 ≤ m) : 0 ≤ (rCount m st).1 ∧ (rCount m st).1 ≤ m := by
  unfold rCount
  split
  · exact ⟨Int.le_refl 0, hm⟩
  · split
    · exact ⟨Int.le_refl 0, hm⟩
    · split
      · exact ⟨Int.le_refl 0, hm⟩
      · rename_i h1 h2 h3; omega
theorem numb_range (l : List UInt8) : ∀ i acc : Nat, i ≤ 9 → acc < 128 ^ i → -9223372036854775808 ≤ (numb i acc l).1 ∧ (numb i acc l).1 ≤ 9223372036854775807 := by
  induction l with
  | nil => intro i acc _ _; show (-9223372036854775808 : Int) ≤ 0 ∧ (0 : Int) ≤ 9223372036854775807; decide
  | cons c r ih =>
    intro i acc hi ha
    have hc : c.toNat % 128 < 128 := Nat.mod_lt _ (by decide)
    have hd := digit_lt (c := c.toNat % 128) ha hc
    rw [numb]
    split
    · exact ⟨by decide, by decide⟩
    · rename_i h1
      split
      · rename_i h2
        exact ih (i + 1) _ (by omega) hd
      · split
        · exact ⟨by decide, by decide⟩
        · refine unzig_range ?_
          by_cases h9 : i = 9
          · subst h9
            have hc1 : c.toNat ≤ 1 := by omega
            have e9 : (128 : Nat) ^ 9 = 9223372036854775808 := by decide
            rw [e9] at ha ⊢
            have : c.toNat % 128 ≤ 1 := by omega
            have : c.toNat % 128 * 9223372036854775808 ≤ 1 * 9223372036854775808 := Nat.mul_le_mul_right _ this
            omega
          · have hp : (128 : Nat) ^ (i + 1) ≤ 128 ^ 9 := Nat.pow_le_pow_right (by decide) (by omega)
            have e9 : (128 : Nat) ^ 9 = 9223372036854775808 := by decide
            omega
theorem rVar_range (st : RSt) : -9223372036854775808 ≤ (rVar st).1 ∧ (rVar st).1 ≤ 9223372036854775807 := by
  unfold rVar
  split
  · show (-9223372036854775808 : Int) ≤ 0 ∧ (0 : Int) ≤ 9223372036854775807; decide
  · split
    · show (-9223372036854775808 : Int) ≤ 0 ∧ (0 : Int) ≤ 9223372036854775807; decide
    · exact numb_range _ 0 0 (by omega) (by decide)
end Go.Proofs.YtmdidmllaldbaaaGreat
