/- The plain reader: what each method of num.Reader answers and leaves, on lists of bytes. -/
import Derived.Test.YtmdidmllaldbaaaNumP
namespace Go.Proofs.Ytmdidmllaldbaaa
abbrev RSt := List UInt8 × Int
def rVar (st : RSt) : Int × RSt :=
  if st.2 ≠ 0 then (0, st)
  else if (numb 0 0 st.1).2.2 ≠ 0 then (0, (st.1, (numb 0 0 st.1).2.2)) else ((numb 0 0 st.1).1, ((numb 0 0 st.1).2.1, 0))
def rCount (most : Int) (st : RSt) : Int × RSt :=
  if (rVar st).2.2 ≠ 0 then (0, (rVar st).2)
  else if (rVar st).1 < 0 then (0, ((rVar st).2.1, 4))
  else if most < (rVar st).1 then (0, ((rVar st).2.1, 2)) else rVar st
def rText (most : Int) (st : RSt) : List UInt8 × RSt :=
  if (rCount most st).2.2 ≠ 0 then ([], (rCount most st).2)
  else if ((rCount most st).2.1.length : Int) < (rCount most st).1 then ([], ((rCount most st).2.1, 5))
  else ((rCount most st).2.1.take (rCount most st).1.toNat, ((rCount most st).2.1.drop (rCount most st).1.toNat, 0))
def rBool (st : RSt) : Bool × RSt :=
  if st.2 ≠ 0 then (false, st)
  else match st.1 with
    | [] => (false, ([], 5))
    | c :: r => if 1 < c.toNat then (false, (c :: r, 4)) else (c.toNat == 1, (r, 0))
def rEnd (st : RSt) : Int := if st.2 ≠ 0 then st.2 else if st.1 ≠ [] then 4 else 0
theorem numb_len (l : List UInt8) : ∀ i acc, (numb i acc l).2.1.length ≤ l.length := by
  induction l with
  | nil => intro i acc; exact Nat.le_refl _
  | cons c r ih =>
    intro i acc
    rw [numb]
    split
    · exact Nat.zero_le _
    · split
      · exact Nat.le_trans (ih _ _) (by simp)
      · split
        · exact Nat.zero_le _
        · simp
theorem rVar_off {st : RSt} (h : st.2 ≠ 0) : rVar st = (0, st) := by unfold rVar; rw [if_pos h]
theorem rVar_var1 (v : Int) (r : List UInt8) (h1 : -9223372036854775808 ≤ v) (h2 : v ≤ 9223372036854775807) : rVar (var1 v ++ r, 0) = (v, (r, 0)) := by
  unfold rVar; simp [numb_var1 v r h1 h2]
theorem rVar_len (st : RSt) : (rVar st).2.1.length ≤ st.1.length := by
  unfold rVar
  split
  · exact Nat.le_refl _
  · split
    · exact Nat.le_refl _
    · exact numb_len _ _ _
theorem rCount_len (m : Int) (st : RSt) : (rCount m st).2.1.length ≤ st.1.length := by
  have := rVar_len st
  unfold rCount
  repeat' split
  all_goals exact this
end Go.Proofs.Ytmdidmllaldbaaa
