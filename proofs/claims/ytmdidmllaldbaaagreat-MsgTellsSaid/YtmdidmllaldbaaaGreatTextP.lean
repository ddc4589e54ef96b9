/- The plain bytes of texts, and how they are read again. -/
import Derived.Test.YtmdidmllaldbaaaGreatNumber
namespace Go.Proofs.YtmdidmllaldbaaaGreat
def textB (s : List UInt8) : List UInt8 := var1 s.length ++ s
def textsB (ss : List ByteArray) : List UInt8 := (ss.map fun s => textB s.data.toList).flatten
theorem le_sum : ∀ (L : List Nat) (v : Nat), v ∈ L → v ≤ L.sum := by
  intro L
  induction L with
  | nil => intro v h; cases h
  | cons a L ih =>
    intro v h
    rw [List.sum_cons]
    rcases List.mem_cons.1 h with rfl | h
    · omega
    · have := ih v h; omega
theorem vars_one (v : Int) : vars [v] = var1 v := by simp [vars]
theorem vars_two (v u : Int) : vars [v, u] = var1 v ++ var1 u := by simp [vars]
theorem vars_three (v u x : Int) : vars [v, u, x] = var1 v ++ (var1 u ++ var1 x) := by simp [vars]
theorem textsB_one (s : ByteArray) : textsB [s] = textB s.data.toList := by simp [textsB]
theorem textsB_len (ss : List ByteArray) : (textsB ss).length ≤ 10 * ss.length + (ss.map (·.size)).sum := by
  induction ss with
  | nil => simp [textsB]
  | cons s r ih =>
    have h1 : (textB s.data.toList).length ≤ 10 + s.size := by
      unfold textB
      rw [List.length_append]
      have := var1_len (s.data.toList.length : Int)
      have e : s.data.toList.length = s.size := rfl
      omega
    have h2 : (textsB (s :: r)).length = (textB s.data.toList).length + (textsB r).length := by simp [textsB]
    rw [h2, List.length_cons, List.map_cons, List.sum_cons]
    omega
theorem rCount_var1 (most v : Int) (r : List UInt8) (h1 : 0 ≤ v) (h2 : v ≤ 9223372036854775807) : rCount most (var1 v ++ r, 0) = if most < v then (0, (r, 2)) else (v, (r, 0)) := by
  unfold rCount
  rw [rVar_var1 v r (by omega) h2]
  simp only [ne_eq, not_true_eq_false, if_false]
  rw [if_neg (by omega)]
theorem rText_textB (most : Int) (s r : List UInt8) (hs : s.length ≤ 9223372036854775807) : rText most (textB s ++ r, 0) = if most < s.length then ([], (s ++ r, 2)) else (s, (r, 0)) := by
  unfold rText textB
  rw [List.append_assoc, rCount_var1 most s.length (s ++ r) (by omega) (by omega)]
  by_cases h : most < s.length
  · rw [if_pos h, if_pos h]; simp
  · rw [if_neg h, if_neg h]
    simp
    omega
theorem rVar_stay (st : RSt) (h : st.2 ≠ 0) : rVar st = (0, st) := rVar_off h
theorem rCount_stay (m : Int) (st : RSt) (h : st.2 ≠ 0) : rCount m st = (0, st) := by
  unfold rCount
  rw [rVar_off h, if_pos h]
theorem rText_stay (m : Int) (st : RSt) (h : st.2 ≠ 0) : rText m st = ([], st) := by
  unfold rText
  rw [rCount_stay m st h, if_pos h]
end Go.Proofs.YtmdidmllaldbaaaGreat
