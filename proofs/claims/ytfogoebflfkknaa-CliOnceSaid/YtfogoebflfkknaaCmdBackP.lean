/- The plain law of chapter 23: what is put is got; with more, or cut, it is not. -/
import Derived.Test.YtfogoebflfkknaaCmdD
namespace Go.Proofs.Ytfogoebflfkknaa
open Go.RowKit
set_option linter.unusedVariables false
theorem rEnd_off (st : RSt) (h : st.2 ≠ 0) : rEnd st = st.2 := by unfold rEnd; rw [if_pos h]
theorem rEnd_more (r : List UInt8) (h : r ≠ []) : rEnd (r, 0) = 4 := by unfold rEnd; rw [if_neg (by simp), if_pos h]
theorem rText_short (m : Int) (s r : List UInt8) (hs : s.length ≤ 9223372036854775807) (hm : (s.length : Int) ≤ m) (hr : r.length < s.length) : rText m (var1 s.length ++ r, 0) = ([], (r, 5)) := by
  have hc := rCount_var1 m s.length r (by omega) (by omega)
  rw [if_neg (by omega)] at hc
  unfold rText
  rw [hc]
  simp
  omega
theorem rVar_nil : rVar ([], 0) = (0, ([], 5)) := by decide
theorem rText_nil (m : Int) : rText m ([], 0) = ([], ([], 5)) := by
  unfold rText rCount; rw [rVar_nil]; rfl
theorem var1_zero : var1 0 = [0] := by decide
/-- A text whose last byte is cut off is no text. -/
theorem rText_cut (m : Int) (s : List UInt8) (hs : s.length ≤ 9223372036854775807) (hm : (s.length : Int) ≤ m) : (rText m ((textB s).dropLast, 0)).2.2 = 5 := by
  by_cases h0 : s = []
  · subst h0
    have : (textB []).dropLast = [] := by unfold textB; rw [show (([] : List UInt8).length : Int) = 0 from rfl, var1_zero]; rfl
    rw [this, rText_nil]
  · have : (textB s).dropLast = var1 s.length ++ s.dropLast := by unfold textB; rw [List.dropLast_append_of_ne_nil h0]
    rw [this, rText_short m s s.dropLast hs hm (by have := List.length_pos_iff.2 h0; rw [List.length_dropLast]; omega)]
theorem opB_eq (o : OpV) : opB o = var1 o.kd ++ (var1 o.ss ++ (var1 o.sq ++ (textB o.key.data.toList ++ (textB o.val.data.toList ++ textB o.old.data.toList)))) := by
  unfold opB
  rw [vars_three]
  simp [textsB]
theorem bs_self (s : ByteArray) : bs s.data.toList = s := by unfold bs; exact bytes_ext (by rw [bytes_mk])
section
variable {o : OpV} (hok : OpOk o) (h1 : o.key.size ≤ 38) (h2 : o.val.size ≤ 900)
include hok h1 h2
/-- What is read of bytes that begin like an operation's, up to its last text. -/
theorem get_ahead (T : List UInt8) : rVar (var1 o.kd ++ (var1 o.ss ++ (var1 o.sq ++ (textB o.key.data.toList ++ (textB o.val.data.toList ++ T)))), 0) = (o.kd, (var1 o.ss ++ (var1 o.sq ++ (textB o.key.data.toList ++ (textB o.val.data.toList ++ T))), 0)) ∧
    vSt (var1 o.kd ++ (var1 o.ss ++ (var1 o.sq ++ (textB o.key.data.toList ++ (textB o.val.data.toList ++ T)))), 0) = (textB o.key.data.toList ++ (textB o.val.data.toList ++ T), 0) ∧
    tSt (textB o.key.data.toList ++ (textB o.val.data.toList ++ T), 0) 2 = (T, 0) := by
  obtain ⟨⟨a1, a2⟩, ⟨b1, b2⟩, ⟨c1, c2⟩, -, -, -⟩ := hok
  have e1 := rVar_var1 o.kd (var1 o.ss ++ (var1 o.sq ++ (textB o.key.data.toList ++ (textB o.val.data.toList ++ T)))) a1 a2
  have e2 := rVar_var1 o.ss (var1 o.sq ++ (textB o.key.data.toList ++ (textB o.val.data.toList ++ T))) b1 b2
  have e3 := rVar_var1 o.sq (textB o.key.data.toList ++ (textB o.val.data.toList ++ T)) c1 c2
  have k1 : o.key.data.toList.length = o.key.size := rfl
  have k2 : o.val.data.toList.length = o.val.size := rfl
  have e4 := rText_textB 1000 o.key.data.toList (textB o.val.data.toList ++ T) (by omega)
  have e5 := rText_textB 1000 o.val.data.toList T (by omega)
  rw [if_neg (by omega)] at e4 e5
  refine ⟨e1, ?_, ?_⟩
  · unfold vSt
    rw [e1]
    dsimp only
    rw [e2]
    dsimp only
    rw [e3]
  · show (rText 1000 (rText 1000 (textB o.key.data.toList ++ (textB o.val.data.toList ++ T), 0)).2).2 = _
    rw [e4]
    dsimp only
    rw [e5]
theorem readOp_put (h3 : o.old.size ≤ 900) (r : List UInt8) : readOp (opB o ++ r, 0) = o ∧ tSt (vSt (opB o ++ r, 0)) 3 = (r, 0) := by
  have e0 : opB o ++ r = var1 o.kd ++ (var1 o.ss ++ (var1 o.sq ++ (textB o.key.data.toList ++ (textB o.val.data.toList ++ (textB o.old.data.toList ++ r))))) := by rw [opB_eq]; simp [List.append_assoc]
  obtain ⟨a, b, c⟩ := get_ahead hok h1 h2 (textB o.old.data.toList ++ r)
  obtain ⟨⟨a1, a2⟩, ⟨b1, b2⟩, ⟨c1, c2⟩, -, -, -⟩ := hok
  have e2 := rVar_var1 o.ss (var1 o.sq ++ (textB o.key.data.toList ++ (textB o.val.data.toList ++ (textB o.old.data.toList ++ r)))) b1 b2
  have e3 := rVar_var1 o.sq (textB o.key.data.toList ++ (textB o.val.data.toList ++ (textB o.old.data.toList ++ r))) c1 c2
  have k1 : o.key.data.toList.length = o.key.size := rfl
  have k2 : o.val.data.toList.length = o.val.size := rfl
  have k3 : o.old.data.toList.length = o.old.size := rfl
  have e4 := rText_textB 1000 o.key.data.toList (textB o.val.data.toList ++ (textB o.old.data.toList ++ r)) (by omega)
  have e5 := rText_textB 1000 o.val.data.toList (textB o.old.data.toList ++ r) (by omega)
  have e6 := rText_textB 1000 o.old.data.toList r (by omega)
  rw [if_neg (by omega)] at e4 e5 e6
  have t1 : tSt (textB o.key.data.toList ++ (textB o.val.data.toList ++ (textB o.old.data.toList ++ r)), 0) 1 = (textB o.val.data.toList ++ (textB o.old.data.toList ++ r), 0) := by
    show (rText 1000 _).2 = _
    rw [show tSt (textB o.key.data.toList ++ (textB o.val.data.toList ++ (textB o.old.data.toList ++ r)), 0) 0 = (textB o.key.data.toList ++ (textB o.val.data.toList ++ (textB o.old.data.toList ++ r)), 0) from rfl, e4]
  rw [e0]
  constructor
  · unfold readOp
    rw [b]
    unfold tX
    rw [a, c, t1]
    rw [show tSt (textB o.key.data.toList ++ (textB o.val.data.toList ++ (textB o.old.data.toList ++ r)), 0) 0 = (textB o.key.data.toList ++ (textB o.val.data.toList ++ (textB o.old.data.toList ++ r)), 0) from rfl, e4, e5, e6]
    dsimp only
    rw [e2]
    dsimp only
    rw [e3]
    dsimp only
    rw [bs_self, bs_self, bs_self]
  · rw [b]
    show (rText 1000 (tSt _ 2)).2 = _
    rw [c, e6]
theorem getOp_put (h3 : o.old.size ≤ 900) (hv : validV o = 0) : getOpV (opB o, 0) = (o, 0) := by
  obtain ⟨a, b⟩ := readOp_put hok h1 h2 h3 []
  rw [List.append_nil] at a b
  have : getOpE (opB o, 0) = 0 := by unfold getOpE; rw [b, a, hv]; rfl
  unfold getOpV
  rw [this, if_pos rfl, a]
theorem getOp_more (h3 : o.old.size ≤ 900) (r : List UInt8) (hr : r ≠ []) : getOpV (opB o ++ r, 0) = (op0, 4) := by
  obtain ⟨a, b⟩ := readOp_put hok h1 h2 h3 r
  have : getOpE (opB o ++ r, 0) = 4 := by unfold getOpE; rw [b, rEnd_more r hr]; rfl
  unfold getOpV
  rw [this, if_neg (by decide)]
theorem getOp_cut (h3 : o.old.size ≤ 900) : getOpV ((opB o).dropLast, 0) = (op0, 5) := by
  have k3 : o.old.data.toList.length = o.old.size := rfl
  have hne : textB o.old.data.toList ≠ [] := by
    unfold textB
    intro h
    have := (List.append_eq_nil_iff.1 h).1
    have hv : ∀ v, var1 v ≠ [] := by
      intro v
      unfold var1 varFuel
      split <;> simp
    exact hv _ this
  have e0 : (opB o).dropLast = var1 o.kd ++ (var1 o.ss ++ (var1 o.sq ++ (textB o.key.data.toList ++ (textB o.val.data.toList ++ (textB o.old.data.toList).dropLast)))) := by
    rw [opB_eq]
    simp only [← List.append_assoc]
    rw [List.dropLast_append_of_ne_nil hne]
  obtain ⟨a, b, c⟩ := get_ahead hok h1 h2 (textB o.old.data.toList).dropLast
  have e5 := rText_cut 1000 o.old.data.toList (by omega) (by omega)
  have e : (tSt (vSt ((opB o).dropLast, 0)) 3).2 = 5 := by
    rw [e0, b]
    show (rText 1000 (tSt _ 2)).2.2 = _
    rw [c, e5]
  have : getOpE ((opB o).dropLast, 0) = 5 := by
    unfold getOpE
    rw [rEnd_off _ (by rw [e]; decide), e]
    rfl
  unfold getOpV
  rw [this, if_neg (by decide)]
end
theorem getRep_put {r : RepV} (hok : RepOk r) (h : r.val.size ≤ 2000) (more : List UInt8) : getRepV (repB r ++ more, 0) = if more = [] then (r, 0) else (rep0, 4) := by
  obtain ⟨⟨a1, a2⟩, ⟨b1, b2⟩, -⟩ := hok
  have e0 : repB r ++ more = var1 r.err ++ (var1 r.num ++ (textB r.val.data.toList ++ more)) := by
    unfold repB; rw [vars_two, textsB_one]; simp [List.append_assoc]
  have k1 : r.val.data.toList.length = r.val.size := rfl
  have e1 := rVar_var1 r.err (var1 r.num ++ (textB r.val.data.toList ++ more)) a1 a2
  have e2 := rVar_var1 r.num (textB r.val.data.toList ++ more) b1 b2
  have e3 := rText_textB 2000 r.val.data.toList more (by omega)
  rw [if_neg (by omega)] at e3
  have hs : repSt (repB r ++ more, 0) = (more, 0) := by
    unfold repSt
    rw [e0, e1]
    dsimp only
    rw [e2]
    dsimp only
    rw [e3]
  have hr : readRep (repB r ++ more, 0) = r := by
    unfold readRep
    rw [e0, e1]
    dsimp only
    rw [e2]
    dsimp only
    rw [e3]
    dsimp only
    rw [bs_self]
  unfold getRepV
  rw [hs, hr]
  by_cases hm : more = []
  · subst hm; rw [show rEnd (([], 0) : RSt) = 0 from rfl, if_pos rfl, if_pos rfl]
  · rw [rEnd_more _ hm, if_neg (by decide), if_neg hm]
end Go.Proofs.Ytfogoebflfkknaa
