/- The plain law of a branch's bytes: what is put is got; cut off, only whole children are. -/
import Derived.Test.YtmdidmllaldbaaaGreatGetC
namespace Go.Proofs.YtmdidmllaldbaaaGreat
open Go.RowKit
set_option linter.unusedVariables false
def GoodC (e : Chd) : Prop := 2 ≤ e.pg ∧ e.pg ≤ 4294967295 ∧ e.key.size ≤ 40
theorem rightGo_good : ∀ (l : List Chd) (p : Option ByteArray), rightGo p l = true → ∀ e ∈ l, GoodC e
  | [], _, _, e, he => by cases he
  | a :: r, p, h, e, he => by
    rw [rightGo, Bool.and_eq_true, Bool.and_eq_true] at h
    rcases List.mem_cons.1 he with rfl | he
    · have := h.1.1
      unfold okC at this
      simp only [Bool.and_eq_true, decide_eq_true_eq] at this
      exact this
    · exact rightGo_good r _ h.2 e he
theorem putC_good {l : List Chd} (h : (putC l).2 = 0) : (∀ e ∈ l, GoodC e) ∧ l ≠ [] ∧ (layB l).length ≤ 240 ∧ putC l = (layB l, 0) ∧ rightC l = true := by
  unfold putC at h ⊢
  by_cases h1 : rightC l = true
  · rw [if_pos h1] at h ⊢
    by_cases h2 : 240 < (layB l).length
    · rw [if_pos h2] at h; cases h
    · rw [if_neg h2]
      refine ⟨?_, ?_, by omega, rfl, h1⟩
      · unfold rightC at h1
        rw [Bool.and_eq_true] at h1
        exact rightGo_good l none h1.1
      · intro hl
        rw [hl] at h1
        exact absurd h1 (by decide)
  · rw [if_neg h1] at h; cases h
theorem putC_bad {l : List Chd} (h : (putC l).2 ≠ 0) : (putC l).1 = [] := by
  unfold putC at h ⊢
  by_cases h1 : rightC l = true
  · rw [if_pos h1] at h ⊢
    by_cases h2 : 240 < (layB l).length
    · rw [if_pos h2]
    · rw [if_neg h2] at h; exact absurd rfl h
  · rw [if_neg h1]
theorem var1_neC (v : Int) : var1 v ≠ [] := by
  unfold var1 varFuel
  split <;> simp
theorem chdB_ne (e : Chd) : chdB e ≠ [] := by
  unfold chdB textB
  intro h
  exact var1_neC _ (List.append_eq_nil_iff.1 (List.append_eq_nil_iff.1 h).1).1
theorem layB_ge (l : List Chd) : l.length ≤ (layB l).length := by
  induction l with
  | nil => simp
  | cons e r ih =>
    rw [layB_cons, List.length_append, List.length_cons]
    have := List.length_pos_iff.2 (chdB_ne e)
    omega
theorem layB_two (l : List Chd) : 2 * l.length ≤ (layB l).length := by
  induction l with
  | nil => simp
  | cons e r ih =>
    rw [layB_cons, List.length_append, List.length_cons]
    have h1 := List.length_pos_iff.2 (var1_neC (e.key.data.toList.length : Int))
    have h2 := List.length_pos_iff.2 (var1_neC e.pg)
    have h3 : (chdB e).length = (var1 (e.key.data.toList.length : Int)).length + e.key.data.toList.length + (var1 e.pg).length := by
      unfold chdB textB
      rw [List.length_append, List.length_append]
    omega
theorem bsC_self (s : ByteArray) : bsC s.data.toList = s := by unfold bsC; exact bytes_ext (by rw [bytes_mk])
theorem getChd_chdB (e : Chd) (r : List UInt8) (h : GoodC e) : getChd (chdB e ++ r, 0) = (e, (r, 0)) := by
  obtain ⟨h1, h2, h3⟩ := h
  have hl : e.key.data.toList.length = e.key.size := rfl
  have e1 := rText_textB 40 e.key.data.toList (var1 e.pg ++ r) (by omega)
  rw [if_neg (by omega)] at e1
  have e2 := rVar_var1 e.pg r (by omega) (by omega)
  unfold getChd chdB
  rw [List.append_assoc, e1]
  dsimp only
  rw [e2, bsC_self]
theorem getGo_lay : ∀ (l acc : List Chd) (f : Nat), (∀ e ∈ l, GoodC e) → l.length ≤ f → getGo f (layB l, 0) acc = (acc ++ l, ([], 0)) := by
  intro l
  induction l with
  | nil =>
    intro acc f _ _
    rw [List.append_nil]
    exact getGo_stop _ _ _ (by simp [layB])
  | cons e r ih =>
    intro acc f h hf
    obtain ⟨f', rfl⟩ : ∃ f', f = f' + 1 := ⟨f - 1, by rw [List.length_cons] at hf; omega⟩
    have hne : layB (e :: r) ≠ [] := by
      rw [layB_cons]
      intro hh
      exact chdB_ne e (List.append_eq_nil_iff.1 hh).1
    rw [getGo, if_pos ⟨rfl, hne⟩, layB_cons, getChd_chdB e _ (h e List.mem_cons_self), ih _ _ (fun u hu => h u (List.mem_cons_of_mem _ hu)) (by rw [List.length_cons] at hf; omega)]
    simp
/-- What is put is got. -/
theorem getC_put {l : List Chd} (h : (putC l).2 = 0) : getC (layB l) = (l, 0) := by
  obtain ⟨h1, _, _, h2, _⟩ := putC_good h
  have hg := getGo_lay l [] ((layB l).length + 1) h1 (by have := layB_ge l; omega)
  rw [List.nil_append] at hg
  unfold getC
  rw [hg, if_pos ⟨rfl, h2⟩]
theorem getC_inv {b : List UInt8} (h : (getC b).2 = 0) : putC (getC b).1 = (b, 0) := by
  unfold getC at h ⊢
  split
  · rename_i hh; exact hh.2
  · rename_i hh; rw [if_neg hh] at h; cases h
theorem lay_prefix : ∀ (x l : List Chd) (t : List UInt8), (∀ e ∈ x, GoodC e) → (∀ e ∈ l, GoodC e) → layB l = layB x ++ t → x = l.take x.length ∧ x.length ≤ l.length ∧ layB (l.drop x.length) = t := by
  intro x
  induction x with
  | nil => intro l t _ _ h; exact ⟨rfl, Nat.zero_le _, by simpa [layB] using h⟩
  | cons e x ih =>
    intro l t hx hl h
    cases l with
    | nil =>
      rw [layB_cons, List.append_assoc] at h
      have h' : chdB e ++ (layB x ++ t) = [] := h.symm
      exact absurd (List.append_eq_nil_iff.1 h').1 (chdB_ne e)
    | cons a l =>
      rw [layB_cons, layB_cons, List.append_assoc] at h
      have g1 := getChd_chdB a (layB l) (hl a List.mem_cons_self)
      have g2 := getChd_chdB e (layB x ++ t) (hx e List.mem_cons_self)
      rw [h, g2] at g1
      injection g1 with e1 e2
      injection e2 with e2 _
      subst e1
      obtain ⟨i1, i2, i3⟩ := ih l t (fun u hu => hx u (List.mem_cons_of_mem _ hu)) (fun u hu => hl u (List.mem_cons_of_mem _ hu)) e2.symm
      refine ⟨?_, by rw [List.length_cons, List.length_cons]; omega, ?_⟩
      · rw [List.length_cons, List.take_succ_cons, ← i1]
      · rw [List.length_cons, List.drop_succ_cons]; exact i3
/-- Cut off, only whole children are got, and not all. -/
theorem getC_cut {l : List Chd} {cut : Nat} (h : (putC l).2 = 0) (hc : cut < (layB l).length) (hg : (getC ((layB l).take cut)).2 = 0) :
    (getC ((layB l).take cut)).1.length < l.length ∧ (getC ((layB l).take cut)).1 = l.take (getC ((layB l).take cut)).1.length := by
  obtain ⟨h1, _, _, _, _⟩ := putC_good h
  have hp := getC_inv hg
  obtain ⟨x, hx⟩ : ∃ x, x = (getC ((layB l).take cut)).1 := ⟨_, rfl⟩
  rw [← hx] at hp ⊢
  have hp2 : (putC x).2 = 0 := by rw [hp]
  obtain ⟨k1, _, _, k2, _⟩ := putC_good hp2
  rw [k2] at hp
  injection hp with hp _
  have hsplit : layB l = layB x ++ (layB l).drop cut := by rw [hp, List.take_append_drop]
  obtain ⟨i1, i2, i3⟩ := lay_prefix x l _ k1 h1 hsplit
  refine ⟨?_, i1⟩
  rcases Nat.lt_or_ge x.length l.length with h5 | h5
  · exact h5
  · rw [List.drop_eq_nil_of_le h5] at i3
    have : ((layB l).drop cut).length = 0 := by rw [← i3]; rfl
    rw [List.length_drop] at this
    omega
end Go.Proofs.YtmdidmllaldbaaaGreat
