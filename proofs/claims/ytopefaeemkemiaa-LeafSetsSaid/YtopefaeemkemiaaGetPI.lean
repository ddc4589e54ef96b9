/- The plain law of a leaf's bytes: what is put is got; cut off, only whole items are. -/
import Derived.Test.YtopefaeemkemiaaGetI
namespace Go.Proofs.Ytopefaeemkemiaa
open Go.RowKit
set_option linter.unusedVariables false
def GoodI (e : Itm) : Prop := okI e = true
theorem goodI_iff (e : Itm) : GoodI e ↔ (1 ≤ e.key.size ∧ e.key.size ≤ 40) ∧ ((e.ov = 0 ∧ e.sz = 0 ∧ e.vl.size ≤ 60) ∨ (1 ≤ e.ov ∧ e.ov ≤ 4294967295 ∧ 61 ≤ e.sz ∧ e.sz ≤ 2000 ∧ e.vl = ⟨#[]⟩)) := by
  unfold GoodI okI inB
  rw [Bool.and_eq_true, Bool.and_eq_true, decide_eq_true_eq, decide_eq_true_eq]
  refine and_congr (by omega) ?_
  by_cases h0 : e.ov = 0
  · rw [if_pos h0, Bool.and_eq_true, beq_iff_eq, decide_eq_true_eq]
    constructor
    · rintro ⟨h1, h2⟩
      exact .inl ⟨h0, h1, h2⟩
    · rintro (⟨_, h1, h2⟩ | ⟨h1, _⟩)
      · exact ⟨h1, h2⟩
      · omega
  · rw [if_neg h0]
    simp only [Bool.and_eq_true, decide_eq_true_eq, eqB_iff]
    constructor
    · rintro ⟨⟨⟨h1, h2⟩, h3, h4⟩, h5⟩
      exact .inr ⟨h1, h2, h3, h4, h5⟩
    · rintro (⟨h1, _⟩ | ⟨h1, h2, h3, h4, h5⟩)
      · exact absurd h1 h0
      · exact ⟨⟨⟨h1, h2⟩, h3, h4⟩, h5⟩
theorem riseGoI_good : ∀ (l : List Itm) (p : Option ByteArray), riseGoI p l = true → ∀ e ∈ l, GoodI e
  | [], _, _, e, he => by cases he
  | a :: r, p, h, e, he => by
    rw [riseGoI, Bool.and_eq_true, Bool.and_eq_true] at h
    rcases List.mem_cons.1 he with rfl | he
    · exact h.1.1
    · exact riseGoI_good r _ h.2 e he
theorem putI_good {l : List Itm} (h : (putI l).2 = 0) : (∀ e ∈ l, GoodI e) ∧ (layI l).length ≤ 240 ∧ putI l = (layI l, 0) ∧ riseI l = true := by
  unfold putI at h ⊢
  by_cases h1 : riseI l = true
  · rw [if_pos h1] at h ⊢
    by_cases h2 : 240 < (layI l).length
    · rw [if_pos h2] at h; cases h
    · rw [if_neg h2]
      exact ⟨riseGoI_good l none h1, by omega, rfl, h1⟩
  · rw [if_neg h1] at h; cases h
theorem putI_bad {l : List Itm} (h : (putI l).2 ≠ 0) : (putI l).1 = [] := by
  unfold putI at h ⊢
  by_cases h1 : riseI l = true
  · rw [if_pos h1] at h ⊢
    by_cases h2 : 240 < (layI l).length
    · rw [if_pos h2]
    · rw [if_neg h2] at h; exact absurd rfl h
  · rw [if_neg h1]
theorem var1_neI (v : Int) : var1 v ≠ [] := by
  unfold var1 varFuel
  split <;> simp
theorem itmB_ne (e : Itm) : itmB e ≠ [] := by
  unfold itmB headI textB
  intro h
  exact var1_neI _ (List.append_eq_nil_iff.1 (List.append_eq_nil_iff.1 (List.append_eq_nil_iff.1 h).1).1).1
theorem itmB_three (e : Itm) : 3 ≤ (itmB e).length := by
  have h1 := List.length_pos_iff.2 (var1_neI (e.key.data.toList.length : Int))
  have h2 : 1 ≤ (tailI e).length := by
    unfold tailI
    split
    · rw [textsB_one]
      unfold textB
      rw [List.length_append]
      have := List.length_pos_iff.2 (var1_neI (e.vl.data.toList.length : Int))
      omega
    · rw [vars_two, List.length_append]
      have := List.length_pos_iff.2 (var1_neI e.ov)
      omega
  unfold itmB headI textB
  simp only [List.length_append, boolI_len]
  omega
theorem layI_ge (l : List Itm) : 3 * l.length ≤ (layI l).length := by
  induction l with
  | nil => simp
  | cons e r ih =>
    rw [layI_cons, List.length_append, List.length_cons]
    have := itmB_three e
    omega
theorem bsI_self (s : ByteArray) : bsI s.data.toList = s := by unfold bsI; exact bytes_ext (by rw [bytes_mk])
theorem rBool_boolI (v : Bool) (r : List UInt8) : rBool (boolI v ++ r, 0) = (v, (r, 0)) := by cases v <;> rfl
theorem getItm_itmB (e : Itm) (r : List UInt8) (h : GoodI e) : getItm (itmB e ++ r, 0) = (e, (r, 0)) := by
  obtain ⟨⟨h1, h2⟩, h3⟩ := (goodI_iff e).1 h
  have hl : e.key.data.toList.length = e.key.size := rfl
  have e1 := rText_textB 40 e.key.data.toList (boolI (e.ov != 0) ++ (tailI e ++ r)) (by omega)
  rw [if_neg (by omega)] at e1
  have e2 := rBool_boolI (e.ov != 0) (tailI e ++ r)
  have hb : itmB e ++ r = textB e.key.data.toList ++ (boolI (e.ov != 0) ++ (tailI e ++ r)) := by
    unfold itmB headI
    simp only [List.append_assoc]
  unfold getItm
  rw [hb, e1]
  dsimp only
  rw [e2]
  dsimp only
  rcases h3 with ⟨g1, g2, g3⟩ | ⟨g1, g2, g3, g4, g5⟩
  · have hn : (e.ov != 0) = false := by rw [g1]; rfl
    have ht : tailI e = textB e.vl.data.toList := by unfold tailI; rw [if_pos g1, textsB_one]
    have hvl : e.vl.data.toList.length = e.vl.size := rfl
    have e3 := rText_textB 60 e.vl.data.toList r (by omega)
    rw [if_neg (by omega)] at e3
    rw [hn, if_neg (by decide), ht, e3]
    dsimp only
    rw [bsI_self, bsI_self]
    have he : (⟨e.key, e.vl, 0, 0⟩ : Itm) = e := by
      obtain ⟨ek, ev, eo, es⟩ := e
      dsimp only at g1 g2
      subst g1 g2
      rfl
    rw [he]
  · have h0 : e.ov ≠ 0 := by omega
    have hn : (e.ov != 0) = true := by simpa using h0
    have ht : tailI e = var1 e.ov ++ var1 e.sz := by unfold tailI; rw [if_neg h0, vars_two]
    have e3 := rVar_var1 e.ov (var1 e.sz ++ r) (by omega) (by omega)
    have e4 := rVar_var1 e.sz r (by omega) (by omega)
    rw [hn, if_pos rfl, ht, List.append_assoc, e3]
    dsimp only
    rw [e4]
    dsimp only
    have he : (⟨e.key, ⟨#[]⟩, e.ov, e.sz⟩ : Itm) = e := by
      obtain ⟨ek, ev, eo, es⟩ := e
      dsimp only at g5
      subst g5
      rfl
    rw [bsI_self, he]
theorem getGoI_lay : ∀ (l acc : List Itm) (f : Nat), (∀ e ∈ l, GoodI e) → l.length ≤ f → getGoI f (layI l, 0) acc = (acc ++ l, ([], 0)) := by
  intro l
  induction l with
  | nil =>
    intro acc f _ _
    rw [List.append_nil]
    exact getGoI_stop _ _ _ (by simp [layI])
  | cons e r ih =>
    intro acc f h hf
    obtain ⟨f', rfl⟩ : ∃ f', f = f' + 1 := ⟨f - 1, by rw [List.length_cons] at hf; omega⟩
    have hne : layI (e :: r) ≠ [] := by
      rw [layI_cons]
      intro hh
      exact itmB_ne e (List.append_eq_nil_iff.1 hh).1
    rw [getGoI, if_pos ⟨rfl, hne⟩, layI_cons, getItm_itmB e _ (h e List.mem_cons_self), ih _ _ (fun u hu => h u (List.mem_cons_of_mem _ hu)) (by rw [List.length_cons] at hf; omega)]
    simp
/-- What is put is got. -/
theorem getI_put {l : List Itm} (h : (putI l).2 = 0) : getI (layI l) = (l, 0) := by
  obtain ⟨h1, _, h2, _⟩ := putI_good h
  have hg := getGoI_lay l [] ((layI l).length + 1) h1 (by have := layI_ge l; omega)
  rw [List.nil_append] at hg
  unfold getI
  rw [hg, if_pos ⟨rfl, h2⟩]
theorem getI_inv {b : List UInt8} (h : (getI b).2 = 0) : putI (getI b).1 = (b, 0) := by
  unfold getI at h ⊢
  split
  · rename_i hh; exact hh.2
  · rename_i hh; rw [if_neg hh] at h; cases h
theorem layI_prefix : ∀ (x l : List Itm) (t : List UInt8), (∀ e ∈ x, GoodI e) → (∀ e ∈ l, GoodI e) → layI l = layI x ++ t → x = l.take x.length ∧ x.length ≤ l.length ∧ layI (l.drop x.length) = t := by
  intro x
  induction x with
  | nil => intro l t _ _ h; exact ⟨rfl, Nat.zero_le _, by simpa [layI] using h⟩
  | cons e x ih =>
    intro l t hx hl h
    cases l with
    | nil =>
      rw [layI_cons, List.append_assoc] at h
      have h' : itmB e ++ (layI x ++ t) = [] := h.symm
      exact absurd (List.append_eq_nil_iff.1 h').1 (itmB_ne e)
    | cons a l =>
      rw [layI_cons, layI_cons, List.append_assoc] at h
      have g1 := getItm_itmB a (layI l) (hl a List.mem_cons_self)
      have g2 := getItm_itmB e (layI x ++ t) (hx e List.mem_cons_self)
      rw [h, g2] at g1
      injection g1 with e1 e2
      injection e2 with e2 _
      subst e1
      obtain ⟨i1, i2, i3⟩ := ih l t (fun u hu => hx u (List.mem_cons_of_mem _ hu)) (fun u hu => hl u (List.mem_cons_of_mem _ hu)) e2.symm
      refine ⟨?_, by rw [List.length_cons, List.length_cons]; omega, ?_⟩
      · rw [List.length_cons, List.take_succ_cons, ← i1]
      · rw [List.length_cons, List.drop_succ_cons]; exact i3
/-- Cut off, only whole children are got, and not all. -/
theorem getI_cut {l : List Itm} {cut : Nat} (h : (putI l).2 = 0) (hc : cut < (layI l).length) (hg : (getI ((layI l).take cut)).2 = 0) :
    (getI ((layI l).take cut)).1.length < l.length ∧ (getI ((layI l).take cut)).1 = l.take (getI ((layI l).take cut)).1.length := by
  obtain ⟨h1, _, _, _⟩ := putI_good h
  have hp := getI_inv hg
  obtain ⟨x, hx⟩ : ∃ x, x = (getI ((layI l).take cut)).1 := ⟨_, rfl⟩
  rw [← hx] at hp ⊢
  have hp2 : (putI x).2 = 0 := by rw [hp]
  obtain ⟨k1, _, k2, _⟩ := putI_good hp2
  rw [k2] at hp
  injection hp with hp _
  have hsplit : layI l = layI x ++ (layI l).drop cut := by rw [hp, List.take_append_drop]
  obtain ⟨i1, i2, i3⟩ := layI_prefix x l _ k1 h1 hsplit
  refine ⟨?_, i1⟩
  rcases Nat.lt_or_ge x.length l.length with h5 | h5
  · exact h5
  · rw [List.drop_eq_nil_of_le h5] at i3
    have : ((layI l).drop cut).length = 0 := by rw [← i3]; rfl
    rw [List.length_drop] at this
    omega
/-- With more behind, more items are got, and these stand ahead. -/
theorem getI_more {l : List Itm} {m : List UInt8} (h : (putI l).2 = 0) (hm : m ≠ []) (hg : (getI (layI l ++ m)).2 = 0) :
    l.length < (getI (layI l ++ m)).1.length ∧ l = (getI (layI l ++ m)).1.take l.length := by
  obtain ⟨h1, _, _, _⟩ := putI_good h
  have hp := getI_inv hg
  obtain ⟨x, hx⟩ : ∃ x, x = (getI (layI l ++ m)).1 := ⟨_, rfl⟩
  rw [← hx] at hp ⊢
  have hp2 : (putI x).2 = 0 := by rw [hp]
  obtain ⟨k1, _, k2, _⟩ := putI_good hp2
  rw [k2] at hp
  injection hp with hp _
  obtain ⟨i1, i2, i3⟩ := layI_prefix l x m h1 k1 hp
  refine ⟨?_, i1⟩
  rcases Nat.lt_or_ge l.length x.length with h5 | h5
  · exact h5
  · rw [List.drop_eq_nil_of_le h5] at i3
    exact absurd i3.symm hm
theorem getI_code (b : List UInt8) : (getI b).2 = 0 ∨ ((getI b).2 = 4 ∧ (getI b).1 = []) := by
  unfold getI
  split
  · exact .inl rfl
  · exact .inr ⟨rfl, rfl⟩
end Go.Proofs.Ytopefaeemkemiaa
