/- The plain law of a leaf's bytes: what is put is got; cut off, only whole items are. -/
import Derived.Test.YtmdidmllaldbaaaGreatGetI
import Derived.Test.YtmdidmllaldbaaaGreatAliveI
namespace Go.Proofs.YtmdidmllaldbaaaGreat
/-! ### The plain law of a leaf's bytes: what is put is got; cut off, only whole items are. -/
section
open Go.RowKit
set_option linter.unusedVariables false
def GoodI (e : Itm) : Prop := okI e = true
theorem goodI_iff (e : Itm) : GoodI e ↔ (1 ≤ e.key.size ∧ e.key.size ≤ 40) ∧ ((e.ov = 0 ∧ e.sz = 0 ∧ e.vl.size ≤ 60) ∨ (1 ≤ e.ov ∧ e.ov ≤ 4294967295 ∧ 61 ≤ e.sz ∧ e.sz ≤ 2000 ∧ e.vl = ⟨#[]⟩)) := by
  unfold GoodI okI inB
  rw [Bool.and_eq_true, Bool.and_eq_true, decide_eq_true_eq, decide_eq_true_eq]
  refine and_congr (by omega) ?_
  by_cases h0 : e.ov = 0
  · rw [if_pos h0, Bool.and_eq_true, beq_iff_eq, decide_eq_true_eq]
    constructor
    · rintro ⟨h1, h2⟩
      exact .inl ⟨h0, h1, h2⟩
    · rintro (⟨_, h1, h2⟩ | ⟨h1, _⟩)
      · exact ⟨h1, h2⟩
      · omega
  · rw [if_neg h0]
    simp only [Bool.and_eq_true, decide_eq_true_eq, eqB_iff]
    constructor
    · rintro ⟨⟨⟨h1, h2⟩, h3, h4⟩, h5⟩
      exact .inr ⟨h1, h2, h3, h4, h5⟩
    · rintro (⟨h1, _⟩ | ⟨h1, h2, h3, h4, h5⟩)
      · exact absurd h1 h0
      · exact ⟨⟨⟨h1, h2⟩, h3, h4⟩, h5⟩
theorem riseGoI_good : ∀ (l : List Itm) (p : Option ByteArray), riseGoI p l = true → ∀ e ∈ l, GoodI e
  | [], _, _, e, he => by cases he
  | a :: r, p, h, e, he => by
    rw [riseGoI, Bool.and_eq_true, Bool.and_eq_true] at h
    rcases List.mem_cons.1 he with rfl | he
    · exact h.1.1
    · exact riseGoI_good r _ h.2 e he
theorem putI_good {l : List Itm} (h : (putI l).2 = 0) : (∀ e ∈ l, GoodI e) ∧ (layI l).length ≤ 240 ∧ putI l = (layI l, 0) ∧ riseI l = true := by
  unfold putI at h ⊢
  by_cases h1 : riseI l = true
  · rw [if_pos h1] at h ⊢
    by_cases h2 : 240 < (layI l).length
    · rw [if_pos h2] at h; cases h
    · rw [if_neg h2]
      exact ⟨riseGoI_good l none h1, by omega, rfl, h1⟩
  · rw [if_neg h1] at h; cases h
theorem putI_bad {l : List Itm} (h : (putI l).2 ≠ 0) : (putI l).1 = [] := by
  unfold putI at h ⊢
  by_cases h1 : riseI l = true
  · rw [if_pos h1] at h ⊢
    by_cases h2 : 240 < (layI l).length
    · rw [if_pos h2]
    · rw [if_neg h2] at h; exact absurd rfl h
  · rw [if_neg h1]
theorem var1_neI (v : Int) : var1 v ≠ [] := by
  unfold var1 varFuel
  split <;> simp
theorem itmB_ne (e : Itm) : itmB e ≠ [] := by
  unfold itmB headI textB
  intro h
  exact var1_neI _ (List.append_eq_nil_iff.1 (List.append_eq_nil_iff.1 (List.append_eq_nil_iff.1 h).1).1).1
theorem itmB_three (e : Itm) : 3 ≤ (itmB e).length := by
  have h1 := List.length_pos_iff.2 (var1_neI (e.key.data.toList.length : Int))
  have h2 : 1 ≤ (tailI e).length := by
    unfold tailI
    split
    · rw [textsB_one]
      unfold textB
      rw [List.length_append]
      have := List.length_pos_iff.2 (var1_neI (e.vl.data.toList.length : Int))
      omega
    · rw [vars_two, List.length_append]
      have := List.length_pos_iff.2 (var1_neI e.ov)
      omega
  unfold itmB headI textB
  simp only [List.length_append, boolI_len]
  omega
theorem layI_ge (l : List Itm) : 3 * l.length ≤ (layI l).length := by
  induction l with
  | nil => simp
  | cons e r ih =>
    rw [layI_cons, List.length_append, List.length_cons]
    have := itmB_three e
    omega
theorem bsI_self (s : ByteArray) : bsI s.data.toList = s := by unfold bsI; exact bytes_ext (by rw [bytes_mk])
theorem rBool_boolI (v : Bool) (r : List UInt8) : rBool (boolI v ++ r, 0) = (v, (r, 0)) := by cases v <;> rfl
theorem getItm_itmB (e : Itm) (r : List UInt8) (h : GoodI e) : getItm (itmB e ++ r, 0) = (e, (r, 0)) := by
  obtain ⟨⟨h1, h2⟩, h3⟩ := (goodI_iff e).1 h
  have hl : e.key.data.toList.length = e.key.size := rfl
  have e1 := rText_textB 40 e.key.data.toList (boolI (e.ov != 0) ++ (tailI e ++ r)) (by omega)
  rw [if_neg (by omega)] at e1
  have e2 := rBool_boolI (e.ov != 0) (tailI e ++ r)
  have hb : itmB e ++ r = textB e.key.data.toList ++ (boolI (e.ov != 0) ++ (tailI e ++ r)) := by
    unfold itmB headI
    simp only [List.append_assoc]
  unfold getItm
  rw [hb, e1]
  dsimp only
  rw [e2]
  dsimp only
  rcases h3 with ⟨g1, g2, g3⟩ | ⟨g1, g2, g3, g4, g5⟩
  · have hn : (e.ov != 0) = false := by rw [g1]; rfl
    have ht : tailI e = textB e.vl.data.toList := by unfold tailI; rw [if_pos g1, textsB_one]
    have hvl : e.vl.data.toList.length = e.vl.size := rfl
    have e3 := rText_textB 60 e.vl.data.toList r (by omega)
    rw [if_neg (by omega)] at e3
    rw [hn, if_neg (by decide), ht, e3]
    dsimp only
    rw [bsI_self, bsI_self]
    have he : (⟨e.key, e.vl, 0, 0⟩ : Itm) = e := by
      obtain ⟨ek, ev, eo, es⟩ := e
      dsimp only at g1 g2
      subst g1 g2
      rfl
    rw [he]
  · have h0 : e.ov ≠ 0 := by omega
    have hn : (e.ov != 0) = true := by simpa using h0
    have ht : tailI e = var1 e.ov ++ var1 e.sz := by unfold tailI; rw [if_neg h0, vars_two]
    have e3 := rVar_var1 e.ov (var1 e.sz ++ r) (by omega) (by omega)
    have e4 := rVar_var1 e.sz r (by omega) (by omega)
    rw [hn, if_pos rfl, ht, List.append_assoc, e3]
    dsimp only
    rw [e4]
    dsimp only
    have he : (⟨e.key, ⟨#[]⟩, e.ov, e.sz⟩ : Itm) = e := by
      obtain ⟨ek, ev, eo, es⟩ := e
      dsimp only at g5
      subst g5
      rfl
    rw [bsI_self, he]
theorem getGoI_lay : ∀ (l acc : List Itm) (f : Nat), (∀ e ∈ l, GoodI e) → l.length ≤ f → getGoI f (layI l, 0) acc = (acc ++ l, ([], 0)) := by
  intro l
  induction l with
  | nil =>
    intro acc f _ _
    rw [List.append_nil]
    exact getGoI_stop _ _ _ (by simp [layI])
  | cons e r ih =>
    intro acc f h hf
    obtain ⟨f', rfl⟩ : ∃ f', f = f' + 1 := ⟨f - 1, by rw [List.length_cons] at hf; omega⟩
    have hne : layI (e :: r) ≠ [] := by
      rw [layI_cons]
      intro hh
      exact itmB_ne e (List.append_eq_nil_iff.1 hh).1
    rw [getGoI, if_pos ⟨rfl, hne⟩, layI_cons, getItm_itmB e _ (h e List.mem_cons_self), ih _ _ (fun u hu => h u (List.mem_cons_of_mem _ hu)) (by rw [List.length_cons] at hf; omega)]
    simp
/-- What is put is got. -/
theorem getI_put {l : List Itm} (h : (putI l).2 = 0) : getI (layI l) = (l, 0) := by
  obtain ⟨h1, _, h2, _⟩ := putI_good h
  have hg := getGoI_lay l [] ((layI l).length + 1) h1 (by have := layI_ge l; omega)
  rw [List.nil_append] at hg
  unfold getI
  rw [hg, if_pos ⟨rfl, h2⟩]
theorem getI_inv {b : List UInt8} (h : (getI b).2 = 0) : putI (getI b).1 = (b, 0) := by
  unfold getI at h ⊢
  split
  · rename_i hh; exact hh.2
  · rename_i hh; rw [if_neg hh] at h; cases h
theorem layI_prefix : ∀ (x l : List Itm) (t : List UInt8), (∀ e ∈ x, GoodI e) → (∀ e ∈ l, GoodI e) → layI l = layI x ++ t → x = l.take x.length ∧ x.length ≤ l.length ∧ layI (l.drop x.length) = t := by
  intro x
  induction x with
  | nil => intro l t _ _ h; exact ⟨rfl, Nat.zero_le _, by simpa [layI] using h⟩
  | cons e x ih =>
    intro l t hx hl h
    cases l with
    | nil =>
      rw [layI_cons, List.append_assoc] at h
      have h' : itmB e ++ (layI x ++ t) = [] := h.symm
      exact absurd (List.append_eq_nil_iff.1 h').1 (itmB_ne e)
    | cons a l =>
      rw [layI_cons, layI_cons, List.append_assoc] at h
      have g1 := getItm_itmB a (layI l) (hl a List.mem_cons_self)
      have g2 := getItm_itmB e (layI x ++ t) (hx e List.mem_cons_self)
      rw [h, g2] at g1
      injection g1 with e1 e2
      injection e2 with e2 _
      subst e1
      obtain ⟨i1, i2, i3⟩ := ih l t (fun u hu => hx u (List.mem_cons_of_mem _ hu)) (fun u hu => hl u (List.mem_cons_of_mem _ hu)) e2.symm
      refine ⟨?_, by rw [List.length_cons, List.length_cons]; omega, ?_⟩
      · rw [List.length_cons, List.take_succ_cons, ← i1]
      · rw [List.length_cons, List.drop_succ_cons]; exact i3
/-- Cut off, only whole children are got, and not all. -/
theorem getI_cut {l : List Itm} {cut : Nat} (h : (putI l).2 = 0) (hc : cut < (layI l).length) (hg : (getI ((layI l).take cut)).2 = 0) :
    (getI ((layI l).take cut)).1.length < l.length ∧ (getI ((layI l).take cut)).1 = l.take (getI ((layI l).take cut)).1.length := by
  obtain ⟨h1, _, _, _⟩ := putI_good h
  have hp := getI_inv hg
  obtain ⟨x, hx⟩ : ∃ x, x = (getI ((layI l).take cut)).1 := ⟨_, rfl⟩
  rw [← hx] at hp ⊢
  have hp2 : (putI x).2 = 0 := by rw [hp]
  obtain ⟨k1, _, k2, _⟩ := putI_good hp2
  rw [k2] at hp
  injection hp with hp _
  have hsplit : layI l = layI x ++ (layI l).drop cut := by rw [hp, List.take_append_drop]
  obtain ⟨i1, i2, i3⟩ := layI_prefix x l _ k1 h1 hsplit
  refine ⟨?_, i1⟩
  rcases Nat.lt_or_ge x.length l.length with h5 | h5
  · exact h5
  · rw [List.drop_eq_nil_of_le h5] at i3
    have : ((layI l).drop cut).length = 0 := by rw [← i3]; rfl
    rw [List.length_drop] at this
    omega
/-- With more behind, more items are got, and these stand ahead. -/
theorem getI_more {l : List Itm} {m : List UInt8} (h : (putI l).2 = 0) (hm : m ≠ []) (hg : (getI (layI l ++ m)).2 = 0) :
    l.length < (getI (layI l ++ m)).1.length ∧ l = (getI (layI l ++ m)).1.take l.length := by
  obtain ⟨h1, _, _, _⟩ := putI_good h
  have hp := getI_inv hg
  obtain ⟨x, hx⟩ : ∃ x, x = (getI (layI l ++ m)).1 := ⟨_, rfl⟩
  rw [← hx] at hp ⊢
  have hp2 : (putI x).2 = 0 := by rw [hp]
  obtain ⟨k1, _, k2, _⟩ := putI_good hp2
  rw [k2] at hp
  injection hp with hp _
  obtain ⟨i1, i2, i3⟩ := layI_prefix l x m h1 k1 hp
  refine ⟨?_, i1⟩
  rcases Nat.lt_or_ge l.length x.length with h5 | h5
  · exact h5
  · rw [List.drop_eq_nil_of_le h5] at i3
    exact absurd i3.symm hm
theorem getI_code (b : List UInt8) : (getI b).2 = 0 ∨ ((getI b).2 = 4 ∧ (getI b).1 = []) := by
  unfold getI
  split
  · exact .inl rfl
  · exact .inr ⟨rfl, rfl⟩
end
/-! ### The plain law of LeafFits: of items that fit, with one more, both parts fit. -/
section
open Go.RowKit
set_option linter.unusedVariables false
theorem risingI_cons (a : Itm) (r : List Itm) : RisingI (a :: r) ↔ (∀ e, r[0]? = some e → ltB a.key e.key = true) ∧ RisingI r := by
  constructor
  · intro h
    exact ⟨fun e he => h 0 a e rfl he, fun j x y hx hy => h (j + 1) x y hx hy⟩
  · rintro ⟨h1, h2⟩ j x y hx hy
    cases j with
    | zero =>
      have : a = x := by simpa using hx
      rw [← this]; exact h1 y hy
    | succ j => exact h2 j x y hx hy
theorem riseGoI_iff : ∀ (l : List Itm) (p : Option ByteArray), riseGoI p l = true ↔ (∀ e ∈ l, GoodI e) ∧ (∀ e, l[0]? = some e → stepI p e = true) ∧ RisingI l
  | [], p => by
    rw [riseGoI]
    simp [RisingI]
  | a :: r, p => by
    rw [riseGoI, Bool.and_eq_true, Bool.and_eq_true, riseGoI_iff r (some a.key), risingI_cons]
    constructor
    · rintro ⟨⟨h1, h2⟩, h3, h4, h5⟩
      refine ⟨fun e he => ?_, fun e he => ?_, fun e he => h4 e he, h5⟩
      · rcases List.mem_cons.1 he with rfl | he
        · exact h1
        · exact h3 e he
      · have : a = e := by simpa using he
        rw [← this]; exact h2
    · rintro ⟨h1, h2, h3, h4⟩
      exact ⟨⟨h1 a List.mem_cons_self, h2 a rfl⟩, fun e he => h1 e (List.mem_cons_of_mem _ he), fun e he => h3 e he, h4⟩
theorem riseI_iff (l : List Itm) : riseI l = true ↔ (∀ e ∈ l, GoodI e) ∧ RisingI l := by
  unfold riseI
  rw [riseGoI_iff]
  exact ⟨fun h => ⟨h.1, h.2.2⟩, fun h => ⟨h.1, fun e _ => rfl, h.2⟩⟩
theorem RisingI.take {l : List Itm} (h : RisingI l) (k : Nat) : RisingI (l.take k) := fun j a b ha hb => by
  rw [List.getElem?_take] at ha hb
  split at ha
  · split at hb
    · exact h j a b ha hb
    · cases hb
  · cases ha
theorem RisingI.drop {l : List Itm} (h : RisingI l) (k : Nat) : RisingI (l.drop k) := fun j a b ha hb => by
  rw [List.getElem?_drop] at ha hb
  exact h (k + j) a b ha hb
theorem insI_get (l : List Itm) (k : Nat) (x : Itm) (h : k ≤ l.length) (j : Nat) : (insI l k x)[j]? = if j < k then l[j]? else if j = k then some x else l[j - 1]? := by
  unfold insI
  have hl : (l.take k).length = k := by rw [List.length_take]; omega
  by_cases h1 : j < k
  · rw [if_pos h1, List.getElem?_append_left (by omega), List.getElem?_take, if_pos h1]
  · rw [if_neg h1, List.getElem?_append_right (by omega), hl]
    by_cases h2 : j = k
    · rw [if_pos h2, h2, Nat.sub_self]; rfl
    · rw [if_neg h2]
      obtain ⟨q, hq⟩ : ∃ q, j - k = q + 1 := ⟨j - k - 1, by omega⟩
      rw [hq, List.getElem?_cons_succ, List.getElem?_drop]
      congr 1
      omega
theorem setI_rising {l : List Itm} {x : Itm} {k : Nat} {is : Bool} (hr : RisingI l) (h : FindOkI l x.key k is) : RisingI (setI l k is x) := by
  obtain ⟨h0, h1, h2, h3⟩ := h
  unfold setI
  cases is with
  | true =>
    rw [if_pos rfl]
    obtain ⟨e, he, hk⟩ := h3.1 rfl
    have hkl := (List.getElem?_eq_some_iff.1 he).1
    intro j a b ha hb
    rw [List.getElem?_set] at ha hb
    have ha' : ∃ a', l[j]? = some a' ∧ a'.key = a.key := by
      split at ha
      · rename_i hj
        injection ha with ha
        subst hj
        exact ⟨e, he, by rw [← ha]; exact hk⟩
      · exact ⟨a, ha, rfl⟩
    have hb' : ∃ b', l[j + 1]? = some b' ∧ b'.key = b.key := by
      split at hb
      · rename_i hj
        injection hb with hb
        rw [← hj]
        exact ⟨e, he, by rw [← hb]; exact hk⟩
      · exact ⟨b, hb, rfl⟩
    obtain ⟨a', ha1, ha2⟩ := ha'
    obtain ⟨b', hb1, hb2⟩ := hb'
    rw [← ha2, ← hb2]
    exact hr j a' b' ha1 hb1
  | false =>
    rw [if_neg (by decide)]
    intro j a b ha hb
    rw [insI_get l k x h0] at ha hb
    by_cases g1 : j + 1 < k
    · rw [if_pos (by omega)] at ha
      rw [if_pos g1] at hb
      exact hr j a b ha hb
    · rw [if_neg g1] at hb
      by_cases g2 : j + 1 = k
      · rw [if_pos (by omega)] at ha
        rw [if_pos g2] at hb
        injection hb with hb
        rw [← hb]
        exact h1 a (by omega) (by rw [show k - 1 = j from by omega]; exact ha)
      · rw [if_neg g2] at hb
        rw [if_neg (by omega)] at ha
        rw [Nat.add_sub_cancel] at hb
        by_cases g3 : j = k
        · rw [if_pos g3] at ha
          injection ha with ha
          rw [← ha]
          rw [g3] at hb
          have hf := h2 b hb
          have hne : b.key ≠ x.key := fun he => by
            have := h3.2 ⟨b, hb, he⟩
            cases this
          have hle : leB x.key b.key = true := leB_not.2 hf
          unfold leB at hle
          rw [Bool.or_eq_true] at hle
          rcases hle with hle | hle
          · exact hle
          · exact absurd (eqB_iff.1 hle).symm hne
        · rw [if_neg g3] at ha
          have := hr (j - 1) a b ha (by rw [show j - 1 + 1 = j from by omega]; exact hb)
          exact this
theorem setI_mem {l : List Itm} {x e : Itm} {k : Nat} {is : Bool} (h : e ∈ setI l k is x) : e = x ∨ e ∈ l := by
  unfold setI at h
  split at h
  · rcases List.mem_or_eq_of_mem_set h with h | h
    · exact .inr h
    · exact .inl h
  · unfold insI at h
    rcases List.mem_append.1 h with h | h
    · exact .inr (List.mem_of_mem_take h)
    · rcases List.mem_cons.1 h with h | h
      · exact .inl h
      · exact .inr (List.mem_of_mem_drop h)
theorem setI_at {l : List Itm} {x : Itm} {k : Nat} {is : Bool} {key : ByteArray} (h : FindOkI l key k is) : (setI l k is x)[k]? = some x := by
  unfold setI
  cases is with
  | true =>
    obtain ⟨e, he, _⟩ := h.2.2.2.1 rfl
    have hkl := (List.getElem?_eq_some_iff.1 he).1
    rw [if_pos rfl, List.getElem?_set_self hkl]
  | false =>
    rw [if_neg (by decide), insI_get l k x h.1, if_neg (by omega), if_pos rfl]
theorem layI_sum (l : List Itm) : (layI l).length = (l.map fun e => (itmB e).length).sum := by
  induction l with
  | nil => rfl
  | cons a r ih => rw [layI_cons, List.length_append, List.map_cons, List.sum_cons, ih]
theorem setI_bytes {l : List Itm} {x : Itm} {k : Nat} {is : Bool} {key : ByteArray} (h : FindOkI l key k is) : (layI (setI l k is x)).length ≤ (layI l).length + (itmB x).length := by
  have hp : (layI l).length = (layI (l.take k)).length + (layI (l.drop k)).length := by
    rw [← List.length_append, ← layI_append, List.take_append_drop]
  unfold setI
  split
  · rename_i hb
    obtain ⟨e, he, _⟩ := h.2.2.2.1 hb
    have hkl := (List.getElem?_eq_some_iff.1 he).1
    rw [List.set_eq_take_append_cons_drop, if_pos hkl, layI_append, layI_cons, List.length_append, List.length_append]
    have h2 : l.drop k = e :: l.drop (k + 1) := by
      rw [List.drop_eq_getElem_cons hkl]
      congr 1
      exact (List.getElem?_eq_some_iff.1 he).2
    rw [h2, layI_cons, List.length_append] at hp
    omega
  · unfold insI
    rw [layI_append, layI_cons, List.length_append, List.length_append]
    omega
theorem var1_smallI (v : Int) (h1 : 0 ≤ v) (h2 : v < 64) : (var1 v).length = 1 := by
  have hz : zig v < 128 := by unfold zig; rw [if_pos h1]; omega
  unfold var1 varFuel
  rw [if_neg (by omega)]
  rfl
theorem itmB_small (e : Itm) (h : GoodI e) : (itmB e).length ≤ 103 := by
  obtain ⟨⟨h1, h2⟩, h3⟩ := (goodI_iff e).1 h
  have hl : e.key.data.toList.length = e.key.size := rfl
  have hv : e.vl.data.toList.length = e.vl.size := rfl
  have s1 := var1_smallI (e.key.data.toList.length : Int) (by omega) (by omega)
  have ht : (tailI e).length ≤ 61 := by
    unfold tailI
    split
    · rename_i h0
      rw [textsB_one]
      unfold textB
      rcases h3 with ⟨_, _, g3⟩ | ⟨g1, _⟩
      · have s2 := var1_smallI (e.vl.data.toList.length : Int) (by omega) (by omega)
        rw [List.length_append]
        omega
      · omega
    · have := vars_len [e.ov, e.sz]
      simp at this
      omega
  unfold itmB headI textB
  simp only [List.length_append, boolI_len]
  omega
/-- The first place behind which the bytes are too many. -/
theorem over_place (l : List Itm) (B : Nat) : ∀ n, B < (layI (l.take n)).length → ∃ j, j < n ∧ (layI (l.take j)).length ≤ B ∧ B < (layI (l.take (j + 1))).length := by
  intro n
  induction n with
  | zero => intro h; simp [layI] at h
  | succ n ih =>
    intro h
    by_cases h1 : B < (layI (l.take n)).length
    · obtain ⟨j, a, b, c⟩ := ih h1
      exact ⟨j, by omega, b, c⟩
    · exact ⟨n, by omega, by omega, h⟩
/-- Of items that are small enough both parts fit at some place. -/
theorem some_place {m : List Itm} (hg : ∀ e ∈ m, GoodI e) (h1 : 240 < (layI m).length) (h2 : (layI m).length ≤ 343) : ∃ j, 1 ≤ j ∧ j < m.length ∧ partI m j ≤ 240 := by
  obtain ⟨j, a, b, c⟩ := over_place m 240 m.length (by rw [List.take_of_length_le (Nat.le_refl _)]; exact h1)
  have hj : j < m.length := a
  obtain ⟨ej, hej⟩ : ∃ e, m[j]? = some e := ⟨_, List.getElem?_eq_getElem hj⟩
  have he := layI_take_succ m j ej hej
  have hs := itmB_small ej (hg _ (List.mem_of_getElem? hej))
  rw [he, List.length_append] at c
  have hp : (layI m).length = (layI (m.take j)).length + (layI (m.drop j)).length := by
    rw [← List.length_append, ← layI_append, List.take_append_drop]
  refine ⟨j, ?_, hj, ?_⟩
  · rcases Nat.eq_zero_or_pos j with h0 | h0
    · rw [h0] at c
      simp [layI] at c
      omega
    · exact h0
  · unfold partI
    omega
theorem putI_fits {l : List Itm} (h : riseI l = true) (hs : (layI l).length ≤ 240) : putI l = (layI l, 0) := by
  unfold putI
  rw [if_pos h, if_neg (by omega)]
theorem putI_long {l : List Itm} (h : riseI l = true) (hs : 240 < (layI l).length) : putI l = ([], 2) := by
  unfold putI
  rw [if_pos h, if_pos hs]
/-- Both parts fit. -/
theorem parts_fit {m : List Itm} {k : Nat} (hr : riseI m = true) (h1 : 240 < (layI m).length) (h2 : (layI m).length ≤ 343) (hk : SplitOkI m k) : (putI (m.take k)).2 = 0 ∧ (putI (m.drop k)).2 = 0 := by
  obtain ⟨hg, hri⟩ := (riseI_iff m).1 hr
  obtain ⟨j, a, b, c⟩ := some_place hg h1 h2
  have hle := hk.2.2.1 j a b
  have hp : partI m k ≤ 240 := by omega
  unfold partI at hp
  rw [putI_fits ((riseI_iff _).2 ⟨fun e he => hg e (List.mem_of_mem_take he), hri.take k⟩) (by omega), putI_fits ((riseI_iff _).2 ⟨fun e he => hg e (List.mem_of_mem_drop he), hri.drop k⟩) (by omega)]
  exact ⟨rfl, rfl⟩
end
/-! ### The plain law of LeafSets: in whatever order items are put in they stand alike. -/
section
open Go.RowKit
set_option linter.unusedVariables false
/-- Is there an item of that key? -/
def hasK (l : List Itm) (key : ByteArray) : Prop := ∃ e ∈ l, e.key = key
theorem RisingI.lt {l : List Itm} (h : RisingI l) : ∀ (d p : Nat) (a b : Itm), l[p]? = some a → l[p + d + 1]? = some b → ltB a.key b.key = true := by
  intro d
  induction d with
  | zero => intro p a b ha hb; exact h p a b ha hb
  | succ d ih =>
    intro p a b ha hb
    have hlt : p + d + 1 < l.length := by have := (List.getElem?_eq_some_iff.1 hb).1; omega
    have hm := ih p a l[p + d + 1] ha (List.getElem?_eq_getElem hlt)
    exact ltB_trans hm (h (p + d + 1) _ b (List.getElem?_eq_getElem hlt) hb)
theorem RisingI.lt' {l : List Itm} (h : RisingI l) {p q : Nat} {a b : Itm} (hpq : p < q) (ha : l[p]? = some a) (hb : l[q]? = some b) : ltB a.key b.key = true :=
  h.lt (q - p - 1) p a b ha (by rw [show p + (q - p - 1) + 1 = q from by omega]; exact hb)
theorem RisingI.head {a : Itm} {r : List Itm} (h : RisingI (a :: r)) : ∀ e ∈ r, ltB a.key e.key = true := fun e he => by
  obtain ⟨j, hj⟩ := List.getElem?_of_mem he
  exact h.lt' (p := 0) (q := j + 1) (by omega) rfl (by simpa using hj)
theorem hasK_find {l : List Itm} {key : ByteArray} {k : Nat} {is : Bool} (hr : RisingI l) (h : FindOkI l key k is) : hasK l key ↔ is = true := by
  constructor
  · rintro ⟨e, he, rfl⟩
    obtain ⟨j, hj⟩ := List.getElem?_of_mem he
    exact (findOkI_own hr hj h).2
  · intro hi
    obtain ⟨e, he, hk⟩ := h.2.2.2.1 hi
    exact ⟨e, List.mem_of_getElem? he, hk⟩
theorem setI_has {l : List Itm} {x : Itm} {k : Nat} {is : Bool} (h : FindOkI l x.key k is) (key : ByteArray) : hasK (setI l k is x) key ↔ key = x.key ∨ hasK l key := by
  unfold setI hasK
  cases is with
  | true =>
    rw [if_pos rfl]
    obtain ⟨e0, he0, hk0⟩ := h.2.2.2.1 rfl
    have hkl := (List.getElem?_eq_some_iff.1 he0).1
    constructor
    · rintro ⟨e, he, rfl⟩
      rcases List.mem_or_eq_of_mem_set he with he | he
      · exact .inr ⟨e, he, rfl⟩
      · exact .inl (by rw [he])
    · rintro (rfl | ⟨e, he, rfl⟩)
      · exact ⟨x, List.mem_of_getElem? (List.getElem?_set_self hkl), rfl⟩
      · obtain ⟨j, hj⟩ := List.getElem?_of_mem he
        by_cases hjk : k = j
        · subst hjk
          rw [he0] at hj
          injection hj with hj
          subst hj
          exact ⟨x, List.mem_of_getElem? (List.getElem?_set_self hkl), hk0.symm⟩
        · exact ⟨e, List.mem_of_getElem? (by rw [List.getElem?_set_ne hjk]; exact hj), rfl⟩
  | false =>
    rw [if_neg (by decide)]
    unfold insI
    constructor
    · rintro ⟨e, he, rfl⟩
      rcases List.mem_append.1 he with he | he
      · exact .inr ⟨e, List.mem_of_mem_take he, rfl⟩
      · rcases List.mem_cons.1 he with he | he
        · exact .inl (by rw [he])
        · exact .inr ⟨e, List.mem_of_mem_drop he, rfl⟩
    · rintro (rfl | ⟨e, he, rfl⟩)
      · exact ⟨x, by simp, rfl⟩
      · refine ⟨e, ?_, rfl⟩
        rw [← List.take_append_drop k l] at he
        rcases List.mem_append.1 he with he | he
        · exact List.mem_append.2 (.inl he)
        · exact List.mem_append.2 (.inr (List.mem_cons_of_mem _ he))
theorem delI_rising {l : List Itm} (h : RisingI l) (k : Nat) : RisingI (delI l k) := by
  intro j a b ha hb
  unfold delI at ha hb
  have get : ∀ (i : Nat) (c : Itm), (l.take k ++ l.drop (k + 1))[i]? = some c → ∃ p, l[p]? = some c ∧ ((i < k ∧ p = i) ∨ (k ≤ i ∧ p = i + 1) ∨ l.length ≤ k) := by
    intro i c hc
    by_cases hi : i < (l.take k).length
    · rw [List.getElem?_append_left hi, List.getElem?_take] at hc
      rw [List.length_take] at hi
      rw [if_pos (by omega)] at hc
      exact ⟨i, hc, .inl ⟨by omega, rfl⟩⟩
    · rw [List.getElem?_append_right (by omega), List.getElem?_drop] at hc
      rw [List.length_take] at hi
      rcases Nat.lt_or_ge k l.length with h1 | h1
      · rw [List.length_take, show k + 1 + (i - min k l.length) = i + 1 from by omega] at hc
        exact ⟨i + 1, hc, .inr (.inl ⟨by omega, rfl⟩)⟩
      · rw [List.getElem?_eq_none (by omega)] at hc
        cases hc
  obtain ⟨p, hp, hp2⟩ := get j a ha
  obtain ⟨q, hq, hq2⟩ := get (j + 1) b hb
  have hpl := (List.getElem?_eq_some_iff.1 hp).1
  have hql := (List.getElem?_eq_some_iff.1 hq).1
  by_cases hk : l.length ≤ k
  · have e1 : l.take k = l := List.take_of_length_le hk
    have e2 : l.drop (k + 1) = [] := List.drop_eq_nil_of_le (by omega)
    rw [e1, e2, List.append_nil] at ha hb
    exact h j a b ha hb
  · refine h.lt' (p := p) (q := q) ?_ hp hq
    rcases hp2 with ⟨_, rfl⟩ | ⟨_, rfl⟩ | hp2 <;> rcases hq2 with ⟨_, rfl⟩ | ⟨_, rfl⟩ | hq2 <;> omega
theorem takeI_rising {l : List Itm} (h : RisingI l) (k : Nat) (is : Bool) : RisingI (takeI l k is) := by
  unfold takeI
  split
  · exact delI_rising h k
  · exact h
theorem takeI_hasnt {l : List Itm} {key : ByteArray} {k : Nat} {is : Bool} (hr : RisingI l) (h : FindOkI l key k is) : ¬ hasK (takeI l k is) key := by
  unfold takeI
  cases is with
  | false =>
    rw [if_neg (by decide)]
    intro hh
    have := (hasK_find hr h).1 hh
    cases this
  | true =>
    rw [if_pos rfl]
    rintro ⟨e, he, rfl⟩
    obtain ⟨e0, he0, hk0⟩ := h.2.2.2.1 rfl
    unfold delI at he
    rcases List.mem_append.1 he with he | he
    · obtain ⟨j, hj⟩ := List.getElem?_of_mem he
      rw [List.getElem?_take] at hj
      split at hj
      · rename_i hjk
        have := hr.lt' hjk hj he0
        rw [hk0, ltB_irrefl] at this
        cases this
      · cases hj
    · obtain ⟨j, hj⟩ := List.getElem?_of_mem he
      rw [List.getElem?_drop] at hj
      have := hr.lt' (p := k) (q := k + 1 + j) (by omega) he0 hj
      rw [hk0, ltB_irrefl] at this
      cases this
theorem takeI_mem {l : List Itm} {e : Itm} {k : Nat} {is : Bool} (h : e ∈ takeI l k is) : e ∈ l := by
  unfold takeI delI at h
  split at h
  · rcases List.mem_append.1 h with h | h
    · exact List.mem_of_mem_take h
    · exact List.mem_of_mem_drop h
  · exact h
theorem takeI_len {l : List Itm} {key : ByteArray} {k : Nat} {is : Bool} (h : FindOkI l key k is) : (takeI l k is).length = if is = true then l.length - 1 else l.length := by
  unfold takeI
  cases is with
  | true =>
    obtain ⟨e0, he0, _⟩ := h.2.2.2.1 rfl
    rw [if_pos rfl, if_pos rfl, delI_len _ _ (List.getElem?_eq_some_iff.1 he0).1]
  | false => rfl
theorem rising_same : ∀ (a b : List Itm), RisingI a → RisingI b → (∀ key, hasK a key ↔ hasK b key) → a.map (·.key) = b.map (·.key)
  | [], [], _, _, _ => rfl
  | [], y :: b, _, _, h => by
    obtain ⟨e, he, _⟩ := (h y.key).2 ⟨y, List.mem_cons_self, rfl⟩
    cases he
  | x :: a, [], _, _, h => by
    obtain ⟨e, he, _⟩ := (h x.key).1 ⟨x, List.mem_cons_self, rfl⟩
    cases he
  | x :: a, y :: b, ha, hb, h => by
    have hx := ha.head
    have hy := hb.head
    have hxy : x.key = y.key := by
      obtain ⟨e, he, hek⟩ := (h x.key).1 ⟨x, List.mem_cons_self, rfl⟩
      obtain ⟨f, hf, hfk⟩ := (h y.key).2 ⟨y, List.mem_cons_self, rfl⟩
      rcases List.mem_cons.1 he with rfl | he
      · exact hek.symm
      · rcases List.mem_cons.1 hf with rfl | hf
        · exact hfk
        · have h1 := hy e he
          have h2 := hx f hf
          rw [hek] at h1
          rw [hfk] at h2
          rw [ltB_asymm h1] at h2
          cases h2
    have ht : ∀ key, hasK a key ↔ hasK b key := by
      intro key
      constructor
      · rintro ⟨e, he, rfl⟩
        obtain ⟨f, hf, hfk⟩ := (h e.key).1 ⟨e, List.mem_cons_of_mem _ he, rfl⟩
        rcases List.mem_cons.1 hf with rfl | hf
        · have := hx e he
          rw [← hfk, ← hxy, ltB_irrefl] at this
          cases this
        · exact ⟨f, hf, hfk⟩
      · rintro ⟨e, he, rfl⟩
        obtain ⟨f, hf, hfk⟩ := (h e.key).2 ⟨e, List.mem_cons_of_mem _ he, rfl⟩
        rcases List.mem_cons.1 hf with rfl | hf
        · have := hy e he
          rw [← hfk, hxy, ltB_irrefl] at this
          cases this
        · exact ⟨f, hf, hfk⟩
    rw [List.map_cons, List.map_cons, hxy, rising_same a b ((risingI_cons x a).1 ha).2 ((risingI_cons y b).1 hb).2 ht]
end
end Go.Proofs.YtmdidmllaldbaaaGreat
