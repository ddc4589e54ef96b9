/- The plain law of BranchFits: of children that fit, with one more, both parts fit. -/
import Derived.Test.YtegiibpdkioocaaGetPC
import Derived.Test.YtegiibpdkioocaaReplP
import Derived.Test.YtegiibpdkioocaaRiseC
import Derived.Test.YtegiibpdkioocaaSplitC
namespace Go.Proofs.Ytegiibpdkioocaa
open Go.RowKit
set_option linter.unusedVariables false
def Rising (l : List Chd) : Prop := ∀ (j : Nat) (a b : Chd), l[j]? = some a → l[j + 1]? = some b → ltB a.key b.key = true
theorem okC_iff (e : Chd) : okC e = true ↔ GoodC e := by
  unfold okC GoodC
  simp
theorem stepC_some (q : ByteArray) (e : Chd) : stepC (some q) e = true ↔ ltB q e.key = true := by
  unfold stepC
  rw [Bool.not_eq_true', not_leB]
theorem rising_cons (a : Chd) (r : List Chd) : Rising (a :: r) ↔ (∀ e, r[0]? = some e → ltB a.key e.key = true) ∧ Rising r := by
  constructor
  · intro h
    exact ⟨fun e he => h 0 a e rfl he, fun j x y hx hy => h (j + 1) x y hx hy⟩
  · rintro ⟨h1, h2⟩ j x y hx hy
    cases j with
    | zero =>
      have : a = x := by simpa using hx
      rw [← this]; exact h1 y hy
    | succ j => exact h2 j x y hx hy
theorem rightGo_iff : ∀ (l : List Chd) (p : Option ByteArray), rightGo p l = true ↔ (∀ e ∈ l, GoodC e) ∧ (∀ e, l[0]? = some e → stepC p e = true) ∧ Rising l
  | [], p => by
    rw [rightGo]
    simp [Rising]
  | a :: r, p => by
    rw [rightGo, Bool.and_eq_true, Bool.and_eq_true, rightGo_iff r (some a.key), okC_iff, rising_cons]
    constructor
    · rintro ⟨⟨h1, h2⟩, h3, h4, h5⟩
      refine ⟨fun e he => ?_, fun e he => ?_, fun e he => (stepC_some _ _).1 (h4 e he), h5⟩
      · rcases List.mem_cons.1 he with rfl | he
        · exact h1
        · exact h3 e he
      · have : a = e := by simpa using he
        rw [← this]; exact h2
    · rintro ⟨h1, h2, h3, h4⟩
      exact ⟨⟨h1 a List.mem_cons_self, h2 a rfl⟩, fun e he => h1 e (List.mem_cons_of_mem _ he), fun e he => (stepC_some _ _).2 (h3 e he), h4⟩
theorem rightC_iff (l : List Chd) : rightC l = true ↔ l ≠ [] ∧ (∀ e ∈ l, GoodC e) ∧ (∀ e, l[0]? = some e → e.key = ⟨#[]⟩) ∧ Rising l := by
  unfold rightC
  rw [Bool.and_eq_true, rightGo_iff]
  have hn : (!l.isEmpty) = true ↔ l ≠ [] := by cases l <;> simp
  have hs : ∀ e : Chd, stepC none e = true ↔ e.key = ⟨#[]⟩ := fun e => eqB_iff
  rw [hn]
  constructor
  · rintro ⟨⟨h1, h2, h3⟩, h4⟩
    exact ⟨h4, h1, fun e he => (hs e).1 (h2 e he), h3⟩
  · rintro ⟨h4, h1, h2, h3⟩
    exact ⟨⟨h1, fun e he => (hs e).2 (h2 e he), h3⟩, h4⟩
theorem Rising.lt {l : List Chd} (h : Rising l) : ∀ (d p : Nat) (a b : Chd), l[p]? = some a → l[p + d + 1]? = some b → ltB a.key b.key = true := by
  intro d
  induction d with
  | zero => intro p a b ha hb; exact h p a b ha hb
  | succ d ih =>
    intro p a b ha hb
    have hlt : p + d + 1 < l.length := by have := (List.getElem?_eq_some_iff.1 hb).1; omega
    have hm := ih p a l[p + d + 1] ha (List.getElem?_eq_getElem hlt)
    exact ltB_trans hm (h (p + d + 1) _ b (List.getElem?_eq_getElem hlt) hb)
theorem Rising.lt' {l : List Chd} (h : Rising l) {p q : Nat} {a b : Chd} (hpq : p < q) (ha : l[p]? = some a) (hb : l[q]? = some b) : ltB a.key b.key = true :=
  h.lt (q - p - 1) p a b ha (by rw [show p + (q - p - 1) + 1 = q from by omega]; exact hb)
/-- Where a child's own key stands. -/
theorem find_own {l : List Chd} {k k' : Nat} {e : Chd} (hr : Rising l) (he : l[k]? = some e) (h : FindOk l e.key k') : k' = k := by
  have hk := (List.getElem?_eq_some_iff.1 he).1
  obtain ⟨_, h1, h2, h3⟩ := h
  have hk' := h1 (by omega)
  rcases Nat.lt_trichotomy k' k with hlt | heq | hgt
  · have hl1 : k' + 1 < l.length := by omega
    have hf := h3 l[k' + 1] (List.getElem?_eq_getElem hl1)
    rw [not_leB] at hf
    by_cases hk1 : k' + 1 = k
    · subst hk1
      rw [List.getElem?_eq_getElem hl1] at he
      injection he with he
      rw [he, ltB_irrefl] at hf
      cases hf
    · have := hr.lt' (p := k' + 1) (q := k) (by omega) (List.getElem?_eq_getElem hl1) he
      have h5 := ltB_asymm this
      rw [hf] at h5
      cases h5
  · exact heq
  · have hf := h2 l[k'] (by omega) (List.getElem?_eq_getElem hk')
    rw [leB_not] at hf
    have := hr.lt' hgt he (List.getElem?_eq_getElem hk')
    rw [this] at hf
    cases hf
theorem clear0_bytes (l : List Chd) : (layB (clear0 l)).length ≤ (layB l).length := by
  cases l with
  | nil => exact Nat.le_refl _
  | cons e r =>
    show (layB (⟨⟨#[]⟩, e.pg⟩ :: r)).length ≤ _
    rw [layB_cons, layB_cons, List.length_append, List.length_append]
    have h1 : (chdB ⟨⟨#[]⟩, e.pg⟩).length = 1 + (var1 e.pg).length := by
      unfold chdB textB
      rw [List.length_append, List.length_append]
      show (var1 ((0 : Nat) : Int)).length + 0 + _ = _
      rw [show (var1 ((0 : Nat) : Int)).length = 1 from by decide]
    have h2 : 1 + (var1 e.pg).length ≤ (chdB e).length := by
      have := List.length_pos_iff.2 (var1_neC (e.key.data.toList.length : Int))
      unfold chdB textB
      rw [List.length_append, List.length_append]
      omega
    omega
/-- What grows by small steps passes every place nearly. -/
theorem mid_step (f : Nat → Nat) (h0 : f 0 = 0) : ∀ N, (∀ k, k < N → f (k + 1) ≤ f k + 60) → 120 ≤ f N → ∃ j, 1 ≤ j ∧ j < N ∧ 60 ≤ f j ∧ f j < 120 := by
  intro N
  induction N with
  | zero => intro _ h; omega
  | succ N ih =>
    intro hs h
    have h1 := hs N (by omega)
    by_cases hN : 120 ≤ f N
    · obtain ⟨j, a, b, c, d⟩ := ih (fun k hk => hs k (by omega)) hN
      exact ⟨j, a, by omega, c, d⟩
    · refine ⟨N, ?_, by omega, by omega, by omega⟩
      rcases Nat.eq_zero_or_pos N with rfl | hp
      · omega
      · exact hp
theorem split_small {m : List Chd} {k : Nat} (hg : ∀ e ∈ m, GoodC e) (h1 : 240 < (layB m).length) (h2 : (layB m).length ≤ 300) (hk : SplitOk m k) : (layB (m.take k)).length ≤ 240 ∧ (layB (m.drop k)).length ≤ 240 := by
  obtain ⟨j, a, b, c, d⟩ := mid_step (fun i => (layB (m.take i)).length) (by simp [layB]) m.length (fun i hi => by
    show (layB (m.take (i + 1))).length ≤ (layB (m.take i)).length + 60
    have he : m[i]? = some m[i] := List.getElem?_eq_getElem hi
    rw [layB_take_succ m i _ he, List.length_append]
    have h5 := chdB_len m[i]
    have h6 := (hg m[i] (List.getElem_mem _)).2.2
    omega) (by show 120 ≤ (layB (m.take m.length)).length; rw [List.take_length]; omega)
  have h3 := hk.2.2 j a b
  have e : layB m = layB (m.take j) ++ layB (m.drop j) := by rw [← layB_append, List.take_append_drop]
  have e2 : (layB m).length = (layB (m.take j)).length + (layB (m.drop j)).length := by rw [← List.length_append, ← e]
  unfold partC at h3
  omega
theorem putC_fits {l : List Chd} (h : rightC l = true) (hl : (layB l).length ≤ 240) : ((putC l).2 == 0) = true := by
  unfold putC
  rw [if_pos h, if_neg (by omega)]
  rfl
theorem part_fits {m : List Chd} {k : Nat} (h : rightC m = true) (h1 : 1 ≤ k) (hk : k < m.length) (ha : (layB (m.take k)).length ≤ 240) (hb : (layB (m.drop k)).length ≤ 240) :
    ((putC (m.take k)).2 == 0) = true ∧ ((putC (clear0 (m.drop k))).2 == 0) = true := by
  obtain ⟨r1, r2, r3, r4⟩ := (rightC_iff m).1 h
  constructor
  · refine putC_fits ((rightC_iff _).2 ⟨?_, fun e he => r2 e (List.mem_of_mem_take he), fun e he => r3 e ?_, fun j a b hx hy => r4 j a b ?_ ?_⟩) ha
    · intro hn
      have := congrArg List.length hn
      rw [List.length_take, List.length_nil] at this
      omega
    · rw [List.getElem?_take] at he
      split at he
      · exact he
      · cases he
    · rw [List.getElem?_take] at hx
      split at hx
      · exact hx
      · cases hx
    · rw [List.getElem?_take] at hy
      split at hy
      · exact hy
      · cases hy
  · obtain ⟨e0, r, hd⟩ : ∃ e0 r, m.drop k = e0 :: r := by
      cases hh : m.drop k with
      | nil =>
        have := congrArg List.length hh
        rw [List.length_drop, List.length_nil] at this
        omega
      | cons a b => exact ⟨a, b, rfl⟩
    have hmem : ∀ e ∈ m.drop k, GoodC e := fun e he => r2 e (List.mem_of_mem_drop he)
    have hris : Rising (m.drop k) := fun j a b hx hy => r4 (k + j) a b (by rw [List.getElem?_drop] at hx; exact hx) (by rw [List.getElem?_drop] at hy; exact hy)
    have hcb := clear0_bytes (m.drop k)
    rw [hd] at hmem hris hb hcb ⊢
    obtain ⟨s1, s2⟩ := (rising_cons e0 r).1 hris
    have hg0 := hmem e0 List.mem_cons_self
    refine putC_fits ((rightC_iff _).2 ⟨by simp [clear0], fun e he => ?_, fun e he => ?_, (rising_cons _ _).2 ⟨fun e he => ?_, s2⟩⟩) (by omega)
    · rcases List.mem_cons.1 he with rfl | he
      · exact ⟨hg0.1, hg0.2.1, by show 0 ≤ 40; omega⟩
      · exact hmem e (List.mem_cons_of_mem _ he)
    · have : (⟨⟨#[]⟩, e0.pg⟩ : Chd) = e := by simpa [clear0] using he
      rw [← this]
    · have h5 := s1 e he
      rw [ltB_emp]
      cases h6 : eqB e.key ⟨#[]⟩ with
      | false => rfl
      | true =>
        rw [eqB_iff] at h6
        rw [h6, lt_emp] at h5
        cases h5
/-- The children with one more. -/
theorem more_right {l : List Chd} {i : Nat} {x e : Chd} (h : rightC l = true) (hi : l[i]? = some e) (hx : GoodC x) (hri : Rises (replC l i [e, x]) (replC l i [e, x]).length) (h1 : ∀ a, (replC l i [e, x])[1]? = some a → a.key ≠ ⟨#[]⟩) : rightC (replC l i [e, x]) = true := by
  obtain ⟨r1, r2, r3, r4⟩ := (rightC_iff l).1 h
  have hil := (List.getElem?_eq_some_iff.1 hi).1
  have hlen := replC_len l i [e, x] hil
  have hl2 : (replC l i [e, x]).length = l.length + 1 := by rw [hlen]; show i + 2 + _ = _; omega
  have hgood : ∀ u ∈ l.take i ++ [e, x] ++ l.drop (i + 1), GoodC u := by
    intro u hu
    rw [List.mem_append, List.mem_append] at hu
    rcases hu with (hu | hu) | hu
    · exact r2 u (List.mem_of_mem_take hu)
    · have hu2 : u = e ∨ u = x := by simpa using hu
      rcases hu2 with rfl | rfl
      · exact r2 u (List.mem_of_getElem? hi)
      · exact hx
    · exact r2 u (List.mem_of_mem_drop hu)
  have h0k : ∀ u, (replC l i [e, x])[0]? = some u → u.key = ⟨#[]⟩ := by
    intro u hu
    unfold replC at hu
    rw [clear0_get0] at hu
    cases hh : (l.take i ++ [e, x] ++ l.drop (i + 1))[0]? with
    | none => rw [hh] at hu; cases hu
    | some v => rw [hh] at hu; injection hu with hu; rw [← hu]
  refine (rightC_iff _).2 ⟨fun hn => by rw [hn] at hl2; simp at hl2, fun u hu => ?_, h0k, fun j a b ha hb => ?_⟩
  · unfold replC at hu
    cases hL : l.take i ++ [e, x] ++ l.drop (i + 1) with
    | nil => rw [hL] at hu; cases hu
    | cons v r =>
      rw [hL] at hu hgood
      rcases List.mem_cons.1 hu with rfl | hu
      · have := hgood v List.mem_cons_self
        exact ⟨this.1, this.2.1, by show 0 ≤ 40; omega⟩
      · exact hgood u (List.mem_cons_of_mem _ hu)
  · cases j with
    | zero =>
      rw [h0k a ha, ltB_emp]
      cases h6 : eqB b.key ⟨#[]⟩ with
      | false => rfl
      | true => rw [eqB_iff] at h6; exact absurd h6 (h1 b hb)
    | succ j =>
      have hbl := (List.getElem?_eq_some_iff.1 hb).1
      exact hri (j + 1) a b (by omega) (by omega) ha hb
theorem more_bytes {l : List Chd} {i : Nat} {x e : Chd} (hi : l[i]? = some e) (hx : GoodC x) (hl : (layB l).length ≤ 240) : (layB (replC l i [e, x])).length ≤ 300 := by
  have h1 := clear0_bytes (l.take i ++ [e, x] ++ l.drop (i + 1))
  have hil := (List.getElem?_eq_some_iff.1 hi).1
  have e1 : layB l = layB (l.take i) ++ (chdB e ++ layB (l.drop (i + 1))) := by
    have : l = l.take i ++ (e :: l.drop (i + 1)) := by
      have h2 : l.drop i = e :: l.drop (i + 1) := by
        rw [List.drop_eq_getElem_cons hil]
        congr 1
        exact (List.getElem?_eq_some_iff.1 hi).2
      rw [← h2, List.take_append_drop]
    rw [← layB_cons, ← layB_append, ← this]
  have e2 : (layB (l.take i ++ [e, x] ++ l.drop (i + 1))).length = (layB l).length + (chdB x).length := by
    rw [layB_append, layB_append, layB_cons, layB_cons, e1]
    simp only [List.length_append]
    show _ + (_ + (_ + (layB []).length)) + _ = _
    rw [show (layB []).length = 0 from rfl]
    omega
  have h3 := chdB_len x
  have h4 := hx.2.2
  show (layB (clear0 _)).length ≤ 300
  omega
end Go.Proofs.Ytegiibpdkioocaa
