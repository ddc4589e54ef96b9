/- The plain law of LeafSets: in whatever order items are put in they stand alike. -/
import Derived.Test.YtopefaeemkemiaaFitsPI
namespace Go.Proofs.Ytopefaeemkemiaa
open Go.RowKit
set_option linter.unusedVariables false
/-- Is there an item of that key? -/
def hasK (l : List Itm) (key : ByteArray) : Prop := ∃ e ∈ l, e.key = key
theorem RisingI.lt {l : List Itm} (h : RisingI l) : ∀ (d p : Nat) (a b : Itm), l[p]? = some a → l[p + d + 1]? = some b → ltB a.key b.key = true := by
  intro d
  induction d with
  | zero => intro p a b ha hb; exact h p a b ha hb
  | succ d ih =>
    intro p a b ha hb
    have hlt : p + d + 1 < l.length := by have := (List.getElem?_eq_some_iff.1 hb).1; omega
    have hm := ih p a l[p + d + 1] ha (List.getElem?_eq_getElem hlt)
    exact ltB_trans hm (h (p + d + 1) _ b (List.getElem?_eq_getElem hlt) hb)
theorem RisingI.lt' {l : List Itm} (h : RisingI l) {p q : Nat} {a b : Itm} (hpq : p < q) (ha : l[p]? = some a) (hb : l[q]? = some b) : ltB a.key b.key = true :=
  h.lt (q - p - 1) p a b ha (by rw [show p + (q - p - 1) + 1 = q from by omega]; exact hb)
theorem RisingI.head {a : Itm} {r : List Itm} (h : RisingI (a :: r)) : ∀ e ∈ r, ltB a.key e.key = true := fun e he => by
  obtain ⟨j, hj⟩ := List.getElem?_of_mem he
  exact h.lt' (p := 0) (q := j + 1) (by omega) rfl (by simpa using hj)
theorem hasK_find {l : List Itm} {key : ByteArray} {k : Nat} {is : Bool} (hr : RisingI l) (h : FindOkI l key k is) : hasK l key ↔ is = true := by
  constructor
  · rintro ⟨e, he, rfl⟩
    obtain ⟨j, hj⟩ := List.getElem?_of_mem he
    exact (findOkI_own hr hj h).2
  · intro hi
    obtain ⟨e, he, hk⟩ := h.2.2.2.1 hi
    exact ⟨e, List.mem_of_getElem? he, hk⟩
theorem setI_has {l : List Itm} {x : Itm} {k : Nat} {is : Bool} (h : FindOkI l x.key k is) (key : ByteArray) : hasK (setI l k is x) key ↔ key = x.key ∨ hasK l key := by
  unfold setI hasK
  cases is with
  | true =>
    rw [if_pos rfl]
    obtain ⟨e0, he0, hk0⟩ := h.2.2.2.1 rfl
    have hkl := (List.getElem?_eq_some_iff.1 he0).1
    constructor
    · rintro ⟨e, he, rfl⟩
      rcases List.mem_or_eq_of_mem_set he with he | he
      · exact .inr ⟨e, he, rfl⟩
      · exact .inl (by rw [he])
    · rintro (rfl | ⟨e, he, rfl⟩)
      · exact ⟨x, List.mem_of_getElem? (List.getElem?_set_self hkl), rfl⟩
      · obtain ⟨j, hj⟩ := List.getElem?_of_mem he
        by_cases hjk : k = j
        · subst hjk
          rw [he0] at hj
          injection hj with hj
          subst hj
          exact ⟨x, List.mem_of_getElem? (List.getElem?_set_self hkl), hk0.symm⟩
        · exact ⟨e, List.mem_of_getElem? (by rw [List.getElem?_set_ne hjk]; exact hj), rfl⟩
  | false =>
    rw [if_neg (by decide)]
    unfold insI
    constructor
    · rintro ⟨e, he, rfl⟩
      rcases List.mem_append.1 he with he | he
      · exact .inr ⟨e, List.mem_of_mem_take he, rfl⟩
      · rcases List.mem_cons.1 he with he | he
        · exact .inl (by rw [he])
        · exact .inr ⟨e, List.mem_of_mem_drop he, rfl⟩
    · rintro (rfl | ⟨e, he, rfl⟩)
      · exact ⟨x, by simp, rfl⟩
      · refine ⟨e, ?_, rfl⟩
        rw [← List.take_append_drop k l] at he
        rcases List.mem_append.1 he with he | he
        · exact List.mem_append.2 (.inl he)
        · exact List.mem_append.2 (.inr (List.mem_cons_of_mem _ he))
theorem delI_rising {l : List Itm} (h : RisingI l) (k : Nat) : RisingI (delI l k) := by
  intro j a b ha hb
  unfold delI at ha hb
  have get : ∀ (i : Nat) (c : Itm), (l.take k ++ l.drop (k + 1))[i]? = some c → ∃ p, l[p]? = some c ∧ ((i < k ∧ p = i) ∨ (k ≤ i ∧ p = i + 1) ∨ l.length ≤ k) := by
    intro i c hc
    by_cases hi : i < (l.take k).length
    · rw [List.getElem?_append_left hi, List.getElem?_take] at hc
      rw [List.length_take] at hi
      rw [if_pos (by omega)] at hc
      exact ⟨i, hc, .inl ⟨by omega, rfl⟩⟩
    · rw [List.getElem?_append_right (by omega), List.getElem?_drop] at hc
      rw [List.length_take] at hi
      rcases Nat.lt_or_ge k l.length with h1 | h1
      · rw [List.length_take, show k + 1 + (i - min k l.length) = i + 1 from by omega] at hc
        exact ⟨i + 1, hc, .inr (.inl ⟨by omega, rfl⟩)⟩
      · rw [List.getElem?_eq_none (by omega)] at hc
        cases hc
  obtain ⟨p, hp, hp2⟩ := get j a ha
  obtain ⟨q, hq, hq2⟩ := get (j + 1) b hb
  have hpl := (List.getElem?_eq_some_iff.1 hp).1
  have hql := (List.getElem?_eq_some_iff.1 hq).1
  by_cases hk : l.length ≤ k
  · have e1 : l.take k = l := List.take_of_length_le hk
    have e2 : l.drop (k + 1) = [] := List.drop_eq_nil_of_le (by omega)
    rw [e1, e2, List.append_nil] at ha hb
    exact h j a b ha hb
  · refine h.lt' (p := p) (q := q) ?_ hp hq
    rcases hp2 with ⟨_, rfl⟩ | ⟨_, rfl⟩ | hp2 <;> rcases hq2 with ⟨_, rfl⟩ | ⟨_, rfl⟩ | hq2 <;> omega
theorem takeI_rising {l : List Itm} (h : RisingI l) (k : Nat) (is : Bool) : RisingI (takeI l k is) := by
  unfold takeI
  split
  · exact delI_rising h k
  · exact h
theorem takeI_hasnt {l : List Itm} {key : ByteArray} {k : Nat} {is : Bool} (hr : RisingI l) (h : FindOkI l key k is) : ¬ hasK (takeI l k is) key := by
  unfold takeI
  cases is with
  | false =>
    rw [if_neg (by decide)]
    intro hh
    have := (hasK_find hr h).1 hh
    cases this
  | true =>
    rw [if_pos rfl]
    rintro ⟨e, he, rfl⟩
    obtain ⟨e0, he0, hk0⟩ := h.2.2.2.1 rfl
    unfold delI at he
    rcases List.mem_append.1 he with he | he
    · obtain ⟨j, hj⟩ := List.getElem?_of_mem he
      rw [List.getElem?_take] at hj
      split at hj
      · rename_i hjk
        have := hr.lt' hjk hj he0
        rw [hk0, ltB_irrefl] at this
        cases this
      · cases hj
    · obtain ⟨j, hj⟩ := List.getElem?_of_mem he
      rw [List.getElem?_drop] at hj
      have := hr.lt' (p := k) (q := k + 1 + j) (by omega) he0 hj
      rw [hk0, ltB_irrefl] at this
      cases this
theorem takeI_mem {l : List Itm} {e : Itm} {k : Nat} {is : Bool} (h : e ∈ takeI l k is) : e ∈ l := by
  unfold takeI delI at h
  split at h
  · rcases List.mem_append.1 h with h | h
    · exact List.mem_of_mem_take h
    · exact List.mem_of_mem_drop h
  · exact h
theorem takeI_len {l : List Itm} {key : ByteArray} {k : Nat} {is : Bool} (h : FindOkI l key k is) : (takeI l k is).length = if is = true then l.length - 1 else l.length := by
  unfold takeI
  cases is with
  | true =>
    obtain ⟨e0, he0, _⟩ := h.2.2.2.1 rfl
    rw [if_pos rfl, if_pos rfl, delI_len _ _ (List.getElem?_eq_some_iff.1 he0).1]
  | false => rfl
theorem rising_same : ∀ (a b : List Itm), RisingI a → RisingI b → (∀ key, hasK a key ↔ hasK b key) → a.map (·.key) = b.map (·.key)
  | [], [], _, _, _ => rfl
  | [], y :: b, _, _, h => by
    obtain ⟨e, he, _⟩ := (h y.key).2 ⟨y, List.mem_cons_self, rfl⟩
    cases he
  | x :: a, [], _, _, h => by
    obtain ⟨e, he, _⟩ := (h x.key).1 ⟨x, List.mem_cons_self, rfl⟩
    cases he
  | x :: a, y :: b, ha, hb, h => by
    have hx := ha.head
    have hy := hb.head
    have hxy : x.key = y.key := by
      obtain ⟨e, he, hek⟩ := (h x.key).1 ⟨x, List.mem_cons_self, rfl⟩
      obtain ⟨f, hf, hfk⟩ := (h y.key).2 ⟨y, List.mem_cons_self, rfl⟩
      rcases List.mem_cons.1 he with rfl | he
      · exact hek.symm
      · rcases List.mem_cons.1 hf with rfl | hf
        · exact hfk
        · have h1 := hy e he
          have h2 := hx f hf
          rw [hek] at h1
          rw [hfk] at h2
          rw [ltB_asymm h1] at h2
          cases h2
    have ht : ∀ key, hasK a key ↔ hasK b key := by
      intro key
      constructor
      · rintro ⟨e, he, rfl⟩
        obtain ⟨f, hf, hfk⟩ := (h e.key).1 ⟨e, List.mem_cons_of_mem _ he, rfl⟩
        rcases List.mem_cons.1 hf with rfl | hf
        · have := hx e he
          rw [← hfk, ← hxy, ltB_irrefl] at this
          cases this
        · exact ⟨f, hf, hfk⟩
      · rintro ⟨e, he, rfl⟩
        obtain ⟨f, hf, hfk⟩ := (h e.key).2 ⟨e, List.mem_cons_of_mem _ he, rfl⟩
        rcases List.mem_cons.1 hf with rfl | hf
        · have := hy e he
          rw [← hfk, hxy, ltB_irrefl] at this
          cases this
        · exact ⟨f, hf, hfk⟩
    rw [List.map_cons, List.map_cons, hxy, rising_same a b ((risingI_cons x a).1 ha).2 ((risingI_cons y b).1 hb).2 ht]
end Go.Proofs.Ytopefaeemkemiaa
