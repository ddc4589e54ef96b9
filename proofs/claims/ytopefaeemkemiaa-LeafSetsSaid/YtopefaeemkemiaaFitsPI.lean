/- The plain law of LeafFits: of items that fit, with one more, both parts fit. -/
import Derived.Test.YtopefaeemkemiaaGetPI
import Derived.Test.YtopefaeemkemiaaAliveI
namespace Go.Proofs.Ytopefaeemkemiaa
open Go.RowKit
set_option linter.unusedVariables false
theorem risingI_cons (a : Itm) (r : List Itm) : RisingI (a :: r) ↔ (∀ e, r[0]? = some e → ltB a.key e.key = true) ∧ RisingI r := by
  constructor
  · intro h
    exact ⟨fun e he => h 0 a e rfl he, fun j x y hx hy => h (j + 1) x y hx hy⟩
  · rintro ⟨h1, h2⟩ j x y hx hy
    cases j with
    | zero =>
      have : a = x := by simpa using hx
      rw [← this]; exact h1 y hy
    | succ j => exact h2 j x y hx hy
theorem riseGoI_iff : ∀ (l : List Itm) (p : Option ByteArray), riseGoI p l = true ↔ (∀ e ∈ l, GoodI e) ∧ (∀ e, l[0]? = some e → stepI p e = true) ∧ RisingI l
  | [], p => by
    rw [riseGoI]
    simp [RisingI]
  | a :: r, p => by
    rw [riseGoI, Bool.and_eq_true, Bool.and_eq_true, riseGoI_iff r (some a.key), risingI_cons]
    constructor
    · rintro ⟨⟨h1, h2⟩, h3, h4, h5⟩
      refine ⟨fun e he => ?_, fun e he => ?_, fun e he => h4 e he, h5⟩
      · rcases List.mem_cons.1 he with rfl | he
        · exact h1
        · exact h3 e he
      · have : a = e := by simpa using he
        rw [← this]; exact h2
    · rintro ⟨h1, h2, h3, h4⟩
      exact ⟨⟨h1 a List.mem_cons_self, h2 a rfl⟩, fun e he => h1 e (List.mem_cons_of_mem _ he), fun e he => h3 e he, h4⟩
theorem riseI_iff (l : List Itm) : riseI l = true ↔ (∀ e ∈ l, GoodI e) ∧ RisingI l := by
  unfold riseI
  rw [riseGoI_iff]
  exact ⟨fun h => ⟨h.1, h.2.2⟩, fun h => ⟨h.1, fun e _ => rfl, h.2⟩⟩
theorem RisingI.take {l : List Itm} (h : RisingI l) (k : Nat) : RisingI (l.take k) := fun j a b ha hb => by
  rw [List.getElem?_take] at ha hb
  split at ha
  · split at hb
    · exact h j a b ha hb
    · cases hb
  · cases ha
theorem RisingI.drop {l : List Itm} (h : RisingI l) (k : Nat) : RisingI (l.drop k) := fun j a b ha hb => by
  rw [List.getElem?_drop] at ha hb
  exact h (k + j) a b ha hb
theorem insI_get (l : List Itm) (k : Nat) (x : Itm) (h : k ≤ l.length) (j : Nat) : (insI l k x)[j]? = if j < k then l[j]? else if j = k then some x else l[j - 1]? := by
  unfold insI
  have hl : (l.take k).length = k := by rw [List.length_take]; omega
  by_cases h1 : j < k
  · rw [if_pos h1, List.getElem?_append_left (by omega), List.getElem?_take, if_pos h1]
  · rw [if_neg h1, List.getElem?_append_right (by omega), hl]
    by_cases h2 : j = k
    · rw [if_pos h2, h2, Nat.sub_self]; rfl
    · rw [if_neg h2]
      obtain ⟨q, hq⟩ : ∃ q, j - k = q + 1 := ⟨j - k - 1, by omega⟩
      rw [hq, List.getElem?_cons_succ, List.getElem?_drop]
      congr 1
      omega
theorem setI_rising {l : List Itm} {x : Itm} {k : Nat} {is : Bool} (hr : RisingI l) (h : FindOkI l x.key k is) : RisingI (setI l k is x) := by
  obtain ⟨h0, h1, h2, h3⟩ := h
  unfold setI
  cases is with
  | true =>
    rw [if_pos rfl]
    obtain ⟨e, he, hk⟩ := h3.1 rfl
    have hkl := (List.getElem?_eq_some_iff.1 he).1
    intro j a b ha hb
    rw [List.getElem?_set] at ha hb
    have ha' : ∃ a', l[j]? = some a' ∧ a'.key = a.key := by
      split at ha
      · rename_i hj
        injection ha with ha
        subst hj
        exact ⟨e, he, by rw [← ha]; exact hk⟩
      · exact ⟨a, ha, rfl⟩
    have hb' : ∃ b', l[j + 1]? = some b' ∧ b'.key = b.key := by
      split at hb
      · rename_i hj
        injection hb with hb
        rw [← hj]
        exact ⟨e, he, by rw [← hb]; exact hk⟩
      · exact ⟨b, hb, rfl⟩
    obtain ⟨a', ha1, ha2⟩ := ha'
    obtain ⟨b', hb1, hb2⟩ := hb'
    rw [← ha2, ← hb2]
    exact hr j a' b' ha1 hb1
  | false =>
    rw [if_neg (by decide)]
    intro j a b ha hb
    rw [insI_get l k x h0] at ha hb
    by_cases g1 : j + 1 < k
    · rw [if_pos (by omega)] at ha
      rw [if_pos g1] at hb
      exact hr j a b ha hb
    · rw [if_neg g1] at hb
      by_cases g2 : j + 1 = k
      · rw [if_pos (by omega)] at ha
        rw [if_pos g2] at hb
        injection hb with hb
        rw [← hb]
        exact h1 a (by omega) (by rw [show k - 1 = j from by omega]; exact ha)
      · rw [if_neg g2] at hb
        rw [if_neg (by omega)] at ha
        rw [Nat.add_sub_cancel] at hb
        by_cases g3 : j = k
        · rw [if_pos g3] at ha
          injection ha with ha
          rw [← ha]
          rw [g3] at hb
          have hf := h2 b hb
          have hne : b.key ≠ x.key := fun he => by
            have := h3.2 ⟨b, hb, he⟩
            cases this
          have hle : leB x.key b.key = true := leB_not.2 hf
          unfold leB at hle
          rw [Bool.or_eq_true] at hle
          rcases hle with hle | hle
          · exact hle
          · exact absurd (eqB_iff.1 hle).symm hne
        · rw [if_neg g3] at ha
          have := hr (j - 1) a b ha (by rw [show j - 1 + 1 = j from by omega]; exact hb)
          exact this
theorem setI_mem {l : List Itm} {x e : Itm} {k : Nat} {is : Bool} (h : e ∈ setI l k is x) : e = x ∨ e ∈ l := by
  unfold setI at h
  split at h
  · rcases List.mem_or_eq_of_mem_set h with h | h
    · exact .inr h
    · exact .inl h
  · unfold insI at h
    rcases List.mem_append.1 h with h | h
    · exact .inr (List.mem_of_mem_take h)
    · rcases List.mem_cons.1 h with h | h
      · exact .inl h
      · exact .inr (List.mem_of_mem_drop h)
theorem setI_at {l : List Itm} {x : Itm} {k : Nat} {is : Bool} {key : ByteArray} (h : FindOkI l key k is) : (setI l k is x)[k]? = some x := by
  unfold setI
  cases is with
  | true =>
    obtain ⟨e, he, _⟩ := h.2.2.2.1 rfl
    have hkl := (List.getElem?_eq_some_iff.1 he).1
    rw [if_pos rfl, List.getElem?_set_self hkl]
  | false =>
    rw [if_neg (by decide), insI_get l k x h.1, if_neg (by omega), if_pos rfl]
theorem layI_sum (l : List Itm) : (layI l).length = (l.map fun e => (itmB e).length).sum := by
  induction l with
  | nil => rfl
  | cons a r ih => rw [layI_cons, List.length_append, List.map_cons, List.sum_cons, ih]
theorem setI_bytes {l : List Itm} {x : Itm} {k : Nat} {is : Bool} {key : ByteArray} (h : FindOkI l key k is) : (layI (setI l k is x)).length ≤ (layI l).length + (itmB x).length := by
  have hp : (layI l).length = (layI (l.take k)).length + (layI (l.drop k)).length := by
    rw [← List.length_append, ← layI_append, List.take_append_drop]
  unfold setI
  split
  · rename_i hb
    obtain ⟨e, he, _⟩ := h.2.2.2.1 hb
    have hkl := (List.getElem?_eq_some_iff.1 he).1
    rw [List.set_eq_take_append_cons_drop, if_pos hkl, layI_append, layI_cons, List.length_append, List.length_append]
    have h2 : l.drop k = e :: l.drop (k + 1) := by
      rw [List.drop_eq_getElem_cons hkl]
      congr 1
      exact (List.getElem?_eq_some_iff.1 he).2
    rw [h2, layI_cons, List.length_append] at hp
    omega
  · unfold insI
    rw [layI_append, layI_cons, List.length_append, List.length_append]
    omega
theorem var1_smallI (v : Int) (h1 : 0 ≤ v) (h2 : v < 64) : (var1 v).length = 1 := by
  have hz : zig v < 128 := by unfold zig; rw [if_pos h1]; omega
  unfold var1 varFuel
  rw [if_neg (by omega)]
  rfl
theorem itmB_small (e : Itm) (h : GoodI e) : (itmB e).length ≤ 103 := by
  obtain ⟨⟨h1, h2⟩, h3⟩ := (goodI_iff e).1 h
  have hl : e.key.data.toList.length = e.key.size := rfl
  have hv : e.vl.data.toList.length = e.vl.size := rfl
  have s1 := var1_smallI (e.key.data.toList.length : Int) (by omega) (by omega)
  have ht : (tailI e).length ≤ 61 := by
    unfold tailI
    split
    · rename_i h0
      rw [textsB_one]
      unfold textB
      rcases h3 with ⟨_, _, g3⟩ | ⟨g1, _⟩
      · have s2 := var1_smallI (e.vl.data.toList.length : Int) (by omega) (by omega)
        rw [List.length_append]
        omega
      · omega
    · have := vars_len [e.ov, e.sz]
      simp at this
      omega
  unfold itmB headI textB
  simp only [List.length_append, boolI_len]
  omega
/-- The first place behind which the bytes are too many. -/
theorem over_place (l : List Itm) (B : Nat) : ∀ n, B < (layI (l.take n)).length → ∃ j, j < n ∧ (layI (l.take j)).length ≤ B ∧ B < (layI (l.take (j + 1))).length := by
  intro n
  induction n with
  | zero => intro h; simp [layI] at h
  | succ n ih =>
    intro h
    by_cases h1 : B < (layI (l.take n)).length
    · obtain ⟨j, a, b, c⟩ := ih h1
      exact ⟨j, by omega, b, c⟩
    · exact ⟨n, by omega, by omega, h⟩
/-- Of items that are small enough both parts fit at some place. -/
theorem some_place {m : List Itm} (hg : ∀ e ∈ m, GoodI e) (h1 : 240 < (layI m).length) (h2 : (layI m).length ≤ 343) : ∃ j, 1 ≤ j ∧ j < m.length ∧ partI m j ≤ 240 := by
  obtain ⟨j, a, b, c⟩ := over_place m 240 m.length (by rw [List.take_of_length_le (Nat.le_refl _)]; exact h1)
  have hj : j < m.length := a
  obtain ⟨ej, hej⟩ : ∃ e, m[j]? = some e := ⟨_, List.getElem?_eq_getElem hj⟩
  have he := layI_take_succ m j ej hej
  have hs := itmB_small ej (hg _ (List.mem_of_getElem? hej))
  rw [he, List.length_append] at c
  have hp : (layI m).length = (layI (m.take j)).length + (layI (m.drop j)).length := by
    rw [← List.length_append, ← layI_append, List.take_append_drop]
  refine ⟨j, ?_, hj, ?_⟩
  · rcases Nat.eq_zero_or_pos j with h0 | h0
    · rw [h0] at c
      simp [layI] at c
      omega
    · exact h0
  · unfold partI
    omega
theorem putI_fits {l : List Itm} (h : riseI l = true) (hs : (layI l).length ≤ 240) : putI l = (layI l, 0) := by
  unfold putI
  rw [if_pos h, if_neg (by omega)]
theorem putI_long {l : List Itm} (h : riseI l = true) (hs : 240 < (layI l).length) : putI l = ([], 2) := by
  unfold putI
  rw [if_pos h, if_pos hs]
/-- Both parts fit. -/
theorem parts_fit {m : List Itm} {k : Nat} (hr : riseI m = true) (h1 : 240 < (layI m).length) (h2 : (layI m).length ≤ 343) (hk : SplitOkI m k) : (putI (m.take k)).2 = 0 ∧ (putI (m.drop k)).2 = 0 := by
  obtain ⟨hg, hri⟩ := (riseI_iff m).1 hr
  obtain ⟨j, a, b, c⟩ := some_place hg h1 h2
  have hle := hk.2.2.1 j a b
  have hp : partI m k ≤ 240 := by omega
  unfold partI at hp
  rw [putI_fits ((riseI_iff _).2 ⟨fun e he => hg e (List.mem_of_mem_take he), hri.take k⟩) (by omega), putI_fits ((riseI_iff _).2 ⟨fun e he => hg e (List.mem_of_mem_drop he), hri.drop k⟩) (by omega)]
  exact ⟨rfl, rfl⟩
end Go.Proofs.Ytopefaeemkemiaa
