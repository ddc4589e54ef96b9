/- The plain law of LogMerges. -/
import Derived.Test.YticlkfdcocdmaaaLogMP
namespace Go.Proofs.Yticlkfdcocdmaaa
open Go.RowKit
set_option linter.unusedVariables false
/-- Entries that follow each other have the indices one after the other. -/
theorem folB_ix : ∀ (l : List Ent) (p t : Int), folB p t l = true → -9223372036854775808 ≤ p → p + l.length ≤ 9223372036854775807 → ∀ (k : Nat) (e : Ent), l[k]? = some e → e.ix = p + k + 1 := by
  intro l
  induction l with
  | nil => intro p t _ _ _ k e h; simp at h
  | cons x r ih =>
    intro p t hf h1 h2 k e hk
    rw [List.length_cons] at h2
    rw [folB] at hf
    split at hf
    · cases hf
    · rename_i hh
      have hx : x.ix = wrap64 (p + 1) := Classical.byContradiction fun hc => hh (.inl hc)
      have hw : wrap64 (p + 1) = p + 1 := by unfold wrap64; omega
      rw [hw] at hx
      rcases k with _ | k
      · have : x = e := by simpa using hk
        subst this; rw [hx]; omega
      · have := ih x.ix x.tm hf (by omega) (by omega) k e (by simpa using hk)
        rw [this, hx]; omega
def Match (x : LogV) (e : Ent) : Prop := (termV x e.ix).2 = true ∧ (termV x e.ix).1 = e.tm
theorem scan_spec (x : LogV) (keep : Int) : ∀ (l : List Ent) (k F : Nat), scan x keep k 0 l = some F →
    (F = 0 ∧ ∀ e ∈ l, Match x e) ∨ ∃ f e, F = k + f + 1 ∧ l[f]? = some e ∧ (∀ j e', j < f → l[j]? = some e' → Match x e') ∧ ¬ ((termV x e.ix).2 = true ∧ e.ix ≤ keep) := by
  intro l
  induction l with
  | nil => intro k F h; simp [scan] at h; exact .inl ⟨h.symm, by simp⟩
  | cons e r ih =>
    intro k F h
    rw [scan] at h
    split at h
    · rename_i hm
      rcases ih _ _ h with ⟨h0, h1⟩ | ⟨f, e', h1, h2, h3, h4⟩
      · refine .inl ⟨h0, fun u hu => ?_⟩
        rcases List.mem_cons.1 hu with rfl | hu
        · exact hm
        · exact h1 u hu
      · refine .inr ⟨f + 1, e', by omega, by simpa using h2, fun j u hj hu => ?_, h4⟩
        rcases j with _ | j
        · have : e = u := by simpa using hu
          subst this; exact hm
        · exact h3 j u (by omega) (by simpa using hu)
    · split at h
      · cases h
      · rename_i hk
        rw [if_pos rfl] at h
        have := scan_pos x keep r _ _ _ (by omega) h
        exact .inr ⟨0, e, by omega, rfl, fun j _ hj => by omega, hk⟩
theorem scan_all (x : LogV) (keep : Int) : ∀ (l : List Ent) (k f : Nat), (∀ e ∈ l, Match x e) → scan x keep k f l = some f := by
  intro l
  induction l with
  | nil => intro k f _; rfl
  | cons e r ih =>
    intro k f h
    rw [scan]
    have hm := h e List.mem_cons_self
    unfold Match at hm
    rw [if_pos hm]
    exact ih _ _ fun u hu => h u (List.mem_cons_of_mem _ hu)
/-- A log from the start on. -/
def log0 (F : List Ent) : LogV := ⟨0, 0, F⟩
theorem term0 (F : List Ent) (p : Int) : termV (log0 F) p = if p = 0 then (0, true) else if 1 ≤ p ∧ p ≤ F.length then (((F[(p - 1).toNat]?).getD noEnt).tm, true) else (0, false) := by
  unfold termV atV log0
  dsimp only
  by_cases h0 : p = 0
  · rw [if_pos h0, if_pos h0]
  · rw [if_neg h0, if_neg h0]
    by_cases h : 1 ≤ p ∧ p ≤ F.length
    · rw [if_neg (by omega), if_pos h]
      have hk : (p - 1).toNat < F.length := by omega
      have e : (p - 0 - 1).toNat = (p - 1).toNat := by omega
      rw [e, List.getElem?_eq_getElem hk]
      rfl
    · rw [if_pos (by omega), if_neg h]
      rfl
theorem at0 (F : List Ent) (k : Nat) (e : Ent) (h : F[k]? = some e) : atV (log0 F) ((k : Int) + 1) = some e := by
  have hk : k < F.length := (List.getElem?_eq_some_iff.1 h).1
  unfold atV log0
  dsimp only
  rw [if_neg (by omega), show ((k : Int) + 1 - 0 - 1).toNat = k from by omega, h]
theorem last0 (F : List Ent) (n : Nat) (h : F.length = n) (hi : ∀ (k : Nat) (e : Ent), F[k]? = some e → e.ix = (k : Int) + 1) : (lastV (log0 F)).1 = n := by
  unfold lastV log0
  dsimp only
  rw [List.getLast?_eq_getElem?]
  rcases Nat.eq_zero_or_pos n with h0 | h0
  · have : F = [] := List.eq_nil_of_length_eq_zero (by omega)
    subst this; subst h0; rfl
  · obtain ⟨e, he⟩ : ∃ e, F[F.length - 1]? = some e := ⟨_, List.getElem?_eq_getElem (by omega)⟩
    rw [he]
    have := hi _ _ he
    show e.ix = n
    omega
/-- What LogMerges asks of a Merge. -/
structure MergeLaw (F l : List Ent) (prev term keep : Int) (r : LogV × Int × Bool) : Prop where
  base : r.1.base = 0
  range : r.2.2 = true → 0 ≤ prev ∧ prev ≤ F.length
  len : r.1.l.length ≤ F.length + l.length
  keeps : ∀ (k : Nat) e, F[k]? = some e → e.ix ≤ keep → ∃ y, atV r.1 e.ix = some y ∧ y.tm = e.tm
  no : r.2.2 = false → r.2.1 = 0 ∧ (lastV r.1).1 = F.length
  terms : r.2.2 = true → ∀ (k : Nat) e, l[k]? = some e → termV r.1 e.ix = (e.tm, true)
  last : r.2.2 = true → (r.2.1 = 0 ∧ (lastV r.1).1 = F.length) ∨ (0 < r.2.1 ∧ (lastV r.1).1 = prev + l.length)
  again : r.2.2 = true → mergeV r.1 prev term keep l = (r.1, 0, true)
theorem match_eq {x : LogV} {e : Ent} (h : Match x e) : termV x e.ix = (e.tm, true) := Prod.ext h.2 h.1
theorem mergeLaw (F l : List Ent) (prev term keep : Int) (hF : folB 0 0 F = true) (h1 : F.length ≤ 60) (h2 : l.length ≤ 60) : MergeLaw F l prev term keep (mergeV (log0 F) prev term keep l) := by
  have hi : ∀ (k : Nat) (e : Ent), F[k]? = some e → e.ix = (k : Int) + 1 := fun k e h => by
    have := folB_ix F 0 0 hF (by omega) (by omega) k e h; omega
  have hl0 := last0 F F.length rfl hi
  have keep0 : ∀ (k : Nat) e, F[k]? = some e → e.ix ≤ keep → ∃ y, atV (log0 F) e.ix = some y ∧ y.tm = e.tm := fun k e h _ => by
    rw [hi k e h]; exact ⟨e, at0 F k e h, rfl⟩
  have bad : MergeLaw F l prev term keep (log0 F, 0, false) :=
    ⟨rfl, (fun h => by cases h), by show F.length ≤ _; omega, keep0, fun _ => ⟨rfl, hl0⟩, (fun h => by cases h), (fun h => by cases h), (fun h => by cases h)⟩
  unfold mergeV
  by_cases hok : (termV (log0 F) prev).2 = true ∧ (termV (log0 F) prev).1 = term ∧ folB prev term l = true
  · rw [if_pos hok]
    obtain ⟨hp, ht, hfl⟩ := hok
    have hr := term_range hp
    have hr1 : 0 ≤ prev := hr.1
    have hr2 : prev ≤ F.length := by have := hr.2; change prev ≤ 0 + (F.length : Int) at this; omega
    have hil : ∀ (k : Nat) (e : Ent), l[k]? = some e → e.ix = prev + k + 1 := folB_ix l prev term hfl (by omega) (by omega)
    cases hs : scan (log0 F) keep 0 0 l with
    | none => exact bad
    | some R =>
      rcases scan_spec _ _ _ _ _ hs with ⟨rfl, hall⟩ | ⟨f, e, rfl, hef, hbef, hne⟩
      · show MergeLaw F l prev term keep (log0 F, 0, true)
        refine ⟨rfl, fun _ => ⟨hr1, hr2⟩, by show F.length ≤ _; omega, keep0, (fun h => by cases h), fun _ k e h => match_eq (hall e (List.mem_of_getElem? h)), fun _ => .inl ⟨rfl, hl0⟩, fun _ => ?_⟩
        show mergeV (log0 F) prev term keep l = _
        unfold mergeV
        rw [if_pos ⟨hp, ht, hfl⟩, hs]
        rfl
      · have hfl' : f < l.length := (List.getElem?_eq_some_iff.1 hef).1
        have hex : e.ix = prev + f + 1 := hil f e hef
        -- the place stands in the log or just behind it
        have hpf : prev + f ≤ F.length := by
          rcases Nat.eq_zero_or_pos f with h0 | h0
          · subst h0; omega
          · obtain ⟨e', he'⟩ : ∃ e', l[f - 1]? = some e' := ⟨_, List.getElem?_eq_getElem (by omega)⟩
            have hm := hbef (f - 1) e' (by omega) he'
            have hx := hil _ _ he'
            have := (term_range hm.1).2
            change e'.ix ≤ 0 + (F.length : Int) at this
            omega
        rw [show (0 + f + 1 : Nat) = f + 1 from by omega]
        show MergeLaw F l prev term keep (takeOf (log0 F) l f l[f]?)
        rw [hef]
        show MergeLaw F l prev term keep (log0 (F.take (e.ix - 0 - 1).toNat ++ l.drop f), e.ix, true)
        obtain ⟨P, hP⟩ : ∃ P : Nat, prev = P := ⟨prev.toNat, by omega⟩
        subst hP
        rw [show (e.ix - 0 - 1).toNat = P + f from by omega]
        obtain ⟨G, hG⟩ : ∃ G, G = F.take (P + f) ++ l.drop f := ⟨_, rfl⟩
        rw [← hG]
        have hGl : G.length = P + l.length := by rw [hG, List.length_append, List.length_take, List.length_drop]; omega
        have g1 : ∀ k, k < P + f → G[k]? = F[k]? := fun k hk => by
          rw [hG, List.getElem?_append_left (by rw [List.length_take]; omega), List.getElem?_take, if_pos hk]
        have g2 : ∀ k, P + f ≤ k → G[k]? = l[k - P]? := fun k hk => by
          rw [hG, List.getElem?_append_right (by rw [List.length_take]; omega), List.length_take, List.getElem?_drop]
          congr 1; omega
        have hGi : ∀ (k : Nat) (u : Ent), G[k]? = some u → u.ix = (k : Int) + 1 := fun k u hu => by
          by_cases hk : k < P + f
          · exact hi k u (by rw [← g1 k hk]; exact hu)
          · have := hil (k - P) u (by rw [← g2 k (by omega)]; exact hu)
            omega
        have tG : ∀ (k : Nat) u, G[k]? = some u → termV (log0 G) ((k : Int) + 1) = (u.tm, true) := fun k u hu => by
          have hk : k < G.length := (List.getElem?_eq_some_iff.1 hu).1
          rw [term0, if_neg (by omega), if_pos (by omega), show ((k : Int) + 1 - 1).toNat = k from by omega, hu]
          rfl
        have hterms : ∀ (k : Nat) u, l[k]? = some u → termV (log0 G) u.ix = (u.tm, true) := fun k u hu => by
          have hk : k < l.length := (List.getElem?_eq_some_iff.1 hu).1
          have hx := hil k u hu
          by_cases hkf : k < f
          · have hm := hbef k u hkf hu
            obtain ⟨v, hv⟩ : ∃ v, F[P + k]? = some v := ⟨_, List.getElem?_eq_getElem (by omega)⟩
            have h3 : termV (log0 F) u.ix = (v.tm, true) := by
              rw [hx, term0, if_neg (by omega), if_pos (by omega), show ((P : Int) + k + 1 - 1).toNat = P + k from by omega, hv]; rfl
            have h4 : v.tm = u.tm := by have := hm.2; rw [h3] at this; exact this
            rw [← h4, hx, show (P : Int) + k + 1 = ((P + k : Nat) : Int) + 1 from by omega]
            exact tG (P + k) v (by rw [g1 _ (by omega)]; exact hv)
          · rw [hx, show (P : Int) + k + 1 = ((P + k : Nat) : Int) + 1 from by omega]
            exact tG (P + k) u (by rw [g2 _ (by omega), show P + k - P = k from by omega]; exact hu)
        refine ⟨rfl, fun _ => ⟨hr1, hr2⟩, by show G.length ≤ _; omega, fun k u hu hk => ?_, (fun h => by cases h), fun _ => hterms, fun _ => .inr ⟨by show 0 < e.ix; omega, ?_⟩, fun _ => ?_⟩
        · have hx := hi k u hu
          have hkF : k < F.length := (List.getElem?_eq_some_iff.1 hu).1
          rw [hx]
          by_cases hkf : k < P + f
          · exact ⟨u, at0 G k u (by rw [g1 k hkf]; exact hu), rfl⟩
          · exfalso
            apply hne
            refine ⟨?_, by omega⟩
            rw [hex, term0, if_neg (by omega), if_pos (by omega)]
        · show (lastV (log0 G)).1 = _
          rw [last0 G (P + l.length) hGl hGi]; omega
        · show mergeV (log0 G) P term keep l = (log0 G, 0, true)
          have hpG : termV (log0 G) P = termV (log0 F) P := by
            rw [term0, term0]
            by_cases h0 : (P : Int) = 0
            · rw [if_pos h0, if_pos h0]
            · rw [if_neg h0, if_neg h0, if_pos (by omega), if_pos (by omega), show ((P : Int) - 1).toNat = P - 1 from by omega, g1 _ (by omega)]
          unfold mergeV
          rw [hpG, if_pos ⟨hp, ht, hfl⟩, scan_all (log0 G) keep l 0 0 (fun u hu => by
            obtain ⟨k, hk⟩ := List.getElem?_of_mem hu
            have := hterms k u hk
            exact ⟨by rw [this], by rw [this]⟩)]
          rfl
  · rw [if_neg hok]
    exact bad
end Go.Proofs.Yticlkfdcocdmaaa
