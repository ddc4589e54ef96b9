/- The plain bytes of entries and members, and how they are read again. -/
import Derived.Test.YtmdidmllaldbaaaGreatTextP
import Derived.Test.YtmdidmllaldbaaaGreatViewE
namespace Go.Proofs.YtmdidmllaldbaaaGreat
open Go.RowKit
set_option linter.unusedVariables false
def ent00 : Ent := ⟨0, 0, 0, ⟨#[]⟩⟩
def entB (e : Ent) : List UInt8 := vars [e.ix, e.tm, e.kd] ++ textB e.dt.data.toList
def entsB (l : List Ent) : List UInt8 := (l.map entB).flatten
def putB (l : List Ent) : List UInt8 := var1 l.length ++ entsB l
def getEnt (st : RSt) : Ent × RSt :=
  (⟨(rVar st).1, (rVar (rVar st).2).1, (rVar (rVar (rVar st).2).2).1, ⟨(rText 2200 (rVar (rVar (rVar st).2).2).2).1.toArray⟩⟩, (rText 2200 (rVar (rVar (rVar st).2).2).2).2)
def getLoop : Nat → RSt → List Ent → List Ent × RSt
  | 0, st, acc => (acc, st)
  | n + 1, st, acc => if st.2 ≠ 0 then (acc, st) else getLoop n (getEnt st).2 (acc ++ [(getEnt st).1])
def getAll (st : RSt) : List Ent × RSt :=
  if (getLoop (rCount 400 st).1.toNat (rCount 400 st).2 []).2.2 ≠ 0 then ([], (getLoop (rCount 400 st).1.toNat (rCount 400 st).2 []).2) else getLoop (rCount 400 st).1.toNat (rCount 400 st).2 []
def oneP (b : List UInt8) : Ent × Int :=
  if rEnd (getAll (b, 0)).2 ≠ 0 then (ent00, rEnd (getAll (b, 0)).2) else match (getAll (b, 0)).1 with | [e] => (e, 0) | _ => (ent00, 4)
theorem getLoop_off (n : Nat) (st : RSt) (acc : List Ent) (h : st.2 ≠ 0) : getLoop n st acc = (acc, st) := by
  cases n with
  | zero => rfl
  | succ n => rw [getLoop, if_pos h]
theorem getEnt_entB (e : Ent) (r : List UInt8) (h : EntOk e) : getEnt (entB e ++ r, 0) = if e.dt.size ≤ 2200 then (e, (r, 0)) else (⟨e.ix, e.tm, e.kd, ⟨#[]⟩⟩, (e.dt.data.toList ++ r, 2)) := by
  obtain ⟨⟨h1, h2⟩, ⟨h3, h4⟩, ⟨h5, h6⟩, h7⟩ := h
  have e0 : entB e ++ r = var1 e.ix ++ (var1 e.tm ++ (var1 e.kd ++ (textB e.dt.data.toList ++ r))) := by
    unfold entB
    rw [vars_three]
    simp [List.append_assoc]
  have e1 : rVar (entB e ++ r, 0) = (e.ix, (var1 e.tm ++ (var1 e.kd ++ (textB e.dt.data.toList ++ r)), 0)) := by rw [e0]; exact rVar_var1 _ _ h1 h2
  have e2 := rVar_var1 e.tm (var1 e.kd ++ (textB e.dt.data.toList ++ r)) h3 h4
  have e3 := rVar_var1 e.kd (textB e.dt.data.toList ++ r) h5 h6
  have hl : e.dt.data.toList.length = e.dt.size := rfl
  have e4 := rText_textB 2200 e.dt.data.toList r (by omega)
  unfold getEnt
  rw [e1]
  dsimp only
  rw [e2]
  dsimp only
  rw [e3]
  dsimp only
  rw [e4]
  by_cases hs : e.dt.size ≤ 2200
  · rw [if_pos hs, if_neg (by omega)]
  · rw [if_neg hs, if_pos (by omega)]
theorem entsB_cons (e : Ent) (l : List Ent) : entsB (e :: l) = entB e ++ entsB l := by simp [entsB]
theorem getLoop_good : ∀ (l acc : List Ent) (r : List UInt8), (∀ e ∈ l, EntOk e ∧ e.dt.size ≤ 2200) → getLoop l.length (entsB l ++ r, 0) acc = (acc ++ l, (r, 0)) := by
  intro l
  induction l with
  | nil => intro acc r _; simp [getLoop, entsB]
  | cons e l ih =>
    intro acc r h
    obtain ⟨h1, h2⟩ := h e List.mem_cons_self
    have hg := getEnt_entB e (entsB l ++ r) h1
    rw [if_pos h2] at hg
    rw [List.length_cons, getLoop, entsB_cons, List.append_assoc, hg, if_neg (by simp), ih _ _ (fun u hu => h u (List.mem_cons_of_mem _ hu))]
    simp
theorem getLoop_bad : ∀ (l acc : List Ent) (r : List UInt8), (∀ e ∈ l, EntOk e) → (∃ e ∈ l, 2200 < e.dt.size) → (getLoop l.length (entsB l ++ r, 0) acc).2.2 = 2 := by
  intro l
  induction l with
  | nil => intro acc r _ h; obtain ⟨e, he, _⟩ := h; cases he
  | cons e l ih =>
    intro acc r h hx
    have h1 := h e List.mem_cons_self
    have hg := getEnt_entB e (entsB l ++ r) h1
    rw [List.length_cons, getLoop, entsB_cons, List.append_assoc, hg, if_neg (by simp)]
    by_cases hs : e.dt.size ≤ 2200
    · rw [if_pos hs]
      refine ih _ _ (fun u hu => h u (List.mem_cons_of_mem _ hu)) ?_
      obtain ⟨u, hu, hl⟩ := hx
      rcases List.mem_cons.1 hu with rfl | hu
      · omega
      · exact ⟨u, hu, hl⟩
    · rw [if_neg hs, getLoop_off _ _ _ (by simp)]
/-- What is put is got. -/
theorem getAll_good (l : List Ent) (r : List UInt8) (hl : l.length ≤ 400) (h : ∀ e ∈ l, EntOk e ∧ e.dt.size ≤ 2200) : getAll (putB l ++ r, 0) = (l, (r, 0)) := by
  have hc : rCount 400 (putB l ++ r, 0) = ((l.length : Int), (entsB l ++ r, 0)) := by
    unfold putB
    rw [List.append_assoc, rCount_var1 _ _ _ (by omega) (by omega), if_neg (by omega)]
  unfold getAll
  rw [hc]
  dsimp only
  rw [Int.toNat_natCast, getLoop_good l [] r h, if_neg (by simp)]
  rfl
theorem getAll_bad (l : List Ent) (r : List UInt8) (hn : l.length ≤ 9223372036854775807) (h : ∀ e ∈ l, EntOk e) (hb : 400 < l.length ∨ ∃ e ∈ l, 2200 < e.dt.size) : (getAll (putB l ++ r, 0)).1 = [] ∧ (getAll (putB l ++ r, 0)).2.2 = 2 := by
  by_cases hl : 400 < l.length
  · have hc : rCount 400 (putB l ++ r, 0) = (0, (entsB l ++ r, 2)) := by
      unfold putB
      rw [List.append_assoc, rCount_var1 _ _ _ (by omega) (by omega), if_pos (by omega)]
    unfold getAll
    rw [hc]
    exact ⟨rfl, rfl⟩
  · have hx : ∃ e ∈ l, 2200 < e.dt.size := hb.resolve_left hl
    have hc : rCount 400 (putB l ++ r, 0) = ((l.length : Int), (entsB l ++ r, 0)) := by
      unfold putB
      rw [List.append_assoc, rCount_var1 _ _ _ (by omega) (by omega), if_neg (by omega)]
    have hg := getLoop_bad l [] r h hx
    unfold getAll
    rw [hc]
    dsimp only
    rw [Int.toNat_natCast, if_pos (by rw [hg]; decide)]
    exact ⟨rfl, hg⟩
theorem short_or (l : List Ent) (hg : ¬ (l.length ≤ 400 ∧ ∀ e ∈ l, e.dt.size ≤ 2200)) : 400 < l.length ∨ ∃ e ∈ l, 2200 < e.dt.size := by
  by_cases hl : 400 < l.length
  · exact .inl hl
  · refine .inr (Classical.byContradiction fun hc => hg ⟨by omega, fun e he => ?_⟩)
    rcases Nat.lt_or_ge 2200 e.dt.size with h2 | h2
    · exact absurd ⟨e, he, h2⟩ hc
    · exact h2
theorem oneP_bad (l : List Ent) (hn : l.length ≤ 9223372036854775807) (h : ∀ e ∈ l, EntOk e) (hg : ¬ (l.length ≤ 400 ∧ ∀ e ∈ l, e.dt.size ≤ 2200)) : oneP (putB l) = (ent00, 2) := by
  have := (getAll_bad l [] hn h (short_or l hg)).2
  rw [List.append_nil] at this
  have hr : rEnd (getAll (putB l, 0)).2 = 2 := by unfold rEnd; rw [this, if_pos (by decide)]
  unfold oneP
  rw [hr, if_pos (by decide)]
theorem oneP_one (e : Ent) (h : EntOk e) (hg : e.dt.size ≤ 2200) : oneP (putB [e]) = (e, 0) := by
  have := getAll_good [e] [] (by simp) (fun u hu => by have : u = e := by simpa using hu
                                                       subst this; exact ⟨h, hg⟩)
  rw [List.append_nil] at this
  unfold oneP
  rw [this]
  rfl
theorem oneP_many (l : List Ent) (h : ∀ e ∈ l, EntOk e) (h1 : l.length ≠ 1) (hg : l.length ≤ 400 ∧ ∀ e ∈ l, e.dt.size ≤ 2200) : oneP (putB l) = (ent00, 4) := by
  have := getAll_good l [] hg.1 (fun e he => ⟨h e he, hg.2 e he⟩)
  rw [List.append_nil] at this
  unfold oneP
  rw [this]
  rcases l with _ | ⟨a, _ | ⟨b, l⟩⟩
  · rfl
  · simp at h1
  · rfl
/-! ### Members -/
def memB (l : List Int) : List UInt8 := var1 l.length ++ vars l
def getMs : Nat → RSt → List Int → List Int × RSt
  | 0, st, acc => (acc, st)
  | n + 1, st, acc => getMs n (rVar st).2 (acc ++ [(rVar st).1])
def memsOk (last : Int) : List Int → Bool
  | [] => true
  | v :: r => if v ≤ last ∨ 64 < v then false else memsOk v r
def memP (b : List UInt8) : List Int × RSt := getMs (rCount 9 (b, 0)).1.toNat (rCount 9 (b, 0)).2 []
def membersP (b : List UInt8) : List Int × Int :=
  if rEnd (memP b).2 ≠ 0 then ([], rEnd (memP b).2) else if (memP b).1 = [] then ([], 4) else if memsOk 0 (memP b).1 then ((memP b).1, 0) else ([], 4)
theorem getMs_vars : ∀ (l acc : List Int) (r : List UInt8), (∀ v ∈ l, -9223372036854775808 ≤ v ∧ v ≤ 9223372036854775807) → getMs l.length (vars l ++ r, 0) acc = (acc ++ l, (r, 0)) := by
  intro l
  induction l with
  | nil => intro acc r _; simp [getMs, vars]
  | cons v l ih =>
    intro acc r h
    have hv := h v List.mem_cons_self
    have e : vars (v :: l) ++ r = var1 v ++ (vars l ++ r) := by simp [vars]
    rw [List.length_cons, getMs, e, rVar_var1 v _ hv.1 hv.2, ih _ _ (fun u hu => h u (List.mem_cons_of_mem _ hu))]
    simp
theorem membersP_put (l : List Int) (hn : l.length ≤ 9223372036854775807) (h : ∀ v ∈ l, -9223372036854775808 ≤ v ∧ v ≤ 9223372036854775807) :
    membersP (memB l) = if l.length ≤ 9 then (if l = [] then ([], 4) else if memsOk 0 l then (l, 0) else ([], 4)) else ([], 2) := by
  have hc : rCount 9 (memB l, 0) = if 9 < (l.length : Int) then (0, (vars l, 2)) else ((l.length : Int), (vars l, 0)) := rCount_var1 9 l.length (vars l) (by omega) (by omega)
  by_cases hl : l.length ≤ 9
  · rw [if_neg (by omega)] at hc
    unfold membersP memP
    rw [hc, if_pos hl]
    dsimp only
    have hg := getMs_vars l [] [] h
    rw [List.append_nil, List.nil_append] at hg
    rw [Int.toNat_natCast, hg]
    have hr : rEnd (([], 0) : RSt) = 0 := rfl
    rw [hr, if_neg (by decide)]
  · rw [if_pos (by omega)] at hc
    unfold membersP memP
    rw [hc, if_neg hl]
    rfl
end Go.Proofs.YtmdidmllaldbaaaGreat
