/- The order of texts: the walk of arboretumref1.Less, and the order's plain laws. -/
import Derived.Test.YtmdidmllaldbaaaGreatBase
import Derived.Test.YtmdidmllaldbaaaGreatChecked
import Derived.Laws.Cover1
import Derived.Deep.QuietTactic
import Derived.BigQuiet
namespace Go.Proofs.YtmdidmllaldbaaaGreat
open Go.RowKit
set_option linter.unusedVariables false
/-- The order of bytes, as the program's '<' has it. -/
def ltB (a b : ByteArray) : Bool := Op.bytesLess a.toList b.toList
def eqB (a b : ByteArray) : Bool := a.toList == b.toList
def leB (a b : ByteArray) : Bool := ltB a b || eqB a b
theorem less_irrefl : ∀ x : List UInt8, Op.bytesLess x x = false
  | [] => rfl
  | a :: x => by
    rw [Op.bytesLess, less_irrefl x]
    have : ¬ a < a := by rw [UInt8.lt_iff_toNat_lt]; omega
    simp [this]
theorem less_trans : ∀ x y z : List UInt8, Op.bytesLess x y = true → Op.bytesLess y z = true → Op.bytesLess x z = true
  | _, _, [], _, h => by simp [Op.bytesLess] at h
  | [], _, c :: z, _, _ => rfl
  | a :: x, [], c :: z, h, _ => by simp [Op.bytesLess] at h
  | a :: x, b :: y, c :: z, h1, h2 => by
    have ih := less_trans x y z
    simp only [Op.bytesLess, Bool.or_eq_true, Bool.and_eq_true, decide_eq_true_eq, beq_iff_eq] at h1 h2 ⊢
    rw [UInt8.lt_iff_toNat_lt] at h1 h2 ⊢
    rcases h1 with h1 | ⟨rfl, h1⟩
    · rcases h2 with h2 | ⟨rfl, h2⟩
      · exact .inl (by omega)
      · exact .inl h1
    · rcases h2 with h2 | ⟨rfl, h2⟩
      · exact .inl h2
      · exact .inr ⟨rfl, ih h1 h2⟩
theorem less_total : ∀ x y : List UInt8, Op.bytesLess x y = true ∨ x = y ∨ Op.bytesLess y x = true
  | [], [] => .inr (.inl rfl)
  | [], b :: y => .inl rfl
  | a :: x, [] => .inr (.inr rfl)
  | a :: x, b :: y => by
    have ih := less_total x y
    simp only [Op.bytesLess, Bool.or_eq_true, Bool.and_eq_true, decide_eq_true_eq, beq_iff_eq]
    simp only [UInt8.lt_iff_toNat_lt]
    rcases (show a.toNat < b.toNat ∨ a.toNat = b.toNat ∨ b.toNat < a.toNat by omega) with h | h | h
    · exact .inl (.inl h)
    · have hab : a = b := UInt8.toNat_inj.1 h
      subst hab
      rcases ih with h1 | h1 | h1
      · exact .inl (.inr ⟨rfl, h1⟩)
      · exact .inr (.inl (by rw [h1]))
      · exact .inr (.inr (.inr ⟨rfl, h1⟩))
    · exact .inr (.inr (.inl h))
theorem eqB_iff {a b : ByteArray} : eqB a b = true ↔ a = b := by
  unfold eqB
  rw [beq_iff_eq, ByteArray.toList_eq, ByteArray.toList_eq]
  exact ⟨fun h => bytes_ext h, fun h => by rw [h]⟩
theorem ltB_irrefl (a : ByteArray) : ltB a a = false := less_irrefl _
theorem ltB_trans {a b c : ByteArray} (h1 : ltB a b = true) (h2 : ltB b c = true) : ltB a c = true := less_trans _ _ _ h1 h2
theorem ltB_asymm {a b : ByteArray} (h : ltB a b = true) : ltB b a = false := by
  cases h2 : ltB b a with
  | false => rfl
  | true =>
    have h3 := ltB_trans h h2
    rw [ltB_irrefl] at h3
    cases h3
/-- What is not at most b is above b. -/
theorem not_leB {a b : ByteArray} : leB a b = false ↔ ltB b a = true := by
  unfold leB
  constructor
  · intro h
    rw [Bool.or_eq_false_iff] at h
    rcases less_total a.toList b.toList with h1 | h1 | h1
    · exact absurd h1 (by unfold ltB at h; rw [h.1]; decide)
    · exact absurd h1 (by unfold eqB at h; intro h2; rw [h2] at h; simp at h)
    · exact h1
  · intro h
    rw [Bool.or_eq_false_iff]
    refine ⟨ltB_asymm h, ?_⟩
    cases h2 : eqB a b with
    | false => rfl
    | true =>
      rw [eqB_iff] at h2
      subst h2
      rw [ltB_irrefl] at h
      cases h
theorem leB_not {a b : ByteArray} : leB a b = true ↔ ltB b a = false := by
  constructor
  · intro h
    cases h2 : ltB b a with
    | false => rfl
    | true => rw [← not_leB, h] at h2; cases h2
  · intro h
    cases h2 : leB a b with
    | true => rfl
    | false => rw [not_leB, h] at h2; cases h2
theorem ltB_emp (a : ByteArray) : ltB ⟨#[]⟩ a = !(eqB a ⟨#[]⟩) := by
  unfold ltB eqB
  rw [ByteArray.toList_eq, ByteArray.toList_eq]
  cases a.data.toList <;> rfl
theorem lt_emp (a : ByteArray) : ltB a ⟨#[]⟩ = false := by
  unfold ltB
  rw [ByteArray.toList_eq, ByteArray.toList_eq]
  cases a.data.toList <;> rfl
/-- From the first place on at which they differ. -/
theorem less_drop : ∀ (k : Nat) (x y : List UInt8), x.take k = y.take k → k ≤ x.length → k ≤ y.length → Op.bytesLess x y = Op.bytesLess (x.drop k) (y.drop k)
  | 0, x, y, _, _, _ => rfl
  | k + 1, [], _, _, h, _ => by simp at h
  | k + 1, _ :: _, [], _, _, h => by simp at h
  | k + 1, a :: x, b :: y, h, h1, h2 => by
    simp only [List.take_succ_cons, List.cons.injEq] at h
    obtain ⟨rfl, h⟩ := h
    rw [Op.bytesLess, List.drop_succ_cons, List.drop_succ_cons, ← less_drop k x y h (by simpa using h1) (by simpa using h2)]
    have : ¬ a < a := by rw [UInt8.lt_iff_toNat_lt]; omega
    simp [this]
def lst (s : ByteArray) : List UInt8 := s.data.toList
theorem lst_drop (a : ByteArray) (k : Nat) (h : k < a.size) : (lst a).drop k = a[k] :: (lst a).drop (k + 1) := by
  have hl : k < (lst a).length := h
  rw [List.drop_eq_getElem_cons hl]
  rfl
theorem lst_take (a : ByteArray) (k : Nat) (h : k < a.size) : (lst a).take (k + 1) = (lst a).take k ++ [a[k]] := by
  have hl : k < (lst a).length := h
  rw [List.take_succ_eq_append_getElem hl]
  rfl
theorem less_ne {a b : ByteArray} {k : Nat} (ha : k < a.size) (hb : k < b.size) (ht : (lst a).take k = (lst b).take k) (hne : (a[k].toNat : Int) ≠ b[k].toNat) :
    Op.bytesLess (lst a) (lst b) = decide (a[k].toNat < b[k].toNat) := by
  rw [less_drop k _ _ ht (Nat.le_of_lt ha) (Nat.le_of_lt hb), lst_drop a k ha, lst_drop b k hb, Op.bytesLess]
  have h2 : (a[k] == b[k]) = false := by
    rw [beq_eq_false_iff_ne]
    intro h
    rw [h] at hne
    exact hne rfl
  rw [h2, Bool.false_and, Bool.or_false]
  exact decide_eq_decide.2 (by rw [UInt8.lt_iff_toNat_lt])
theorem less_end {a b : ByteArray} {k : Nat} (ha : k ≤ a.size) (hb : k ≤ b.size) (hk : k = a.size ∨ k = b.size) (ht : (lst a).take k = (lst b).take k) :
    Op.bytesLess (lst a) (lst b) = decide (a.size < b.size) := by
  have la : (lst a).length = a.size := rfl
  have lb : (lst b).length = b.size := rfl
  rw [less_drop k _ _ ht ha hb]
  rcases hk with rfl | rfl
  · rw [show (lst a).drop a.size = [] from List.drop_eq_nil_of_le (by omega)]
    by_cases h : a.size < b.size
    · rw [lst_drop b a.size h]
      have : decide (a.size < b.size) = true := by simpa using h
      rw [this]; rfl
    · rw [show (lst b).drop a.size = [] from List.drop_eq_nil_of_le (by omega)]
      have : decide (a.size < b.size) = false := by simp; omega
      rw [this]; rfl
  · rw [show (lst b).drop b.size = [] from List.drop_eq_nil_of_le (by omega)]
    have : decide (a.size < b.size) = false := by simp; omega
    rw [this]
    cases (lst a).drop b.size <;> rfl
/-- A call that only reads, and perhaps draws. -/
def QuietRes (v : Value) (w : World) (e : Ending) (w' : World) : Prop := e = .returned v ∧ ∃ m, w' = w.drewN m
/-- Such a call in a quiet region behind other draws. -/
theorem QuietRes.more {P : Program} {f : FuncId} {args : Array Value} {w : World} {a n : Nat} {v : Value} (h : Calls P f args (w.drewN (a + n)) (QuietRes v (w.drewN (a + n)))) : Calls P f args (w.drewN (a + n)) fun e w'' => e = .returned v ∧ ∃ m, w'' = w.drewN (a + m) :=
  h.mono fun _ _ h => ⟨h.1, by obtain ⟨m, hm⟩ := h.2; exact ⟨n + m, by rw [hm, World.drewN_drewN, Nat.add_assoc]⟩⟩
theorem QuietRes.below {v : Value} {w w' : World} {e : Ending} (h : QuietRes v w e w') : e = .returned v ∧ Below w.heap.size w w' :=
  ⟨h.1, by obtain ⟨m, hm⟩ := h.2; rw [hm]; exact below_drewN (Below.refl _ _) _⟩
set_option maxHeartbeats 1000000 in
theorem less_any (a b : ByteArray) (w : World) (ha : a.size ≤ 9223372036854775807) (hb : b.size ≤ 9223372036854775807) :
    Calls Tryz.prog 178 #[.string a, .string b] w (QuietRes (.bool (ltB a b)) w) := by
  have hL : ltB a b = Op.bytesLess (lst a) (lst b) := by unfold ltB lst; rw [ByteArray.toList_eq, ByteArray.toList_eq]
  rw [hL]
  obtain ⟨R, hR⟩ : ∃ R, R = Op.bytesLess (lst a) (lst b) := ⟨_, rfl⟩
  rw [← hR]
  have HR := Lib.hid hR
  clear hL hR
  go_enter Tryz.func178, Tryz.ntmps178
  go_wp2_with fail
  go_loopw [5] (fun i wr => ∃ k : Nat, k ≤ a.size ∧ k ≤ b.size ∧ i = .int .i64 k ∧ Hid ((lst a).take k = (lst b).take k) ∧ ∃ q, wr = w.drewN q) (fun i _ => a.size - (intOf i).toNat)
  case atStart => exact ⟨0, Nat.zero_le _, Nat.zero_le _, rfl, Lib.hid rfl, 0, rfl⟩
  case round =>
    obtain ⟨k, hka, hkb, rfl, HT, q, rfl⟩ := hrel
    by_cases hlt : k < a.size ∧ k < b.size
    · obtain ⟨h1, h2⟩ := hlt
      have hx1 : (0 : Int) ≤ k := by omega
      have hx2 : (k : Int) < a.size := by omega
      have hx3 : (k : Int) < b.size := by omega
      by_cases hne : (a[k].toNat : Int) = b[k].toNat
      · have d1 : ((a[k].toNat : Int) != b[k].toNat) = false := by rw [hne]; simp
        have HN : Hid ((lst a).take (k + 1) = (lst b).take (k + 1)) := Lib.hid (by
          rw [lst_take a k h1, lst_take b k h2, HT.out]
          have : a[k] = b[k] := UInt8.toNat_inj.1 (by omega)
          rw [this])
        clear hne
        go_wp2_with fail
        go_quiet (fail)
        go_wp2_with fail
        go_roundw
        case rel => exact ⟨k + 1, by omega, by omega, by go_num, HN, _, rfl⟩
        case measure => simp [intOf]; omega
      · have d1 : ((a[k].toNat : Int) != b[k].toNat) = true := by simpa using hne
        have HE := Lib.hid (less_ne h1 h2 HT.out hne)
        clear hne
        go_wp2_with fail
        go_quiet (fail)
        go_wp2_with fail
        go_quiet (fail)
        go_wp2_with fail
        go_ret
        exact ⟨by rw [HR.out, HE.out]; rfl, ⟨_, by simp only [World.drewN_drewN]; rfl⟩⟩
    · have HE := Lib.hid (less_end hka hkb (by omega) HT.out)
      by_cases h1 : k < a.size
      · have h2 : ¬ k < b.size := fun h => hlt ⟨h1, h⟩
        clear hlt
        go_wp2_with fail
        go_ret
        exact ⟨by rw [HR.out, HE.out]; rfl, ⟨_, rfl⟩⟩
      · clear hlt
        go_wp2_with fail
        go_ret
        exact ⟨by rw [HR.out, HE.out]; rfl, ⟨_, rfl⟩⟩
end Go.Proofs.YtmdidmllaldbaaaGreat
