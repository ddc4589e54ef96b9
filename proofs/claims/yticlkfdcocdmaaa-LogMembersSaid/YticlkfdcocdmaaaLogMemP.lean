/- The plain law of LogMembers: a log of four entries, and what Members finds in it. -/
import Derived.Test.YticlkfdcocdmaaaMembers
import Derived.Test.YticlkfdcocdmaaaSt
import Derived.Test.YticlkfdcocdmaaaLogF
namespace Go.Proofs.Yticlkfdcocdmaaa
open Go.RowKit
set_option linter.unusedVariables false
/-- From the back the entry y is the first that tells the members. -/
theorem MemsRes.hit {l : List Ent} {to : Int} {B : Nat} {w w' : World} {e : Ending} (h : MemsRes l to B w e w') (k : Nat) (y : Ent) (hk : l[k]? = some y) (hy : hitE to y) (hno : ∀ j z, k < j → l[j]? = some z → ¬ hitE to z) :
    Below B w w' ∧ ∃ ao N c, e = .returned (.tuple #[.slice ao N c, .int .i64 y.ix]) ∧ w'.ownsRow B 3 1 (.slice ao N c) N ((membersP y.dt.data.toList).1.map (Value.int .i64)) ∧ (membersP y.dt.data.toList).1.length = N := by
  refine ⟨h.1, ?_⟩
  rcases h.2 with ⟨_, hn⟩ | ⟨k', y', ao, N, c, h1, h2, h3, he, ho, hl⟩
  · exact absurd hy (hn y (List.mem_of_getElem? hk))
  · have hkk : k' = k := by
      rcases Nat.lt_trichotomy k k' with h4 | h4 | h4
      · exact absurd h2 (hno k' y' h4 h1)
      · exact h4.symm
      · exact absurd hy (h3 k y h4 hk)
    subst hkk
    rw [hk] at h1
    injection h1 with h1
    subst h1
    exact ⟨ao, N, c, he, ho, hl⟩
theorem MemsRes.none {l : List Ent} {to : Int} {B : Nat} {w w' : World} {e : Ending} (h : MemsRes l to B w e w') (hno : ∀ y ∈ l, ¬ hitE to y) :
    Below B w w' ∧ e = .returned (.tuple #[.slice none 0 0, .int .i64 0]) := by
  refine ⟨h.1, ?_⟩
  rcases h.2 with ⟨he, _⟩ | ⟨k', y', ao, N, c, h1, h2, _⟩
  · exact he
  · exact absurd h2 (hno y' (List.mem_of_getElem? h1))
section
variable (p q : ByteArray)
def ent1 : Ent := ⟨1, 1, 0, ⟨#[]⟩⟩
def ent2 : Ent := ⟨2, 1, 2, p⟩
def ent3 : Ent := ⟨3, 2, 1, q⟩
def ent4 : Ent := ⟨4, 2, 2, q⟩
def log0 : LogV := ⟨0, 0, []⟩
def log1 : LogV := ⟨0, 0, [ent1]⟩
def log2 : LogV := ⟨0, 0, [ent1, ent2 p]⟩
def log3 : LogV := ⟨0, 0, [ent1, ent2 p, ent3 q]⟩
def log4 : LogV := ⟨0, 0, [ent1, ent2 p, ent3 q, ent4 q]⟩
theorem memLow {to : Int} (h : to < 2) : ∀ y ∈ (log4 p q).l, ¬ hitE to y := by
  intro y hy hh
  simp only [log4, List.mem_cons, List.not_mem_nil, or_false] at hy
  rcases hy with rfl | rfl | rfl | rfl
  · have := hh.1; simp [ent1] at this
  · have h2 : (2 : Int) ≤ to := hh.2.1; omega
  · have := hh.1; simp [ent3] at this
  · have h2 : (4 : Int) ≤ to := hh.2.1; omega
theorem memMid {to : Int} (h : to < 4) : ∀ j z, 1 < j → (log4 p q).l[j]? = some z → ¬ hitE to z := by
  intro j z hj hz hh
  match j, hj with
  | 2, _ =>
    injection hz with hz
    subst hz
    have := hh.1
    simp [ent3] at this
  | 3, _ =>
    injection hz with hz
    subst hz
    have h2 : (4 : Int) ≤ to := hh.2.1
    omega
  | n + 4, _ => simp [log4] at hz
/-- The log behind Compact. -/
def logK (at_ : Int) : LogV := if 0 ≤ at_ ∧ at_ ≤ 4 then ⟨at_, (termV (log4 p q) at_).1, (log4 p q).l.drop at_.toNat⟩ else log4 p q
theorem compact4 (at_ : Int) : compactV (log4 p q) at_ = (logK p q at_, decide (0 ≤ at_ ∧ at_ ≤ 4)) := by
  unfold compactV logK
  have hl : (lastV (log4 p q)).1 = 4 := rfl
  have hb : (log4 p q).base = 0 := rfl
  rw [hl, hb, Int.sub_zero]
  have ht : (termV (log4 p q) at_).2 = true ↔ 0 ≤ at_ ∧ at_ ≤ 4 := by
    unfold termV
    rw [hb]
    by_cases h0 : at_ = 0
    · rw [if_pos h0]; simp; omega
    · rw [if_neg h0]
      unfold atV
      rw [hb]
      show (Option.isSome (if at_ ≤ 0 ∨ ((4 : Nat) : Int) < at_ - 0 then none else (log4 p q).l[(at_ - 0 - 1).toNat]?)) = true ↔ _
      by_cases h1 : at_ ≤ 0 ∨ ((4 : Nat) : Int) < at_ - 0
      · rw [if_pos h1]; simp; omega
      · rw [if_neg h1]
        have h2 : (at_ - 0 - 1).toNat < (log4 p q).l.length := by show _ < 4; omega
        rw [List.getElem?_eq_getElem h2]
        simp
        omega
  by_cases h : 0 ≤ at_ ∧ at_ ≤ 4
  · rw [if_pos ⟨ht.2 h, h.2⟩, if_pos h, decide_eq_true h]
  · rw [if_neg (fun hh => h (ht.1 hh.1)), if_neg h, decide_eq_false h]
theorem logK_dt (at_ : Int) (hp : p.size ≤ 281474976710656) (hq : q.size ≤ 281474976710656) : ∀ e ∈ (logK p q at_).l, e.dt.size ≤ 281474976710656 := by
  have h4 : ∀ e ∈ (log4 p q).l, e.dt.size ≤ 281474976710656 := by
    intro e he
    simp only [log4, List.mem_cons, List.not_mem_nil, or_false] at he
    rcases he with rfl | rfl | rfl | rfl
    · decide
    · exact hp
    · exact hq
    · exact hq
  intro e he
  unfold logK at he
  split at he
  · exact h4 e (List.mem_of_mem_drop he)
  · exact h4 e he
theorem logK_len (at_ : Int) : (logK p q at_).l.length ≤ 4 := by
  unfold logK
  split
  · show (List.drop _ _).length ≤ 4
    rw [List.length_drop]
    show 4 - _ ≤ 4
    omega
  · show 4 ≤ 4
    omega
theorem logK_last (at_ : Int) : (lastV (logK p q at_)).1 = 4 := by
  unfold logK
  split
  · rename_i h
    rcases (show at_ = 0 ∨ at_ = 1 ∨ at_ = 2 ∨ at_ = 3 ∨ at_ = 4 by omega) with rfl | rfl | rfl | rfl | rfl <;> rfl
  · rfl
theorem logK_top (at_ : Int) (h : at_ < 4 ∨ 4 < at_) : ∃ k, (logK p q at_).l[k]? = some (ent4 q) ∧ (logK p q at_).l.length = k + 1 := by
  unfold logK
  split
  · rename_i hh
    rcases (show at_ = 0 ∨ at_ = 1 ∨ at_ = 2 ∨ at_ = 3 by omega) with rfl | rfl | rfl | rfl
    · exact ⟨3, rfl, rfl⟩
    · exact ⟨2, rfl, rfl⟩
    · exact ⟨1, rfl, rfl⟩
    · exact ⟨0, rfl, rfl⟩
  · exact ⟨3, rfl, rfl⟩
theorem logK_nil : (logK p q 4).l = [] := rfl
end
end Go.Proofs.Yticlkfdcocdmaaa
