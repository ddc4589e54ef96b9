/- The walks of cmd.isKey, right and Valid: what an operation must have. -/
import Derived.Test.YtfogoebflfkknaaClone
import Derived.Laws.StructEq
namespace Go.Proofs.Ytfogoebflfkknaa
open Go.RowKit
set_option linter.unusedVariables false
structure OpV where
  kd : Int
  ss : Int
  sq : Int
  key : ByteArray
  val : ByteArray
  old : ByteArray
def OpV.agg (o : OpV) : Value := .agg #[.int .i64 o.kd, .int .i64 o.ss, .int .i64 o.sq, .string o.key, .string o.val, .string o.old]
def keyB (s : ByteArray) : Bool := decide (0 < s.size) && decide (s.size ≤ 38)
theorem isKey_any (s : ByteArray) (w : World) : Calls Try.prog 81 #[.string s] w fun e w' => e = .returned (.bool (keyB s)) ∧ w = w' := by
  by_cases h0 : s.size = 0
  · have h2 : s = ⟨#[]⟩ := by
      rcases s with ⟨⟨l⟩⟩
      have : l = [] := List.eq_nil_of_length_eq_zero h0
      subst this; rfl
    subst h2
    go_enter Try.func81, Try.ntmps81
    go_wp2
    go_ret
    exact ⟨rfl, rfl⟩
  · have hse : (!s.toList.isEmpty) = true := by
      rw [ByteArray.toList_eq]
      have hl : s.data.toList.length = s.size := rfl
      cases hh : s.data.toList with
      | nil => rw [hh] at hl; exact absurd hl.symm h0
      | cons a r => rfl
    by_cases h1 : s.size ≤ 38
    · have hd : decide ((s.size : Int) ≤ 38) = true := by simp; omega
      have hk : keyB s = true := by unfold keyB; simp; omega
      have HK := Lib.hid hk
      clear hk
      go_enter Try.func81, Try.ntmps81
      go_wp2
      go_ret
      exact ⟨by rw [HK.out]; rfl, rfl⟩
    · have hd : decide ((s.size : Int) ≤ 38) = false := by simp; omega
      have hk : keyB s = false := by unfold keyB; simp; omega
      have HK := Lib.hid hk
      clear hk
      go_enter Try.func81, Try.ntmps81
      go_wp2
      go_ret
      exact ⟨by rw [HK.out]; rfl, rfl⟩
def emp (s : ByteArray) : Bool := s.toList.isEmpty
/-- Has an operation just what its kind asks? -/
def rightV (o : OpV) : Bool :=
  if o.kd = 1 then emp o.old && (decide (1 ≤ o.ss) && (decide (1 ≤ o.sq) && keyB o.key))
  else if o.kd = 2 then (emp o.val && emp o.old) && (decide (1 ≤ o.ss) && (decide (1 ≤ o.sq) && keyB o.key))
  else if o.kd = 3 then decide (1 ≤ o.ss) && (decide (1 ≤ o.sq) && keyB o.key)
  else if o.kd = 4 then (o.ss == 0 && (o.sq == 0 && (emp o.val && emp o.old))) && keyB o.key
  else if o.kd = 5 then o.ss == 0 && (emp o.key && (emp o.val && emp o.old))
  else if o.kd = 6 then o.sq == 0 && (emp o.key && (emp o.val && emp o.old))
  else false
/-- What stands behind the switch: the operation is held against the plain one. -/
theorem right_no (o : OpV) (w : World) (h : o.kd < 1 ∨ 6 < o.kd) : Calls Try.prog 49 #[o.agg] w fun e w' => e = .returned (.bool false) ∧ Below w.heap.size w w' := by
  obtain ⟨kd, ss, sq, key, val, old⟩ := o
  have n1 : (kd == 1) = false := by rw [beq_eq_false_iff_ne]; simp at h; omega
  have n2 : (kd == 2) = false := by rw [beq_eq_false_iff_ne]; simp at h; omega
  have n3 : (kd == 3) = false := by rw [beq_eq_false_iff_ne]; simp at h; omega
  have n4 : (kd == 4) = false := by rw [beq_eq_false_iff_ne]; simp at h; omega
  have n5 : (kd == 5) = false := by rw [beq_eq_false_iff_ne]; simp at h; omega
  have n6 : (kd == 6) = false := by rw [beq_eq_false_iff_ne]; simp at h; omega
  unfold OpV.agg
  clear h
  go_enter Try.func49, Try.ntmps49
  go_wp2_with fail
  go_ret
  exact ⟨rfl, ((Below.refl _ _).alloc (Nat.le_refl _) _).alloc (by simp) _⟩
set_option maxRecDepth 20000 in
set_option maxHeartbeats 2000000 in
theorem right_1 (ss sq : Int) (key val old : ByteArray) (w : World) : Calls Try.prog 49 #[(OpV.mk 1 ss sq key val old).agg] w fun e w' => e = .returned (.bool (rightV ⟨1, ss, sq, key, val, old⟩)) ∧ Below w.heap.size w w' := by
  unfold OpV.agg
  have HK := Lib.hid (fun W => isKey_any key W)
  go_enter Try.func49, Try.ntmps49
  go_wp2_with fail
  go_region
  all_goals go_wp2_with fail
  all_goals first
    | (refine (HK.out _).mono ?_
       rintro e w1 ⟨rfl, rfl⟩
       go_wp2_with fail
       have hr : rightV ⟨1, ss, sq, key, val, old⟩ = keyB key := by simp [rightV, emp, *] <;> omega
       go_ret
       exact ⟨by rw [hr]; rfl, by ((repeat (with_reducible (first | exact Below.refl _ _ | refine Below.setCell ?_ ?_ _ | refine Below.alloc ?_ ?_ _ | refine Below.drew ?_ | refine below_drewN ?_ _))); all_goals (first | exact Nat.le_refl _ | (simp <;> omega)))⟩)
    | (have hr : rightV ⟨1, ss, sq, key, val, old⟩ = false := by simp [rightV, emp, *] <;> omega
       go_ret
       exact ⟨by rw [hr]; rfl, by ((repeat (with_reducible (first | exact Below.refl _ _ | refine Below.setCell ?_ ?_ _ | refine Below.alloc ?_ ?_ _ | refine Below.drew ?_ | refine below_drewN ?_ _))); all_goals (first | exact Nat.le_refl _ | (simp <;> omega)))⟩)
    | (have hr : rightV ⟨1, ss, sq, key, val, old⟩ = true := by simp [rightV, emp, *] <;> omega
       go_ret
       exact ⟨by rw [hr]; rfl, by ((repeat (with_reducible (first | exact Below.refl _ _ | refine Below.setCell ?_ ?_ _ | refine Below.alloc ?_ ?_ _ | refine Below.drew ?_ | refine below_drewN ?_ _))); all_goals (first | exact Nat.le_refl _ | (simp <;> omega)))⟩)
set_option maxRecDepth 20000 in
set_option maxHeartbeats 2000000 in
theorem right_2 (ss sq : Int) (key val old : ByteArray) (w : World) : Calls Try.prog 49 #[(OpV.mk 2 ss sq key val old).agg] w fun e w' => e = .returned (.bool (rightV ⟨2, ss, sq, key, val, old⟩)) ∧ Below w.heap.size w w' := by
  unfold OpV.agg
  have HK := Lib.hid (fun W => isKey_any key W)
  go_enter Try.func49, Try.ntmps49
  go_wp2_with fail
  go_region
  all_goals go_wp2_with fail
  all_goals first
    | (refine (HK.out _).mono ?_
       rintro e w1 ⟨rfl, rfl⟩
       go_wp2_with fail
       have hr : rightV ⟨2, ss, sq, key, val, old⟩ = keyB key := by simp [rightV, emp, *] <;> omega
       go_ret
       exact ⟨by rw [hr]; rfl, by ((repeat (with_reducible (first | exact Below.refl _ _ | refine Below.setCell ?_ ?_ _ | refine Below.alloc ?_ ?_ _ | refine Below.drew ?_ | refine below_drewN ?_ _))); all_goals (first | exact Nat.le_refl _ | (simp <;> omega)))⟩)
    | (have hr : rightV ⟨2, ss, sq, key, val, old⟩ = false := by simp [rightV, emp, *] <;> omega
       go_ret
       exact ⟨by rw [hr]; rfl, by ((repeat (with_reducible (first | exact Below.refl _ _ | refine Below.setCell ?_ ?_ _ | refine Below.alloc ?_ ?_ _ | refine Below.drew ?_ | refine below_drewN ?_ _))); all_goals (first | exact Nat.le_refl _ | (simp <;> omega)))⟩)
    | (have hr : rightV ⟨2, ss, sq, key, val, old⟩ = true := by simp [rightV, emp, *] <;> omega
       go_ret
       exact ⟨by rw [hr]; rfl, by ((repeat (with_reducible (first | exact Below.refl _ _ | refine Below.setCell ?_ ?_ _ | refine Below.alloc ?_ ?_ _ | refine Below.drew ?_ | refine below_drewN ?_ _))); all_goals (first | exact Nat.le_refl _ | (simp <;> omega)))⟩)
set_option maxRecDepth 20000 in
set_option maxHeartbeats 2000000 in
theorem right_3 (ss sq : Int) (key val old : ByteArray) (w : World) : Calls Try.prog 49 #[(OpV.mk 3 ss sq key val old).agg] w fun e w' => e = .returned (.bool (rightV ⟨3, ss, sq, key, val, old⟩)) ∧ Below w.heap.size w w' := by
  unfold OpV.agg
  have HK := Lib.hid (fun W => isKey_any key W)
  go_enter Try.func49, Try.ntmps49
  go_wp2_with fail
  all_goals first
    | (refine (HK.out _).mono ?_
       rintro e w1 ⟨rfl, rfl⟩
       go_wp2_with fail
       have hr : rightV ⟨3, ss, sq, key, val, old⟩ = keyB key := by simp [rightV, emp, *] <;> omega
       go_ret
       exact ⟨by rw [hr]; rfl, by ((repeat (with_reducible (first | exact Below.refl _ _ | refine Below.setCell ?_ ?_ _ | refine Below.alloc ?_ ?_ _ | refine Below.drew ?_ | refine below_drewN ?_ _))); all_goals (first | exact Nat.le_refl _ | (simp <;> omega)))⟩)
    | (have hr : rightV ⟨3, ss, sq, key, val, old⟩ = false := by simp [rightV, emp, *] <;> omega
       go_ret
       exact ⟨by rw [hr]; rfl, by ((repeat (with_reducible (first | exact Below.refl _ _ | refine Below.setCell ?_ ?_ _ | refine Below.alloc ?_ ?_ _ | refine Below.drew ?_ | refine below_drewN ?_ _))); all_goals (first | exact Nat.le_refl _ | (simp <;> omega)))⟩)
    | (have hr : rightV ⟨3, ss, sq, key, val, old⟩ = true := by simp [rightV, emp, *] <;> omega
       go_ret
       exact ⟨by rw [hr]; rfl, by ((repeat (with_reducible (first | exact Below.refl _ _ | refine Below.setCell ?_ ?_ _ | refine Below.alloc ?_ ?_ _ | refine Below.drew ?_ | refine below_drewN ?_ _))); all_goals (first | exact Nat.le_refl _ | (simp <;> omega)))⟩)
set_option maxRecDepth 20000 in
set_option maxHeartbeats 2000000 in
theorem right_4 (ss sq : Int) (key val old : ByteArray) (w : World) : Calls Try.prog 49 #[(OpV.mk 4 ss sq key val old).agg] w fun e w' => e = .returned (.bool (rightV ⟨4, ss, sq, key, val, old⟩)) ∧ Below w.heap.size w w' := by
  unfold OpV.agg
  have HK := Lib.hid (fun W => isKey_any key W)
  go_enter Try.func49, Try.ntmps49
  go_wp2_with fail
  all_goals first
    | (refine (HK.out _).mono ?_
       rintro e w1 ⟨rfl, rfl⟩
       go_wp2_with fail
       have hr : rightV ⟨4, ss, sq, key, val, old⟩ = keyB key := by simp [rightV, emp, *] <;> omega
       go_ret
       exact ⟨by rw [hr]; rfl, by ((repeat (with_reducible (first | exact Below.refl _ _ | refine Below.setCell ?_ ?_ _ | refine Below.alloc ?_ ?_ _ | refine Below.drew ?_ | refine below_drewN ?_ _))); all_goals (first | exact Nat.le_refl _ | (simp <;> omega)))⟩)
    | (have hr : rightV ⟨4, ss, sq, key, val, old⟩ = false := by simp [rightV, emp, *] <;> omega
       go_ret
       exact ⟨by rw [hr]; rfl, by ((repeat (with_reducible (first | exact Below.refl _ _ | refine Below.setCell ?_ ?_ _ | refine Below.alloc ?_ ?_ _ | refine Below.drew ?_ | refine below_drewN ?_ _))); all_goals (first | exact Nat.le_refl _ | (simp <;> omega)))⟩)
    | (have hr : rightV ⟨4, ss, sq, key, val, old⟩ = true := by simp [rightV, emp, *] <;> omega
       go_ret
       exact ⟨by rw [hr]; rfl, by ((repeat (with_reducible (first | exact Below.refl _ _ | refine Below.setCell ?_ ?_ _ | refine Below.alloc ?_ ?_ _ | refine Below.drew ?_ | refine below_drewN ?_ _))); all_goals (first | exact Nat.le_refl _ | (simp <;> omega)))⟩)
set_option maxRecDepth 20000 in
set_option maxHeartbeats 2000000 in
theorem right_5 (ss sq : Int) (key val old : ByteArray) (w : World) : Calls Try.prog 49 #[(OpV.mk 5 ss sq key val old).agg] w fun e w' => e = .returned (.bool (rightV ⟨5, ss, sq, key, val, old⟩)) ∧ Below w.heap.size w w' := by
  unfold OpV.agg
  have HK := Lib.hid (fun W => isKey_any key W)
  go_enter Try.func49, Try.ntmps49
  go_wp2_with fail
  all_goals first
    | (refine (HK.out _).mono ?_
       rintro e w1 ⟨rfl, rfl⟩
       go_wp2_with fail
       have hr : rightV ⟨5, ss, sq, key, val, old⟩ = keyB key := by simp [rightV, emp, *] <;> omega
       go_ret
       exact ⟨by rw [hr]; rfl, by ((repeat (with_reducible (first | exact Below.refl _ _ | refine Below.setCell ?_ ?_ _ | refine Below.alloc ?_ ?_ _ | refine Below.drew ?_ | refine below_drewN ?_ _))); all_goals (first | exact Nat.le_refl _ | (simp <;> omega)))⟩)
    | (have hr : rightV ⟨5, ss, sq, key, val, old⟩ = false := by simp [rightV, emp, *] <;> omega
       go_ret
       exact ⟨by rw [hr]; rfl, by ((repeat (with_reducible (first | exact Below.refl _ _ | refine Below.setCell ?_ ?_ _ | refine Below.alloc ?_ ?_ _ | refine Below.drew ?_ | refine below_drewN ?_ _))); all_goals (first | exact Nat.le_refl _ | (simp <;> omega)))⟩)
    | (have hr : rightV ⟨5, ss, sq, key, val, old⟩ = true := by simp [rightV, emp, *] <;> omega
       go_ret
       exact ⟨by rw [hr]; rfl, by ((repeat (with_reducible (first | exact Below.refl _ _ | refine Below.setCell ?_ ?_ _ | refine Below.alloc ?_ ?_ _ | refine Below.drew ?_ | refine below_drewN ?_ _))); all_goals (first | exact Nat.le_refl _ | (simp <;> omega)))⟩)
set_option maxRecDepth 20000 in
set_option maxHeartbeats 2000000 in
theorem right_6 (ss sq : Int) (key val old : ByteArray) (w : World) : Calls Try.prog 49 #[(OpV.mk 6 ss sq key val old).agg] w fun e w' => e = .returned (.bool (rightV ⟨6, ss, sq, key, val, old⟩)) ∧ Below w.heap.size w w' := by
  unfold OpV.agg
  have HK := Lib.hid (fun W => isKey_any key W)
  go_enter Try.func49, Try.ntmps49
  go_wp2_with fail
  all_goals first
    | (refine (HK.out _).mono ?_
       rintro e w1 ⟨rfl, rfl⟩
       go_wp2_with fail
       have hr : rightV ⟨6, ss, sq, key, val, old⟩ = keyB key := by simp [rightV, emp, *] <;> omega
       go_ret
       exact ⟨by rw [hr]; rfl, by ((repeat (with_reducible (first | exact Below.refl _ _ | refine Below.setCell ?_ ?_ _ | refine Below.alloc ?_ ?_ _ | refine Below.drew ?_ | refine below_drewN ?_ _))); all_goals (first | exact Nat.le_refl _ | (simp <;> omega)))⟩)
    | (have hr : rightV ⟨6, ss, sq, key, val, old⟩ = false := by simp [rightV, emp, *] <;> omega
       go_ret
       exact ⟨by rw [hr]; rfl, by ((repeat (with_reducible (first | exact Below.refl _ _ | refine Below.setCell ?_ ?_ _ | refine Below.alloc ?_ ?_ _ | refine Below.drew ?_ | refine below_drewN ?_ _))); all_goals (first | exact Nat.le_refl _ | (simp <;> omega)))⟩)
    | (have hr : rightV ⟨6, ss, sq, key, val, old⟩ = true := by simp [rightV, emp, *] <;> omega
       go_ret
       exact ⟨by rw [hr]; rfl, by ((repeat (with_reducible (first | exact Below.refl _ _ | refine Below.setCell ?_ ?_ _ | refine Below.alloc ?_ ?_ _ | refine Below.drew ?_ | refine below_drewN ?_ _))); all_goals (first | exact Nat.le_refl _ | (simp <;> omega)))⟩)
end Go.Proofs.Ytfogoebflfkknaa
