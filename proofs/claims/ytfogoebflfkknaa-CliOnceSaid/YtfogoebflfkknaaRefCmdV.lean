/- The walk of arboretumref22.Valid (printed by wip/gen_refcmdv.py). -/
import Derived.Test.YtfogoebflfkknaaCmdA
namespace Go.Proofs.Ytfogoebflfkknaa
open Go.RowKit
set_option linter.unusedVariables false
theorem emp_ne (s : ByteArray) : (!s.toList.isEmpty) = decide (0 < s.size) := by
  rw [ByteArray.toList_eq]
  have hl : s.data.toList.length = s.size := rfl
  cases hh : s.data.toList with
  | nil => rw [hh] at hl; have h0 : s.size = 0 := hl.symm; rw [h0]; rfl
  | cons a r => rw [hh] at hl; have h0 : s.size = r.length + 1 := hl.symm; rw [h0]; simp
theorem rvalid_no (o : OpV) (w : World) (h : o.kd < 1 ∨ 6 < o.kd) : Calls Try.prog 14 #[o.agg] w fun e w' => e = .returned (.int .i64 1) ∧ Below w.heap.size w w' := by
  obtain ⟨kd, ss, sq, key, val, old⟩ := o
  dsimp only at h
  unfold OpV.agg
  by_cases h1 : kd < 1
  · have d1 : decide (kd < 1) = true := by simpa using h1
    clear h h1
    go_enter Try.func14, Try.ntmps14
    go_wp2_with fail
    go_ret
    exact ⟨rfl, (Below.refl _ _).alloc (Nat.le_refl _) _⟩
  · have d1 : decide (kd < 1) = false := by simp; omega
    have d2 : decide (6 < kd) = true := by simp; omega
    clear h h1
    go_enter Try.func14, Try.ntmps14
    go_wp2_with fail
    go_ret
    exact ⟨rfl, (Below.refl _ _).alloc (Nat.le_refl _) _⟩
set_option maxRecDepth 20000 in
set_option maxHeartbeats 4000000 in
theorem rvalid_1 (ss sq : Int) (key val old : ByteArray) (w : World) : Calls Try.prog 14 #[(OpV.mk 1 ss sq key val old).agg] w fun e w' => e = .returned (.int .i64 (validV ⟨1, ss, sq, key, val, old⟩)) ∧ Below w.heap.size w w' := by
  unfold OpV.agg
  obtain ⟨E1, hE1⟩ : ∃ b, key.toList.isEmpty = b := ⟨_, rfl⟩
  obtain ⟨E2, hE2⟩ : ∃ b, val.toList.isEmpty = b := ⟨_, rfl⟩
  obtain ⟨E3, hE3⟩ : ∃ b, old.toList.isEmpty = b := ⟨_, rfl⟩
  have HE := Lib.hid (And.intro (emp_ne key) (And.intro (emp_ne val) (emp_ne old)))
  go_enter Try.func14, Try.ntmps14
  go_wp2_with fail
  all_goals cases E1 <;> cases E2 <;> cases E3
  all_goals first
    | (exfalso; simp at *; done)
    | (have hr : validV ⟨1, ss, sq, key, val, old⟩ = 1 := by simp [validV, rightV, emp, keyB, *] <;> (try split) <;> omega
       go_ret
       exact ⟨by rw [hr]; rfl, (Below.refl _ _).alloc (Nat.le_refl _) _⟩)
    | (have hr : validV ⟨1, ss, sq, key, val, old⟩ = 2 := by simp [validV, rightV, emp, keyB, *] <;> (try split) <;> omega
       go_ret
       exact ⟨by rw [hr]; rfl, (Below.refl _ _).alloc (Nat.le_refl _) _⟩)
    | (have hr : validV ⟨1, ss, sq, key, val, old⟩ = 0 := by simp [validV, rightV, emp, keyB, *] <;> (try split) <;> omega
       go_ret
       exact ⟨by rw [hr]; rfl, (Below.refl _ _).alloc (Nat.le_refl _) _⟩)
    | skip
  done
set_option maxRecDepth 20000 in
set_option maxHeartbeats 4000000 in
theorem rvalid_2 (ss sq : Int) (key val old : ByteArray) (w : World) : Calls Try.prog 14 #[(OpV.mk 2 ss sq key val old).agg] w fun e w' => e = .returned (.int .i64 (validV ⟨2, ss, sq, key, val, old⟩)) ∧ Below w.heap.size w w' := by
  unfold OpV.agg
  obtain ⟨E1, hE1⟩ : ∃ b, key.toList.isEmpty = b := ⟨_, rfl⟩
  obtain ⟨E2, hE2⟩ : ∃ b, val.toList.isEmpty = b := ⟨_, rfl⟩
  obtain ⟨E3, hE3⟩ : ∃ b, old.toList.isEmpty = b := ⟨_, rfl⟩
  have HE := Lib.hid (And.intro (emp_ne key) (And.intro (emp_ne val) (emp_ne old)))
  go_enter Try.func14, Try.ntmps14
  go_wp2_with fail
  all_goals cases E1 <;> cases E2 <;> cases E3
  all_goals first
    | (exfalso; simp at *; done)
    | (have hr : validV ⟨2, ss, sq, key, val, old⟩ = 1 := by simp [validV, rightV, emp, keyB, *] <;> (try split) <;> omega
       go_ret
       exact ⟨by rw [hr]; rfl, (Below.refl _ _).alloc (Nat.le_refl _) _⟩)
    | (have hr : validV ⟨2, ss, sq, key, val, old⟩ = 2 := by simp [validV, rightV, emp, keyB, *] <;> (try split) <;> omega
       go_ret
       exact ⟨by rw [hr]; rfl, (Below.refl _ _).alloc (Nat.le_refl _) _⟩)
    | (have hr : validV ⟨2, ss, sq, key, val, old⟩ = 0 := by simp [validV, rightV, emp, keyB, *] <;> (try split) <;> omega
       go_ret
       exact ⟨by rw [hr]; rfl, (Below.refl _ _).alloc (Nat.le_refl _) _⟩)
    | skip
  done
set_option maxRecDepth 20000 in
set_option maxHeartbeats 4000000 in
theorem rvalid_3 (ss sq : Int) (key val old : ByteArray) (w : World) : Calls Try.prog 14 #[(OpV.mk 3 ss sq key val old).agg] w fun e w' => e = .returned (.int .i64 (validV ⟨3, ss, sq, key, val, old⟩)) ∧ Below w.heap.size w w' := by
  unfold OpV.agg
  obtain ⟨E1, hE1⟩ : ∃ b, key.toList.isEmpty = b := ⟨_, rfl⟩
  obtain ⟨E2, hE2⟩ : ∃ b, val.toList.isEmpty = b := ⟨_, rfl⟩
  obtain ⟨E3, hE3⟩ : ∃ b, old.toList.isEmpty = b := ⟨_, rfl⟩
  have HE := Lib.hid (And.intro (emp_ne key) (And.intro (emp_ne val) (emp_ne old)))
  go_enter Try.func14, Try.ntmps14
  go_wp2_with fail
  all_goals cases E1 <;> cases E2 <;> cases E3
  all_goals first
    | (exfalso; simp at *; done)
    | (have hr : validV ⟨3, ss, sq, key, val, old⟩ = 1 := by simp [validV, rightV, emp, keyB, *] <;> (try split) <;> omega
       go_ret
       exact ⟨by rw [hr]; rfl, (Below.refl _ _).alloc (Nat.le_refl _) _⟩)
    | (have hr : validV ⟨3, ss, sq, key, val, old⟩ = 2 := by simp [validV, rightV, emp, keyB, *] <;> (try split) <;> omega
       go_ret
       exact ⟨by rw [hr]; rfl, (Below.refl _ _).alloc (Nat.le_refl _) _⟩)
    | (have hr : validV ⟨3, ss, sq, key, val, old⟩ = 0 := by simp [validV, rightV, emp, keyB, *] <;> (try split) <;> omega
       go_ret
       exact ⟨by rw [hr]; rfl, (Below.refl _ _).alloc (Nat.le_refl _) _⟩)
    | skip
  done
set_option maxRecDepth 20000 in
set_option maxHeartbeats 4000000 in
theorem rvalid_4 (ss sq : Int) (key val old : ByteArray) (w : World) : Calls Try.prog 14 #[(OpV.mk 4 ss sq key val old).agg] w fun e w' => e = .returned (.int .i64 (validV ⟨4, ss, sq, key, val, old⟩)) ∧ Below w.heap.size w w' := by
  unfold OpV.agg
  obtain ⟨E1, hE1⟩ : ∃ b, key.toList.isEmpty = b := ⟨_, rfl⟩
  obtain ⟨E2, hE2⟩ : ∃ b, val.toList.isEmpty = b := ⟨_, rfl⟩
  obtain ⟨E3, hE3⟩ : ∃ b, old.toList.isEmpty = b := ⟨_, rfl⟩
  have HE := Lib.hid (And.intro (emp_ne key) (And.intro (emp_ne val) (emp_ne old)))
  have hss : (ss != 0) = true ∧ Hid (ss ≠ 0) ∨ (ss != 0) = false ∧ Hid (ss = 0) := by
    by_cases h : ss = 0
    · exact .inr ⟨by simp [h], Lib.hid h⟩
    · exact .inl ⟨by simp [h], Lib.hid h⟩
  have hsq : (sq != 0) = true ∧ Hid (sq ≠ 0) ∨ (sq != 0) = false ∧ Hid (sq = 0) := by
    by_cases h : sq = 0
    · exact .inr ⟨by simp [h], Lib.hid h⟩
    · exact .inl ⟨by simp [h], Lib.hid h⟩
  rcases hss with ⟨s1, HS⟩ | ⟨s1, HS⟩ <;> rcases hsq with ⟨q1, HQ⟩ | ⟨q1, HQ⟩
  all_goals
    go_enter Try.func14, Try.ntmps14
    go_wp2_with fail
  all_goals (have hs0 := HS.out; have hq0 := HQ.out)
  all_goals cases E1 <;> cases E2 <;> cases E3
  all_goals first
    | (exfalso; simp at *; done)
    | (have hr : validV ⟨4, ss, sq, key, val, old⟩ = 1 := by simp [validV, rightV, emp, keyB, *] <;> (try split) <;> omega
       go_ret
       exact ⟨by rw [hr]; rfl, (Below.refl _ _).alloc (Nat.le_refl _) _⟩)
    | (have hr : validV ⟨4, ss, sq, key, val, old⟩ = 2 := by simp [validV, rightV, emp, keyB, *] <;> (try split) <;> omega
       go_ret
       exact ⟨by rw [hr]; rfl, (Below.refl _ _).alloc (Nat.le_refl _) _⟩)
    | (have hr : validV ⟨4, ss, sq, key, val, old⟩ = 0 := by simp [validV, rightV, emp, keyB, *] <;> (try split) <;> omega
       go_ret
       exact ⟨by rw [hr]; rfl, (Below.refl _ _).alloc (Nat.le_refl _) _⟩)
    | skip
  done
set_option maxRecDepth 20000 in
set_option maxHeartbeats 4000000 in
theorem rvalid_5 (ss sq : Int) (key val old : ByteArray) (w : World) : Calls Try.prog 14 #[(OpV.mk 5 ss sq key val old).agg] w fun e w' => e = .returned (.int .i64 (validV ⟨5, ss, sq, key, val, old⟩)) ∧ Below w.heap.size w w' := by
  unfold OpV.agg
  obtain ⟨E1, hE1⟩ : ∃ b, key.toList.isEmpty = b := ⟨_, rfl⟩
  obtain ⟨E2, hE2⟩ : ∃ b, val.toList.isEmpty = b := ⟨_, rfl⟩
  obtain ⟨E3, hE3⟩ : ∃ b, old.toList.isEmpty = b := ⟨_, rfl⟩
  have HE := Lib.hid (And.intro (emp_ne key) (And.intro (emp_ne val) (emp_ne old)))
  have hss : (ss != 0) = true ∧ Hid (ss ≠ 0) ∨ (ss != 0) = false ∧ Hid (ss = 0) := by
    by_cases h : ss = 0
    · exact .inr ⟨by simp [h], Lib.hid h⟩
    · exact .inl ⟨by simp [h], Lib.hid h⟩
  have hsq : (sq != 0) = true ∧ Hid (sq ≠ 0) ∨ (sq != 0) = false ∧ Hid (sq = 0) := by
    by_cases h : sq = 0
    · exact .inr ⟨by simp [h], Lib.hid h⟩
    · exact .inl ⟨by simp [h], Lib.hid h⟩
  rcases hss with ⟨s1, HS⟩ | ⟨s1, HS⟩ <;> rcases hsq with ⟨q1, HQ⟩ | ⟨q1, HQ⟩
  all_goals
    go_enter Try.func14, Try.ntmps14
    go_wp2_with fail
  all_goals (have hs0 := HS.out; have hq0 := HQ.out)
  all_goals cases E1 <;> cases E2 <;> cases E3
  all_goals first
    | (exfalso; simp at *; done)
    | (have hr : validV ⟨5, ss, sq, key, val, old⟩ = 1 := by simp [validV, rightV, emp, keyB, *] <;> (try split) <;> omega
       go_ret
       exact ⟨by rw [hr]; rfl, (Below.refl _ _).alloc (Nat.le_refl _) _⟩)
    | (have hr : validV ⟨5, ss, sq, key, val, old⟩ = 2 := by simp [validV, rightV, emp, keyB, *] <;> (try split) <;> omega
       go_ret
       exact ⟨by rw [hr]; rfl, (Below.refl _ _).alloc (Nat.le_refl _) _⟩)
    | (have hr : validV ⟨5, ss, sq, key, val, old⟩ = 0 := by simp [validV, rightV, emp, keyB, *] <;> (try split) <;> omega
       go_ret
       exact ⟨by rw [hr]; rfl, (Below.refl _ _).alloc (Nat.le_refl _) _⟩)
    | skip
  done
set_option maxRecDepth 20000 in
set_option maxHeartbeats 4000000 in
theorem rvalid_6 (ss sq : Int) (key val old : ByteArray) (w : World) : Calls Try.prog 14 #[(OpV.mk 6 ss sq key val old).agg] w fun e w' => e = .returned (.int .i64 (validV ⟨6, ss, sq, key, val, old⟩)) ∧ Below w.heap.size w w' := by
  unfold OpV.agg
  obtain ⟨E1, hE1⟩ : ∃ b, key.toList.isEmpty = b := ⟨_, rfl⟩
  obtain ⟨E2, hE2⟩ : ∃ b, val.toList.isEmpty = b := ⟨_, rfl⟩
  obtain ⟨E3, hE3⟩ : ∃ b, old.toList.isEmpty = b := ⟨_, rfl⟩
  have HE := Lib.hid (And.intro (emp_ne key) (And.intro (emp_ne val) (emp_ne old)))
  have hss : (ss != 0) = true ∧ Hid (ss ≠ 0) ∨ (ss != 0) = false ∧ Hid (ss = 0) := by
    by_cases h : ss = 0
    · exact .inr ⟨by simp [h], Lib.hid h⟩
    · exact .inl ⟨by simp [h], Lib.hid h⟩
  have hsq : (sq != 0) = true ∧ Hid (sq ≠ 0) ∨ (sq != 0) = false ∧ Hid (sq = 0) := by
    by_cases h : sq = 0
    · exact .inr ⟨by simp [h], Lib.hid h⟩
    · exact .inl ⟨by simp [h], Lib.hid h⟩
  rcases hss with ⟨s1, HS⟩ | ⟨s1, HS⟩ <;> rcases hsq with ⟨q1, HQ⟩ | ⟨q1, HQ⟩
  all_goals
    go_enter Try.func14, Try.ntmps14
    go_wp2_with fail
  all_goals (have hs0 := HS.out; have hq0 := HQ.out)
  all_goals cases E1 <;> cases E2 <;> cases E3
  all_goals first
    | (exfalso; simp at *; done)
    | (have hr : validV ⟨6, ss, sq, key, val, old⟩ = 1 := by simp [validV, rightV, emp, keyB, *] <;> (try split) <;> omega
       go_ret
       exact ⟨by rw [hr]; rfl, (Below.refl _ _).alloc (Nat.le_refl _) _⟩)
    | (have hr : validV ⟨6, ss, sq, key, val, old⟩ = 2 := by simp [validV, rightV, emp, keyB, *] <;> (try split) <;> omega
       go_ret
       exact ⟨by rw [hr]; rfl, (Below.refl _ _).alloc (Nat.le_refl _) _⟩)
    | (have hr : validV ⟨6, ss, sq, key, val, old⟩ = 0 := by simp [validV, rightV, emp, keyB, *] <;> (try split) <;> omega
       go_ret
       exact ⟨by rw [hr]; rfl, (Below.refl _ _).alloc (Nat.le_refl _) _⟩)
    | skip
  done
theorem rvalid_any (o : OpV) (w : World) : Calls Try.prog 14 #[o.agg] w fun e w' => e = .returned (.int .i64 (validV o)) ∧ Below w.heap.size w w' := by
  by_cases h : o.kd < 1 ∨ 6 < o.kd
  · have hr0 : rightV o = false := by
      unfold rightV
      rw [if_neg (by omega), if_neg (by omega), if_neg (by omega), if_neg (by omega), if_neg (by omega), if_neg (by omega)]
    have hr : validV o = 1 := by
      unfold validV
      rw [hr0]
      rfl
    rw [hr]
    exact rvalid_no o w h
  · obtain ⟨kd, ss, sq, key, val, old⟩ := o
    have h1 : 1 ≤ kd ∧ kd ≤ 6 := by simp at h; omega
    rcases (show kd = 1 ∨ kd = 2 ∨ kd = 3 ∨ kd = 4 ∨ kd = 5 ∨ kd = 6 by omega) with rfl | rfl | rfl | rfl | rfl | rfl
    · exact rvalid_1 ss sq key val old w
    · exact rvalid_2 ss sq key val old w
    · exact rvalid_3 ss sq key val old w
    · exact rvalid_4 ss sq key val old w
    · exact rvalid_5 ss sq key val old w
    · exact rvalid_6 ss sq key val old w
end Go.Proofs.Ytfogoebflfkknaa
