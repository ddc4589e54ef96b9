/- The walks of cmd.Valid, Put and PutReply. -/
import Derived.Test.YtfogoebflfkknaaCmdV
import Derived.Test.YtfogoebflfkknaaRowsN
import Derived.Deep.RegionHeld3
namespace Go.Proofs.Ytfogoebflfkknaa
open Go.RowKit
set_option linter.unusedVariables false
theorem right_any (o : OpV) (w : World) : Calls Try.prog 49 #[o.agg] w fun e w' => e = .returned (.bool (rightV o)) ∧ Below w.heap.size w w' := by
  by_cases h : o.kd < 1 ∨ 6 < o.kd
  · have hr : rightV o = false := by
      unfold rightV
      rw [if_neg (by omega), if_neg (by omega), if_neg (by omega), if_neg (by omega), if_neg (by omega), if_neg (by omega)]
    rw [hr]
    exact right_no o w h
  · obtain ⟨kd, ss, sq, key, val, old⟩ := o
    have h1 : 1 ≤ kd ∧ kd ≤ 6 := by simp at h; omega
    rcases (show kd = 1 ∨ kd = 2 ∨ kd = 3 ∨ kd = 4 ∨ kd = 5 ∨ kd = 6 by omega) with rfl | rfl | rfl | rfl | rfl | rfl
    · exact right_1 ss sq key val old w
    · exact right_2 ss sq key val old w
    · exact right_3 ss sq key val old w
    · exact right_4 ss sq key val old w
    · exact right_5 ss sq key val old w
    · exact right_6 ss sq key val old w
/-- What is wrong with an operation. -/
def validV (o : OpV) : Int := if rightV o = true then (if 900 < o.val.size ∨ 900 < o.old.size then 2 else 0) else 1
set_option maxRecDepth 20000 in
theorem valid_any (o : OpV) (w : World) : Calls Try.prog 13 #[o.agg] w fun e w' => e = .returned (.int .i64 (validV o)) ∧ Below w.heap.size w w' := by
  have HR := Lib.hid (fun W => right_any o W)
  obtain ⟨r, hr⟩ : ∃ r, r = rightV o := ⟨_, rfl⟩
  have hv : validV o = if r = true then (if 900 < o.val.size ∨ 900 < o.old.size then 2 else 0) else 1 := by rw [hr]; rfl
  rw [hv]
  rw [← hr] at HR
  clear hr hv
  obtain ⟨kd, ss, sq, key, val, old⟩ := o
  unfold OpV.agg at *
  go_enter Try.func13, Try.ntmps13
  go_wp2_with fail
  refine (HR.out _).mono ?_
  rintro e w1 ⟨rfl, hb1⟩
  have hx : w1.heap[w.heap.size]? = some (.cells #[.int .i64 kd, .int .i64 ss, .int .i64 sq, .string key, .string val, .string old] 23 (0, 0)) := (hb1.block w.heap.size (by simp)).trans (heap_alloc_new w _)
  have c4 : w1.cell? ⟨w.heap.size, 4, none⟩ = some (.string val) := by rw [blk_cell hx]; rfl
  have c5 : w1.cell? ⟨w.heap.size, 5, none⟩ = some (.string old) := by rw [blk_cell hx]; rfl
  have hb : Below w.heap.size w w1 := ((Below.refl _ _).alloc (Nat.le_refl _) _).trans (hb1.mono (by simp))
  have HB := Lib.hid hb
  clear hx hb hb1 HR
  cases r with
  | false =>
    go_wp2_with fail
    go_ret
    exact ⟨rfl, HB.out⟩
  | true =>
    by_cases h1 : 900 < val.size
    · have d1 : decide (900 < (val.size : Int)) = true := by simp; omega
      go_wp2_with fail
      go_ret
      exact ⟨rfl, HB.out⟩
    · have d1 : decide (900 < (val.size : Int)) = false := by simp; omega
      by_cases h2 : 900 < old.size
      · have d2 : decide (900 < (old.size : Int)) = true := by simp; omega
        go_wp2_with fail
        go_ret
        exact ⟨rfl, HB.out⟩
      · have d2 : decide (900 < (old.size : Int)) = false := by simp; omega
        go_wp2_with fail
        go_ret
        exact ⟨rfl, HB.out⟩
/-- The bytes of an operation, and of a reply. -/
def opB (o : OpV) : List UInt8 := vars [o.kd, o.ss, o.sq] ++ textsB [o.key, o.val, o.old]
def OpOk (o : OpV) : Prop := (-9223372036854775808 ≤ o.kd ∧ o.kd ≤ 9223372036854775807) ∧ (-9223372036854775808 ≤ o.ss ∧ o.ss ≤ 9223372036854775807) ∧ (-9223372036854775808 ≤ o.sq ∧ o.sq ≤ 9223372036854775807) ∧ o.key.size ≤ 140737488351232 ∧ o.val.size ≤ 140737488351232 ∧ o.old.size ≤ 140737488351232
theorem emp_size {s : ByteArray} (h : emp s = true) : s.size = 0 := by
  unfold emp at h
  rw [ByteArray.toList_eq] at h
  have hl : s.data.toList.length = s.size := rfl
  cases hh : s.data.toList with
  | nil => rw [hh] at hl; exact hl.symm
  | cons a r => rw [hh] at h; cases h
theorem keyB_size {s : ByteArray} (h : keyB s = true) : 0 < s.size ∧ s.size ≤ 38 := by
  unfold keyB at h
  simpa using h
theorem rightV_key {o : OpV} (h : rightV o = true) : o.key.size ≤ 38 := by
  unfold rightV at h
  split at h
  · simp only [Bool.and_eq_true] at h; exact (keyB_size h.2.2.2).2
  · split at h
    · simp only [Bool.and_eq_true] at h; exact (keyB_size h.2.2.2).2
    · split at h
      · simp only [Bool.and_eq_true] at h; exact (keyB_size h.2.2).2
      · split at h
        · simp only [Bool.and_eq_true] at h; exact (keyB_size h.2).2
        · split at h
          · simp only [Bool.and_eq_true] at h; have := emp_size h.2.1; omega
          · split at h
            · simp only [Bool.and_eq_true] at h; have := emp_size h.2.1; omega
            · cases h
theorem validV_sizes {o : OpV} (h : validV o = 0) : o.key.size ≤ 38 ∧ o.val.size ≤ 900 ∧ o.old.size ≤ 900 := by
  unfold validV at h
  split at h
  · rename_i hr
    split at h
    · cases h
    · exact ⟨rightV_key hr, by omega, by omega⟩
  · cases h
/-- What Put answers. -/
def PutOp (o : OpV) (w : World) (e : Ending) (w' : World) : Prop := e = .returned (.tuple #[.string ⟨(if validV o = 0 then opB o else []).toArray⟩, .int .i64 (validV o)]) ∧ Below w.heap.size w w'
set_option maxRecDepth 20000 in
set_option maxHeartbeats 2000000 in
theorem putOp_any (o : OpV) (hok : OpOk o) (w : World) : Calls Try.prog 11 #[o.agg] w (PutOp o w) := by
  have HV := Lib.hid (fun W => valid_any o W)
  obtain ⟨r, hr⟩ : ∃ r, r = validV o := ⟨_, rfl⟩
  have HR := Lib.hid hr
  unfold PutOp
  rw [← hr]
  rw [← hr] at HV
  clear hr
  by_cases h0 : r = 0
  · subst h0
    have hs := validV_sizes HR.out.symm
    obtain ⟨k1, k2, k3, _⟩ := hok
    obtain ⟨kd, ss, sq, key, val, old⟩ := o
    dsimp only at hs k1 k2 k3
    unfold OpV.agg at *
    have hHC : ∀ W, Below (w.heap.size + 1) (w.alloc (.cells #[.int .i64 kd, .int .i64 ss, .int .i64 sq, .string key, .string val, .string old] 23)) W → W.cell? ⟨w.heap.size, 0, none⟩ = some (.int .i64 kd) ∧ W.cell? ⟨w.heap.size, 1, none⟩ = some (.int .i64 ss) ∧ W.cell? ⟨w.heap.size, 2, none⟩ = some (.int .i64 sq) ∧ W.cell? ⟨w.heap.size, 3, none⟩ = some (.string key) ∧ W.cell? ⟨w.heap.size, 4, none⟩ = some (.string val) ∧ W.cell? ⟨w.heap.size, 5, none⟩ = some (.string old) := by
      intro W hb
      have hk : W.heap[w.heap.size]? = _ := (hb.block w.heap.size (by omega)).trans (heap_alloc_new w _)
      refine ⟨?_, ?_, ?_, ?_, ?_, ?_⟩ <;> rw [blk_cell hk] <;> rfl
    have HC := Lib.hid hHC
    have hcat : ∀ W : World, (Op.stringOp .add ⟨(vars [kd, ss, sq]).toArray⟩ ⟨(textsB [key, val, old]).toArray⟩).run Try.prog W = .ok (.string ⟨(opB ⟨kd, ss, sq, key, val, old⟩).toArray⟩) W := fun W => by
      have h1 := vars_len [kd, ss, sq]
      have h2 := textsB_len [key, val, old]
      rw [cat_run _ _ W (by simp at h1 h2; omega)]
      rfl
    have HK := Lib.hid (And.intro k1 (And.intro k2 k3))
    have HSz := Lib.hid hs
    clear hHC k1 k2 k3 hs
    go_enter Try.func11, Try.ntmps11
    go_wp2_with fail
    refine (HV.out _).mono ?_
    rintro e w1 ⟨rfl, hb1⟩
    have hv1 : Below (w.heap.size + 1) (w.alloc (.cells #[.int .i64 kd, .int .i64 ss, .int .i64 sq, .string key, .string val, .string old] 23)) w1 := hb1.mono (by simp)
    have hs1 : w.heap.size + 1 ≤ w1.heap.size := by have := hv1.size; simp at this; omega
    clear hb1
    go_wp2_with fail
    go_region_held3 (fun W => W.cell? ⟨w.heap.size, 0, none⟩ = some (.int .i64 kd) ∧ W.cell? ⟨w.heap.size, 1, none⟩ = some (.int .i64 ss) ∧ W.cell? ⟨w.heap.size, 2, none⟩ = some (.int .i64 sq) ∧ W.cell? ⟨w.heap.size, 3, none⟩ = some (.string key) ∧ W.cell? ⟨w.heap.size, 4, none⟩ = some (.string val) ∧ W.cell? ⟨w.heap.size, 5, none⟩ = some (.string old))
      ((refine HC.out _ ?_; (repeat (with_reducible (first | assumption | exact Below.refl _ _ | refine Below.drew ?_ | refine Below.alloc ?_ ?_ _))); all_goals (simp <;> omega)))
      (first
        | (go_at_call 45; ((refine (var_row [kd, ss, sq] 3 (by first | exact new_at _ _ _ (by simp) | exact old_at _ _ _ _ (new_at _ _ _ (by simp))) rfl rfl (by omega) (by have := HK.out; simp; omega)).mono ?_); rintro e5 w5 ⟨rfl, hb5⟩; have hv5 : Below (w.heap.size + 1) (w.alloc (.cells #[.int .i64 kd, .int .i64 ss, .int .i64 sq, .string key, .string val, .string old] 23)) w5 := (by (refine Below.trans ?_ (hb5.mono ?_)); (repeat (with_reducible (first | assumption | exact Below.refl _ _ | refine Below.drew ?_ | refine Below.alloc ?_ ?_ _))); all_goals (simp <;> omega)); have hs5 : w.heap.size + 1 ≤ w5.heap.size := (by have := hv5.size; simp at this; omega)))
        | (go_at_call 46; ((refine (text_row [key, val, old] 3 (by first | exact new_at _ _ _ (by simp) | exact old_at _ _ _ _ (new_at _ _ _ (by simp)) | exact ((hb5.block _ (by first | (simp; done) | (simp; omega))).trans (by first | exact new_at _ _ _ (by simp) | exact old_at _ _ _ _ (new_at _ _ _ (by simp))))) rfl rfl (by omega) (by have := HSz.out; simp; omega)).mono ?_); rintro e6 w6 ⟨rfl, hb6⟩; have hv6 : Below (w.heap.size + 1) (w.alloc (.cells #[.int .i64 kd, .int .i64 ss, .int .i64 sq, .string key, .string val, .string old] 23)) w6 := (by (refine Below.trans ?_ (hb6.mono ?_)); (repeat (with_reducible (first | assumption | exact Below.refl _ _ | refine Below.drew ?_ | refine Below.alloc ?_ ?_ _))); all_goals (simp <;> omega)); have hs6 : w.heap.size + 1 ≤ w6.heap.size := (by have := hv6.size; simp at this; omega))))
    all_goals (
      go_wp2_with fail
      go_ret2
      exact ⟨rfl, ((Below.refl _ _).alloc (Nat.le_refl _) _).trans (hv6.mono (by omega))⟩)
  · have hd : (r != 0) = true := by simpa using h0
    rw [if_neg h0]
    obtain ⟨kd, ss, sq, key, val, old⟩ := o
    unfold OpV.agg at *
    clear h0
    go_enter Try.func11, Try.ntmps11
    go_wp2_with fail
    refine (HV.out _).mono ?_
    rintro e w1 ⟨rfl, hb1⟩
    go_wp2_with fail
    go_ret2
    exact ⟨rfl, ((Below.refl _ _).alloc (Nat.le_refl _) _).trans (hb1.mono (by simp))⟩
end Go.Proofs.Ytfogoebflfkknaa
