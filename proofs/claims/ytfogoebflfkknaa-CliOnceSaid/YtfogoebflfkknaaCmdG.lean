/- The walks of cmd.Ask and arboretumlaw23.Small; cmd.Asked, the three ways in one. -/
import Derived.Test.YtfogoebflfkknaaCmdFb
import Derived.Test.YtfogoebflfkknaaCmdW
namespace Go.Proofs.Ytfogoebflfkknaa
open Go.RowKit
set_option linter.unusedVariables false
def askB (n : Int) (o : OpV) : List UInt8 := 113 :: (vars [n] ++ opB o)
set_option maxRecDepth 20000 in
theorem ask_bad (n : Int) (o : OpV) (hok : OpOk o) (hv : validV o ≠ 0) (w : World) :
    Calls Try.prog 19 #[.int .i64 n, o.agg] w fun e w' => e = .returned (.tuple #[.string ⟨#[]⟩, .int .i64 (validV o)]) ∧ Below w.heap.size w w' := by
  have HP := Lib.hid (fun W => putOp_any o hok W)
  unfold PutOp at HP
  rw [if_neg hv] at HP
  obtain ⟨g, hg⟩ : ∃ g, g = validV o := ⟨_, rfl⟩
  rw [← hg] at HP hv ⊢
  have hd : (g != 0) = true := by simpa using hv
  clear hg hv hok
  obtain ⟨kd, ss, sq, key, val, old⟩ := o
  unfold OpV.agg at *
  go_enter Try.func19, Try.ntmps19
  go_wp2_with fail
  refine (HP.out _).mono ?_
  rintro e w1 ⟨rfl, hb1⟩
  go_wp2_with fail
  go_ret2
  exact ⟨rfl, ((Below.refl _ _).alloc (Nat.le_refl _) _).trans (hb1.mono (by simp))⟩
set_option maxRecDepth 20000 in
theorem ask_good (n : Int) (hn : -9223372036854775808 ≤ n ∧ n ≤ 9223372036854775807) (o : OpV) (hok : OpOk o) (hv : validV o = 0) (w : World) :
    Calls Try.prog 19 #[.int .i64 n, o.agg] w fun e w' => e = .returned (.tuple #[.string ⟨(askB n o).toArray⟩, .int .i64 0]) ∧ Below w.heap.size w w' := by
  have HP := Lib.hid (fun W => putOp_any o hok W)
  unfold PutOp at HP
  rw [if_pos hv, hv] at HP
  have hl : (opB o).length ≤ 3000 := by
    have hs := validV_sizes hv
    have h1 := vars_len [o.kd, o.ss, o.sq]
    have h2 := textsB_len [o.key, o.val, o.old]
    unfold opB
    rw [List.length_append]
    simp at h1 h2
    omega
  have hcat1 : ∀ W : World, (Op.stringOp .add ⟨#[113]⟩ ⟨(vars [n]).toArray⟩).run Try.prog W = .ok (.string ⟨(113 :: vars [n]).toArray⟩) W := fun W => by
    have h1 := vars_len [n]
    exact cat_run [113] _ W (by simp at h1 ⊢; omega)
  have hcat2 : ∀ W : World, (Op.stringOp .add ⟨(113 :: vars [n]).toArray⟩ ⟨(opB o).toArray⟩).run Try.prog W = .ok (.string ⟨(askB n o).toArray⟩) W := fun W => by
    have h1 := vars_len [n]
    rw [cat_run _ _ W (by simp at h1 ⊢; omega)]
    rfl
  obtain ⟨B, hB⟩ : ∃ B, B = opB o := ⟨_, rfl⟩
  obtain ⟨Q, hQ⟩ : ∃ Q, Q = askB n o := ⟨_, rfl⟩
  rw [← hB] at HP hcat2
  rw [← hQ] at hcat2 ⊢
  have HC1 := Lib.hid hcat1
  have HC2 := Lib.hid hcat2
  clear hB hQ hv hok hl hcat1 hcat2
  obtain ⟨kd, ss, sq, key, val, old⟩ := o
  unfold OpV.agg at *
  go_enter Try.func19, Try.ntmps19
  go_wp2_with fail
  refine (HP.out _).mono ?_
  rintro e w1 ⟨rfl, hb1⟩
  have hv1 : Below w.heap.size w w1 := ((Below.refl _ _).alloc (Nat.le_refl _) _).trans (hb1.mono (by simp))
  clear hb1 HP
  go_wp2_with fail
  refine (var_row [n] 1 (new_at w1 _ _ rfl) rfl rfl (by omega) (by simpa using hn)).mono ?_
  rintro e w2 ⟨rfl, hb2⟩
  have hv2 : Below w.heap.size w w2 := (hv1.alloc hv1.size _).trans (hb2.mono (by have := hv1.size; simp; omega))
  have hcat1 := HC1.out w2
  have hcat2 := HC2.out w2
  clear hv1 hb2 HC1 HC2
  go_wp2_with fail
  go_ret2
  exact ⟨rfl, hv2⟩
def smallB (o : OpV) : Bool := decide (o.key.size ≤ 3000) && (decide (o.val.size ≤ 3000) && decide (o.old.size ≤ 3000))
set_option maxRecDepth 20000 in
theorem small_op (o : OpV) (hok : OpOk o) (w : World) : Calls Try.prog 9 #[o.agg] w fun e w' => e = .returned (.bool (smallB o)) ∧ Below w.heap.size w w' := by
  obtain ⟨-, -, -, a, b, c⟩ := hok
  obtain ⟨kd, ss, sq, key, val, old⟩ := o
  dsimp only at a b c
  unfold OpV.agg
  rcases (show 3000 < key.size ∨ (key.size ≤ 3000 ∧ 3000 < val.size) ∨ (key.size ≤ 3000 ∧ val.size ≤ 3000 ∧ 3000 < old.size) ∨ (key.size ≤ 3000 ∧ val.size ≤ 3000 ∧ old.size ≤ 3000) by omega) with h | ⟨h1, h2⟩ | ⟨h1, h2, h3⟩ | ⟨h1, h2, h3⟩
  · have hr : smallB ⟨kd, ss, sq, key, val, old⟩ = false := by unfold smallB; simp; omega
    rw [hr]
    clear hr
    go_enter Try.func9, Try.ntmps9
    go_wp2_with fail
    go_ret
    exact ⟨rfl, (Below.refl _ _).alloc (Nat.le_refl _) _⟩
  · have hr : smallB ⟨kd, ss, sq, key, val, old⟩ = false := by unfold smallB; simp; omega
    rw [hr]
    clear hr
    go_enter Try.func9, Try.ntmps9
    go_wp2_with fail
    go_ret
    exact ⟨rfl, (Below.refl _ _).alloc (Nat.le_refl _) _⟩
  · have hr : smallB ⟨kd, ss, sq, key, val, old⟩ = false := by unfold smallB; simp; omega
    rw [hr]
    clear hr
    have hd : decide ((old.size : Int) ≤ 3000) = false := by simp; omega
    go_enter Try.func9, Try.ntmps9
    go_wp2_with fail
    go_ret
    exact ⟨rfl, (Below.refl _ _).alloc (Nat.le_refl _) _⟩
  · have hr : smallB ⟨kd, ss, sq, key, val, old⟩ = true := by unfold smallB; simp; omega
    rw [hr]
    clear hr
    have hd : decide ((old.size : Int) ≤ 3000) = true := by simp; omega
    go_enter Try.func9, Try.ntmps9
    go_wp2_with fail
    go_ret
    exact ⟨rfl, (Below.refl _ _).alloc (Nat.le_refl _) _⟩
end Go.Proofs.Ytfogoebflfkknaa
