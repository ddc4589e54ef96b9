/- The walk of arboretumlaw23.CmdValid. -/
import Derived.Test.YtegiibpdkioocaaCmdW
import Derived.Deep.DeepCutAuto
import Derived.Deep.CutBlock
namespace Go.Proofs.Ytegiibpdkioocaa
open Go.RowKit
set_option linter.unusedVariables false
def wantV (ok short : Bool) : Int := if ok then (if short then 0 else 2) else 1
theorem want_any (a b : Bool) (w : World) : Calls Try.prog 52 #[.bool a, .bool b] w fun e w' => e = .returned (.int .i64 (wantV a b)) ∧ w = w' := by
  cases a <;> cases b
  all_goals
    go_enter Try.func52, Try.ntmps52
    go_wp2_with fail
    go_ret
    exact ⟨rfl, rfl⟩
/-- What an operation must have, but for its kind. -/
def goodB (ss sq : Int) (key : ByteArray) : Bool := decide (1 ≤ ss) && (decide (1 ≤ sq) && keyB key)
theorem emp_nil : emp ⟨#[]⟩ = true := by decide +kernel
theorem emp_k : emp ⟨#[107]⟩ = false := by decide +kernel
theorem validV_want {o : OpV} {g s : Bool} (h : rightV o = g) (hs : s = (decide (o.val.size ≤ 900) && decide (o.old.size ≤ 900))) : validV o = wantV g s := by
  unfold validV wantV
  rw [h]
  cases g with
  | false => rfl
  | true =>
    rw [if_pos rfl, if_pos rfl]
    by_cases h2 : o.val.size ≤ 900 ∧ o.old.size ≤ 900
    · rw [if_neg (by omega), if_pos (by rw [hs]; simp [h2])]
    · rw [if_pos (by omega), if_neg (by rw [hs]; simp; omega)]
theorem v_put (ss sq : Int) (key val : ByteArray) : validV ⟨1, ss, sq, key, val, ⟨#[]⟩⟩ = wantV (goodB ss sq key) (decide (val.size ≤ 900)) :=
  validV_want (by simp [rightV, goodB, emp_nil]) (by show _ = (decide (val.size ≤ 900) && decide ((⟨#[]⟩ : ByteArray).size ≤ 900)); rw [show decide ((⟨#[]⟩ : ByteArray).size ≤ 900) = true from rfl, Bool.and_true])
theorem v_del (ss sq : Int) (key : ByteArray) : validV ⟨2, ss, sq, key, ⟨#[]⟩, ⟨#[]⟩⟩ = wantV (goodB ss sq key) true :=
  validV_want (by simp [rightV, goodB, emp_nil]) rfl
theorem v_swap (ss sq : Int) (key val old : ByteArray) : validV ⟨3, ss, sq, key, val, old⟩ = wantV (goodB ss sq key) (decide (val.size ≤ 900) && decide (old.size ≤ 900)) :=
  validV_want (by simp [rightV, goodB]) rfl
theorem v_get (key : ByteArray) : validV ⟨4, 0, 0, key, ⟨#[]⟩, ⟨#[]⟩⟩ = wantV (keyB key) true :=
  validV_want (by simp [rightV, emp_nil]) rfl
theorem v_reg (sq : Int) : validV ⟨5, 0, sq, ⟨#[]⟩, ⟨#[]⟩, ⟨#[]⟩⟩ = 0 :=
  validV_want (g := true) (s := true) (by simp [rightV, emp_nil]) rfl
theorem v_exp (ss : Int) : validV ⟨6, ss, 0, ⟨#[]⟩, ⟨#[]⟩, ⟨#[]⟩⟩ = 0 :=
  validV_want (g := true) (s := true) (by simp [rightV, emp_nil]) rfl
theorem v_get1 (key : ByteArray) : validV ⟨4, 1, 0, key, ⟨#[]⟩, ⟨#[]⟩⟩ = 1 :=
  validV_want (g := false) (s := true) (by simp [rightV]) rfl
theorem v_reg1 (sq : Int) : validV ⟨5, 0, sq, ⟨#[107]⟩, ⟨#[]⟩, ⟨#[]⟩⟩ = 1 :=
  validV_want (g := false) (s := true) (by simp [rightV, emp_k]) rfl
/-- Valid, the operation spelled out. -/
theorem valid_row (kd ss sq : Int) (key val old : ByteArray) (g : Int) (h : validV ⟨kd, ss, sq, key, val, old⟩ = g) (W : World) :
    Calls Try.prog 51 #[.agg #[.int .i64 kd, .int .i64 ss, .int .i64 sq, .string key, .string val, .string old]] W fun e w' => e = .returned (.int .i64 g) ∧ Below W.heap.size W w' := by
  rw [← h]; exact valid_any ⟨kd, ss, sq, key, val, old⟩ W
set_option maxRecDepth 100000 in
set_option maxHeartbeats 8000000 in
theorem walk_CmdValid (ss : Int) (h0 : (Lit.int .i64 ss).wf = true) (sq : Int) (h1 : (Lit.int .i64 sq).wf = true) (key : ByteArray) (hk : key.size ≤ maxLen) (val : ByteArray) (hv : val.size ≤ maxLen) (old : ByteArray) (ho : old.size ≤ maxLen) (w : World) :
    Calls Try.prog 8 #[.int .i64 ss, .int .i64 sq, .string key, .string val, .string old] w fun e w' => e = .returned (.bool true) ∧ Below w.heap.size w w' := by
  unfold maxLen at hk hv ho
  clear h0 h1
  by_cases b1 : ¬ (key.size ≤ 300 ∧ val.size ≤ 1200 ∧ old.size ≤ 1200)
  · go_enter Try.func8, Try.ntmps8
    rcases (show 300 < key.size ∨ (key.size ≤ 300 ∧ 1200 < val.size) ∨ (key.size ≤ 300 ∧ val.size ≤ 1200 ∧ 1200 < old.size) by omega) with c | ⟨c1, c2⟩ | ⟨c1, c2, c3⟩
    all_goals
      clear b1
      go_wp2_with fail
      refine (aliveC_any _).mono ?_
      rintro e w1 ⟨rfl, hb1⟩
      go_wp2_with fail
      go_ret
      exact ⟨rfl, hb1⟩
  obtain ⟨k3, k4, k5⟩ := Classical.not_not.1 b1
  have HP := Lib.hid (fun W => valid_row 1 ss sq key val ⟨#[]⟩ _ (v_put ss sq key val) W)
  have HD := Lib.hid (fun W => valid_row 2 ss sq key ⟨#[]⟩ ⟨#[]⟩ _ (v_del ss sq key) W)
  have HS := Lib.hid (fun W => valid_row 3 ss sq key val old _ (v_swap ss sq key val old) W)
  have HG := Lib.hid (fun W => valid_row 4 0 0 key ⟨#[]⟩ ⟨#[]⟩ _ (v_get key) W)
  have HR := Lib.hid (fun W => valid_row 5 0 sq ⟨#[]⟩ ⟨#[]⟩ ⟨#[]⟩ _ (v_reg sq) W)
  have HE := Lib.hid (fun W => valid_row 6 ss 0 ⟨#[]⟩ ⟨#[]⟩ ⟨#[]⟩ _ (v_exp ss) W)
  have HX := Lib.hid (fun W => valid_row 4 1 0 key ⟨#[]⟩ ⟨#[]⟩ _ (v_get1 key) W)
  have HY := Lib.hid (fun W => valid_row 5 0 sq ⟨#[107]⟩ ⟨#[]⟩ ⟨#[]⟩ _ (v_reg1 sq) W)
  obtain ⟨G, hG⟩ : ∃ G, G = goodB ss sq key := ⟨_, rfl⟩
  rw [← hG] at HP HD HS
  have HGd := Lib.hid hG
  obtain ⟨s1, hs1⟩ : ∃ b, b = decide (val.size ≤ 900) := ⟨_, rfl⟩
  obtain ⟨s2, hs2⟩ : ∃ b, b = decide (old.size ≤ 900) := ⟨_, rfl⟩
  obtain ⟨c1, hc1⟩ : ∃ b, b = decide (1 ≤ key.size) := ⟨_, rfl⟩
  obtain ⟨c2, hc2⟩ : ∃ b, b = decide (key.size ≤ 38) := ⟨_, rfl⟩
  have hkk : keyB key = (c1 && c2) := by rw [hc1, hc2]; rfl
  rw [← hs1] at HP HS
  rw [← hs2] at HS
  rw [hkk] at HG
  have HS1 : Hid (decide ((val.size : Int) ≤ 900) = s1) := Lib.hid (by rw [hs1]; simp; omega)
  have HS2 : Hid (decide ((old.size : Int) ≤ 900) = s2) := Lib.hid (by rw [hs2]; simp; omega)
  have HC1 : Hid (decide (1 ≤ (key.size : Int)) = c1) := Lib.hid (by rw [hc1]; simp; omega)
  have HC2 : Hid (decide ((key.size : Int) ≤ 38) = c2) := Lib.hid (by rw [hc2]; simp; omega)
  clear hG hs1 hs2 hc1 hc2 hkk
  go_enter Try.func8, Try.ntmps8
  go_upto_region 3 with fail
  go_cut [11] (fun s wx => s = .bool G ∧ wx = w)
  case first =>
    rcases (show ss < 1 ∨ (1 ≤ ss ∧ sq < 1) ∨ (1 ≤ ss ∧ 1 ≤ sq ∧ key.size = 0) ∨ (1 ≤ ss ∧ 1 ≤ sq ∧ 0 < key.size ∧ 38 < key.size) ∨ (1 ≤ ss ∧ 1 ≤ sq ∧ 0 < key.size ∧ key.size ≤ 38) by omega) with c | ⟨c1, c2⟩ | ⟨c1, c2, c3⟩ | ⟨c1, c2, c3, c4⟩ | ⟨c1, c2, c3, c4⟩
    all_goals
      go_wp2_with fail
      go_meet
      refine ⟨congrArg Value.bool ?_, rfl⟩
      rw [HGd.out]
      unfold goodB keyB
      rw [Bool.eq_iff_iff]
      simp
      omega
  case rest =>
    obtain ⟨rfl, rfl⟩ := hcut
    clear HGd
    go_wp2_with fail
    refine (HP.out _).mono ?_
    rintro e w1 ⟨rfl, hb1⟩
    clear HP
    go_wp2_with fail
    refine (HD.out _).mono ?_
    rintro e w2 ⟨rfl, hb2'⟩
    have hb2 := hb1.trans (hb2'.mono hb1.size)
    clear HD hb1 hb2'
    go_wp2_with fail
    refine (HS.out _).mono ?_
    rintro e w3 ⟨rfl, hb3'⟩
    have hb3 := hb2.trans (hb3'.mono hb2.size)
    clear HS hb2 hb3'
    go_wp2_with fail
    refine (HG.out _).mono ?_
    rintro e w4 ⟨rfl, hb4'⟩
    have hb4 := hb3.trans (hb4'.mono hb3.size)
    clear HG hb3 hb4'
    go_wp2_with fail
    refine (HR.out _).mono ?_
    rintro e w5 ⟨rfl, hb5'⟩
    have hb5 := hb4.trans (hb5'.mono hb4.size)
    clear HR hb4 hb5'
    go_wp2_with fail
    refine (HE.out _).mono ?_
    rintro e w6 ⟨rfl, hb6'⟩
    have hb6 := hb5.trans (hb6'.mono hb5.size)
    clear HE hb5 hb6'
    go_wp2_with fail
    refine (HX.out _).mono ?_
    rintro e w7 ⟨rfl, hb7'⟩
    have hb7 := hb6.trans (hb7'.mono hb6.size)
    clear HX hb6 hb7'
    go_wp2_with fail
    refine (HY.out _).mono ?_
    rintro e w8 ⟨rfl, hb8'⟩
    have hb8 := hb7.trans (hb8'.mono hb7.size)
    clear HY hb7 hb8'
    go_wp2_with fail
    refine (aliveC_any _).mono ?_
    rintro e w9 ⟨rfl, hb9'⟩
    have hb9 := hb8.trans (hb9'.mono hb8.size)
    clear hb8 hb9'
    have d1 := HS1.out
    have d2 := HS2.out
    have d3 := HC1.out
    have d4 := HC2.out
    clear HS1 HS2 HC1 HC2 k3 k4 k5 b1 hk hv ho
    cases s1 <;> cases s2 <;> cases c1 <;> cases c2
    all_goals
      go_wp2_with fail
      refine (want_any _ _ _).mono ?_
      rintro e w10 ⟨rfl, rfl⟩
      go_wp2_with fail
      refine (want_any _ _ _).mono ?_
      rintro e w10 ⟨rfl, rfl⟩
      go_wp2_with fail
      refine (want_any _ _ _).mono ?_
      rintro e w10 ⟨rfl, rfl⟩
      go_wp2_with fail
      refine (want_any _ _ _).mono ?_
      rintro e w10 ⟨rfl, rfl⟩
      go_wp2_with fail
      go_ret
      exact ⟨rfl, hb9⟩
end Go.Proofs.Ytegiibpdkioocaa
