/- The walks of arboretumref1.Fix and Unfix. -/
import Derived.Test.YtegiibpdkioocaaFix
import Derived.Test.YtegiibpdkioocaaRowsN
namespace Go.Proofs.Ytegiibpdkioocaa
open Go.RowKit
set_option linter.unusedVariables false
theorem rfix_bad (v n : Int) (w : World) (h : n < 1 ∨ 7 < n ∨ v < 0) :
    Calls Try.prog 17 #[.int .i64 v, .int .i64 n] w fun e w' => e = .returned (.tuple #[.string ⟨#[]⟩, .int .i64 1]) ∧ w = w' := by
  rcases (show n < 1 ∨ (1 ≤ n ∧ 7 < n) ∨ (1 ≤ n ∧ n ≤ 7 ∧ v < 0) by omega) with h1 | ⟨h1, h2⟩ | ⟨h1, h2, h3⟩
  all_goals
    clear h
    go_enter Try.func17, Try.ntmps17
    go_wp2
    go_ret2
    exact ⟨rfl, rfl⟩
/-- What Fix answers where its arguments may be. -/
def rfixE (v n : Nat) : List UInt8 × Int := if v < 256 ^ n then (fixB v n, 0) else ([], 1)
set_option maxRecDepth 20000 in
set_option maxHeartbeats 1000000 in
theorem rfix_any (v n : Nat) (w : World) (hv : v ≤ 9223372036854775807) (h1 : 1 ≤ n) (h2 : n ≤ 7) :
    Calls Try.prog 17 #[.int .i64 v, .int .i64 n] w fun e w' => e = .returned (.tuple #[.string ⟨(rfixE v n).1.toArray⟩, .int .i64 (rfixE v n).2]) ∧ Below w.heap.size w w' := by
  obtain ⟨i0, hi, hz0, hz1, hz2⟩ := info_parts u8info
  have HE : Hid (rfixE v n = if v < 256 ^ n then (fixB v n, 0) else ([], 1)) := Lib.hid rfl
  obtain ⟨E, hE⟩ : ∃ E, E = rfixE v n := ⟨_, rfl⟩
  rw [← hE] at HE ⊢
  clear hE
  go_enter Try.func17, Try.ntmps17
  go_wp2
  go_loopw [0, 6, 7] (fun x b i wr => ∃ (k m : Nat) (bv : Value), b = bv ∧ k ≤ n ∧ i = .int .i64 k ∧ x = .int .i64 m ∧ m ≤ 9223372036854775807 ∧ Hid (m = v / 256 ^ k) ∧ Hid (wr.ownsRow w.heap.size 5 1 bv k (Lib.byteCells (fixB v k))) ∧ Hid (Below w.heap.size w wr)) (fun _ _ i _ => n - (intOf i).toNat)
  case atStart => exact ⟨0, v, _, rfl, Nat.zero_le _, rfl, rfl, hv, Lib.hid (by simp), Lib.hid (World.ownsRow_nil _ _ _ _), Lib.hid (Below.refl _ _)⟩
  case round =>
    obtain ⟨k, m, bv, rfl, hk, rfl, rfl, hm, HM, HO, HB⟩ := hrel
    have hsz := HB.out.size
    by_cases hlt : k < n
    · obtain ⟨cb, hcb⟩ : ∃ cb, cb = UInt8.ofNat (v / 256 ^ k) := ⟨_, rfl⟩
      have hby : (m : Int) % 256 = (cb.toNat : Int) := by rw [hcb, HM.out]; simp
      have HF : Hid (fixB v (k + 1) = fixB v k ++ [cb]) := Lib.hid (by rw [hcb]; rfl)
      have HD : Hid (m / 256 = v / 256 ^ (k + 1)) := Lib.hid (by rw [HM.out, Nat.pow_succ, Nat.div_div_eq_div_mul])
      have hc8 := cb.toNat_lt
      clear hcb
      go_wp2_with (at_builtin; refine wpList_append_new rfl (.tmp 23) (.tmp 27) 97 rfl w.heap.size 5 i0 (.int .u8 0) 1 1 Try.underlying97 hi hz0 hz1 hz2 rfl (by omega) _ k (Lib.byteCells (fixB v k)) rfl HO.out hsz [.int .u8 (cb.toNat : Int)] 1 rfl rfl rfl (by simp [Value.oneCell']) (by omega) (by omega) ?_; intro v1 w1 hown1 hg1 hb1 hs1 hat1; have HOwn1 := Lib.hid hown1; have HBel1 := Lib.hid (hb1 w HB.out); clear hown1 hb1 hg1 hat1)
      go_roundw
      case rel => exact ⟨k + 1, m / 256, _, rfl, by omega, by go_num, by go_num, by omega, HD, Lib.hid (by rw [HF.out, Lib.byteCells_append]; exact HOwn1.out), HBel1⟩
      case measure => simp [intOf]; omega
    · obtain rfl : k = n := by omega
      by_cases hg : v < 256 ^ k
      · have hm0 : m = 0 := by rw [HM.out]; exact Nat.div_eq_of_lt hg
        have hE := HE.out
        rw [if_pos hg] at hE
        subst hE
        have hl : (fixB v k).length = k := fixB_len v k
        have hcv := run_string_own (P := Try.prog) (show wr.ownsRow w.heap.size 5 1 u6 (fixB v k).length (Lib.byteCells (fixB v k)) from by rw [hl]; exact HO.out) 97 9 Try.underlying97 Try.underlying5 Try.underlying9
        subst hm0
        clear hl hg HM
        go_wp2_with fail
        go_ret2
        exact ⟨rfl, HB.out⟩
      · have hm0 : 0 < m := by rw [HM.out]; exact Nat.div_pos (by omega) (Nat.pow_pos (by omega))
        have hE := HE.out
        rw [if_neg hg] at hE
        subst hE
        have d0 : decide (0 < m) = true := by simpa using hm0
        have d1 : decide (0 < (m : Int)) = true := by simp <;> omega
        clear hg HM
        go_wp2_with fail
        go_ret2
        exact ⟨rfl, HB.out⟩
theorem runfix_bad (b : ByteArray) (at_ n : Int) (w : World) (h : n < 1 ∨ 7 < n ∨ at_ < 0) :
    Calls Try.prog 19 #[.string b, .int .i64 at_, .int .i64 n] w fun e w' => e = .returned (.tuple #[.int .i64 0, .int .i64 1]) ∧ w = w' := by
  rcases (show n < 1 ∨ (1 ≤ n ∧ 7 < n) ∨ (1 ≤ n ∧ n ≤ 7 ∧ at_ < 0) by omega) with h1 | ⟨h1, h2⟩ | ⟨h1, h2, h3⟩
  all_goals
    clear h
    go_enter Try.func19, Try.ntmps19
    go_wp2
    go_ret2
    exact ⟨rfl, rfl⟩
theorem runfix_short (b : ByteArray) (at_ n : Nat) (w : World) (hb : b.size ≤ 9223372036854775807) (h1 : 1 ≤ n) (h2 : n ≤ 7) (h : b.size < at_ + n) :
    Calls Try.prog 19 #[.string b, .int .i64 at_, .int .i64 n] w fun e w' => e = .returned (.tuple #[.int .i64 0, .int .i64 5]) ∧ w = w' := by
  by_cases h3 : b.size < n
  · clear h
    go_enter Try.func19, Try.ntmps19
    go_wp2
    go_ret2
    exact ⟨rfl, rfl⟩
  · have h4 : (b.size : Int) - n < at_ := by omega
    have h5 : 0 ≤ (b.size : Int) - n := by omega
    clear h
    go_enter Try.func19, Try.ntmps19
    go_wp2
    go_ret2
    exact ⟨rfl, rfl⟩
set_option maxRecDepth 20000 in
set_option maxHeartbeats 1000000 in
theorem runfix_good (b : ByteArray) (at_ n : Nat) (w : World) (hb : b.size ≤ 9223372036854775807) (h1 : 1 ≤ n) (h2 : n ≤ 7) (h : at_ + n ≤ b.size) :
    Calls Try.prog 19 #[.string b, .int .i64 at_, .int .i64 n] w fun e w' => e = .returned (.tuple #[.int .i64 (unfixB ((b.data.toList.drop at_).take n)), .int .i64 0]) ∧ w = w' := by
  have h3 : ¬ b.size < n := by omega
  have h4 : ¬ (b.size : Int) - n < at_ := by omega
  have h5 : 0 ≤ (b.size : Int) - n := by omega
  obtain ⟨E, hE⟩ : ∃ E, E = unfixB ((b.data.toList.drop at_).take n) := ⟨_, rfl⟩
  rw [← hE]
  have HE := Lib.hid hE
  clear hE
  go_enter Try.func19, Try.ntmps19
  go_wp2
  go_loop [8, 9] (fun v i => ∃ j acc : Nat, j ≤ n ∧ i = .int .i64 ((j : Int) - 1) ∧ v = .int .i64 acc ∧ acc < 256 ^ (n - j) ∧ Hid (acc = unfixB ((b.data.toList.drop (at_ + j)).take (n - j)))) (fun _ i => (intOf i + 1).toNat)
  case atStart => exact ⟨n, 0, Nat.le_refl _, rfl, rfl, by simp, Lib.hid (by simp [unfixB])⟩
  case round =>
    obtain ⟨j, acc, hj, rfl, rfl, hacc, HA⟩ := hrel
    by_cases hlt : 0 < j
    · obtain ⟨i, rfl⟩ : ∃ i, j = i + 1 := ⟨j - 1, by omega⟩
      have hi : at_ + i < b.size := by omega
      have hc : b[at_ + i].toNat < 256 := b[at_ + i].toNat_lt
      have d1 : ((i + 1 : Nat) : Int) - 1 = i := by omega
      have x1 : (0 : Int) ≤ i := by omega
      have hp : 256 ^ (n - (i + 1)) ≤ 256 ^ 6 := Nat.pow_le_pow_right (by omega) (by omega)
      have hp2 : (256 : Nat) ^ 6 = 281474976710656 := by decide
      have hacc2 : acc < 281474976710656 := by omega
      have hx1 : acc * 256 + b[at_ + i].toNat < 256 ^ (n - i) := by
        rw [show n - i = (n - (i + 1)) + 1 from by omega, Nat.pow_succ]; omega
      have HN : Hid (acc * 256 + b[at_ + i].toNat = unfixB ((b.data.toList.drop (at_ + i)).take (n - i))) := Lib.hid (by
        have hl : at_ + i < b.data.toList.length := hi
        rw [List.drop_eq_getElem_cons hl, show n - i = (n - (i + 1)) + 1 from by omega, List.take_succ_cons, unfixB, show at_ + i + 1 = at_ + (i + 1) from by omega, ← HA.out]
        show acc * 256 + b[at_ + i].toNat = b[at_ + i].toNat + 256 * acc
        omega)
      clear hp hp2 hacc
      go_wp2
      go_round
      case rel => exact ⟨i, acc * 256 + b[at_ + i].toNat, by omega, rfl, by go_num, hx1, HN⟩
      case measure => simp [intOf] <;> omega
    · obtain rfl : j = 0 := by omega
      have hA := HA.out
      rw [Nat.add_zero, Nat.sub_zero, ← HE.out] at hA
      subst hA
      clear hacc HA
      go_wp2
      go_ret2
      exact ⟨rfl, rfl⟩
end Go.Proofs.Ytegiibpdkioocaa
