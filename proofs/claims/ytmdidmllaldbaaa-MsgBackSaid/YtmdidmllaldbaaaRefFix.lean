/- The walks of arboretumref1.Fix and Unfix. -/
import Derived.Test.YtmdidmllaldbaaaFix
import Derived.Test.YtmdidmllaldbaaaRowsN
namespace Go.Proofs.Ytmdidmllaldbaaa
open Go.RowKit
set_option linter.unusedVariables false
theorem rfix_bad (v n : Int) (w : World) (h : n < 1 ∨ 7 < n ∨ v < 0) :
    Calls Try.prog 41 #[.int .i64 v, .int .i64 n] w fun e w' => e = .returned (.tuple #[.string ⟨#[]⟩, .int .i64 1]) ∧ w = w' := by
  rcases (show n < 1 ∨ (1 ≤ n ∧ 7 < n) ∨ (1 ≤ n ∧ n ≤ 7 ∧ v < 0) by omega) with h1 | ⟨h1, h2⟩ | ⟨h1, h2, h3⟩
  all_goals
    clear h
    go_enter Try.func41, Try.ntmps41
    go_wp2
    go_ret2
    exact ⟨rfl, rfl⟩
/-- What Fix answers where its arguments may be. -/
def rfixE (v n : Nat) : List UInt8 × Int := if v < 256 ^ n then (fixB v n, 0) else ([], 1)
set_option maxRecDepth 20000 in
set_option maxHeartbeats 1000000 in
theorem rfix_any (v n : Nat) (w : World) (hv : v ≤ 9223372036854775807) (h1 : 1 ≤ n) (h2 : n ≤ 7) :
    Calls Try.prog 41 #[.int .i64 v, .int .i64 n] w fun e w' => e = .returned (.tuple #[.string ⟨(rfixE v n).1.toArray⟩, .int .i64 (rfixE v n).2]) ∧ Below w.heap.size w w' := by
  obtain ⟨i0, hi, hz0, hz1, hz2⟩ := info_parts u8info
  have HE : Hid (rfixE v n = if v < 256 ^ n then (fixB v n, 0) else ([], 1)) := Lib.hid rfl
  obtain ⟨E, hE⟩ : ∃ E, E = rfixE v n := ⟨_, rfl⟩
  rw [← hE] at HE ⊢
  clear hE
  go_enter Try.func41, Try.ntmps41
  go_wp2
  go_loopw [0, 6, 7] (fun x b i wr => ∃ (k m : Nat) (bv : Value), b = bv ∧ k ≤ n ∧ i = .int .i64 k ∧ x = .int .i64 m ∧ m ≤ 9223372036854775807 ∧ Hid (m = v / 256 ^ k) ∧ Hid (wr.ownsRow w.heap.size 5 1 bv k (Lib.byteCells (fixB v k))) ∧ Hid (Below w.heap.size w wr)) (fun _ _ i _ => n - (intOf i).toNat)
  case atStart => exact ⟨0, v, _, rfl, Nat.zero_le _, rfl, rfl, hv, Lib.hid (by simp), Lib.hid (World.ownsRow_nil _ _ _ _), Lib.hid (Below.refl _ _)⟩
  case round =>
    obtain ⟨k, m, bv, rfl, hk, rfl, rfl, hm, HM, HO, HB⟩ := hrel
    have hsz := HB.out.size
    by_cases hlt : k < n
    · obtain ⟨cb, hcb⟩ : ∃ cb, cb = UInt8.ofNat (v / 256 ^ k) := ⟨_, rfl⟩
      have hby : (m : Int) % 256 = (cb.toNat : Int) := by rw [hcb, HM.out]; simp
      have HF : Hid (fixB v (k + 1) = fixB v k ++ [cb]) := Lib.hid (by rw [hcb]; rfl)
      have HD : Hid (m / 256 = v / 256 ^ (k + 1)) := Lib.hid (by rw [HM.out, Nat.pow_succ, Nat.div_div_eq_div_mul])
      have hc8 := cb.toNat_lt
      clear hcb
      go_wp2_with (at_builtin; refine wpList_append_new rfl (.tmp 23) (.tmp 27) 34 rfl w.heap.size 5 i0 (.int .u8 0) 1 1 Try.underlying34 hi hz0 hz1 hz2 rfl (by omega) _ k (Lib.byteCells (fixB v k)) rfl HO.out hsz [.int .u8 (cb.toNat : Int)] 1 rfl rfl rfl (by simp [Value.oneCell']) (by omega) (by omega) ?_; intro v1 w1 hown1 hg1 hb1 hs1 hat1; have HOwn1 := Lib.hid hown1; have HBel1 := Lib.hid (hb1 w HB.out); clear hown1 hb1 hg1 hat1)
      go_roundw
      case rel => exact ⟨k + 1, m / 256, _, rfl, by omega, by go_num, by go_num, by omega, HD, Lib.hid (by rw [HF.out, Lib.byteCells_append]; exact HOwn1.out), HBel1⟩
      case measure => simp [intOf]; omega
    · obtain rfl : k = n := by omega
      by_cases hg : v < 256 ^ k
      · have hm0 : m = 0 := by rw [HM.out]; exact Nat.div_eq_of_lt hg
        have hE := HE.out
        rw [if_pos hg] at hE
        subst hE
        have hl : (fixB v k).length = k := fixB_len v k
        have hcv := run_string_own (P := Try.prog) (show wr.ownsRow w.heap.size 5 1 u6 (fixB v k).length (Lib.byteCells (fixB v k)) from by rw [hl]; exact HO.out) 34 9 Try.underlying34 Try.underlying5 Try.underlying9
        subst hm0
        clear hl hg HM
        go_wp2_with fail
        go_ret2
        exact ⟨rfl, HB.out⟩
      · have hm0 : 0 < m := by rw [HM.out]; exact Nat.div_pos (by omega) (Nat.pow_pos (by omega))
        have hE := HE.out
        rw [if_neg hg] at hE
        subst hE
        have d0 : decide (0 < m) = true := by simpa using hm0
        have d1 : decide (0 < (m : Int)) = true := by simp <;> omega
        clear hg HM
        go_wp2_with fail
        go_ret2
        exact ⟨rfl, HB.out⟩
end Go.Proofs.Ytmdidmllaldbaaa
