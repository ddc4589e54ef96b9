/- The walk of arboretumref1.Crc. -/
import Derived.Test.YtmdidmllaldbaaaCrc
import Derived.Test.YtmdidmllaldbaaaFix
namespace Go.Proofs.Ytmdidmllaldbaaa
open Go.RowKit
set_option linter.unusedVariables false
theorem i64_xor_nat (a b : Nat) (ha : a < 9223372036854775808) (hb : b < 9223372036854775808) : bits .xor .i64 (a : Int) (b : Int) = ((a ^^^ b : Nat) : Int) := by
  have hx : a ^^^ b < 2 ^ 63 := Nat.xor_lt_two_pow (by omega) (by omega)
  show IntKind.i64.wrap ((BitVec.ofInt 64 (a : Int) ^^^ BitVec.ofInt 64 (b : Int)).toNat : Int) = _
  rw [BitVec.toNat_xor, ofInt_u64 a (by omega), ofInt_u64 b (by omega), IntKind.wrap_i64]
  omega
theorem crc_take (s : ByteArray) (k : Nat) (h : k < s.size) : crcS 4294967295 (s.data.toList.take (k + 1)) = crcN 8 (crcS 4294967295 (s.data.toList.take k) ^^^ s[k].toNat) := crcS_snoc 4294967295 s k h
set_option maxRecDepth 20000 in
set_option maxHeartbeats 1000000 in
theorem rcrc_any (s : ByteArray) (hs : s.size ≤ 9223372036854775807) (w : World) :
    Calls Try.prog 42 #[.string s] w fun e w' => e = .returned (.int .i64 (crc s.data.toList)) ∧ w = w' := by
  have HE : Hid (crc s.data.toList = 4294967295 - crcS 4294967295 s.data.toList) := Lib.hid rfl
  obtain ⟨E, hE⟩ : ∃ E, E = crc s.data.toList := ⟨_, rfl⟩
  rw [← hE] at HE ⊢
  clear hE
  go_enter Try.func42, Try.ntmps42
  go_wp2
  go_loop [3, 4, 5, 6] (fun x i _ _ => ∃ k X : Nat, k ≤ s.size ∧ i = .int .i64 k ∧ x = .int .i64 X ∧ X < 4294967296 ∧ Hid (X = crcS 4294967295 (s.data.toList.take k))) (fun _ i _ _ => s.size - (intOf i).toNat)
  case atStart => exact ⟨0, 4294967295, Nat.zero_le _, rfl, rfl, by omega, Lib.hid rfl⟩
  case round =>
    obtain ⟨k, X, hk, rfl, rfl, hX, HX⟩ := hrel
    by_cases hlt : k < s.size
    · have hx1 : (0 : Int) ≤ k := by omega
      have hx2 : (k : Int) < s.size := by omega
      have hc : s[k].toNat < 256 := s[k].toNat_lt
      have hxr := i64_xor_nat X s[k].toNat (by omega) (by omega)
      have HT := Lib.hid (crc_take s k hlt)
      have hX1 : X ^^^ s[k].toNat < 4294967296 := xor_lt hX (by omega)
      obtain ⟨X1, hX1e⟩ : ∃ X1, X1 = X ^^^ s[k].toNat := ⟨_, rfl⟩
      rw [← hX1e] at hxr hX1
      have HX1 := Lib.hid hX1e
      clear hX1e
      go_wp2
      go_loop [3, 5, 6] (fun x j _ => ∃ n Y : Nat, n ≤ 8 ∧ j = .int .i64 n ∧ x = .int .i64 Y ∧ Y < 4294967296 ∧ Hid (Y = crcN n X1)) (fun _ j _ => 8 - (intOf j).toNat)
      case atStart => exact ⟨0, X1, Nat.zero_le _, rfl, rfl, hX1, Lib.hid rfl⟩
      case round =>
        obtain ⟨n, Y, hn, rfl, rfl, hY, HY⟩ := hrel
        by_cases hn8 : n < 8
        · have HN : Hid (crcBit Y = crcN (n + 1) X1) := Lib.hid (by rw [crcN_succ, ← HY.out])
          by_cases hodd : Y % 2 = 1
          · obtain ⟨Z, hZ⟩ : ∃ Z, Z = Y / 2 ^^^ 3988292384 := ⟨_, rfl⟩
            have hxb : bits .xor .i64 ((Y : Int) / 2) 3988292384 = (Z : Int) := by
              have e : (Y : Int) / 2 = ((Y / 2 : Nat) : Int) := by omega
              rw [e, hZ]
              exact i64_xor_nat (Y / 2) 3988292384 (by omega) (by omega)
            have HB : Hid (crcBit Y = Z) := Lib.hid (by unfold crcBit; rw [if_pos hodd, hZ])
            have hYl : Z < 4294967296 := by rw [hZ]; exact xor_lt (by omega) (by omega)
            have d0 : ((Y : Int) % 2 == 1) = true := by simp; omega
            clear hodd hZ
            go_wp2
            go_round
            case rel => exact ⟨n + 1, Z, by omega, by go_num, rfl, hYl, Lib.hid (by rw [← HN.out, HB.out])⟩
            case measure => simp [intOf] <;> omega
          · have HB : Hid (crcBit Y = Y / 2) := Lib.hid (by unfold crcBit; rw [if_neg hodd])
            have d0 : ((Y : Int) % 2 == 1) = false := by simp; omega
            clear hodd
            go_wp2
            go_round
            case rel => exact ⟨n + 1, Y / 2, by omega, by go_num, by go_num, by omega, Lib.hid (by rw [← HN.out, HB.out])⟩
            case measure => simp [intOf] <;> omega
        · obtain rfl : n = 8 := by omega
          have HN : Hid (Y = crcS 4294967295 (s.data.toList.take (k + 1))) := Lib.hid (by rw [HT.out, ← HX.out, ← HX1.out]; exact HY.out)
          go_wp2
          go_round
          case rel => exact ⟨k + 1, Y, by omega, by go_num, rfl, hY, HN⟩
          case measure => simp [intOf] <;> omega
    · have hkn : k = s.size := by omega
      have hfin : E = 4294967295 - X := by
        have hl : s.data.toList.length = s.size := rfl
        rw [HE.out, HX.out, List.take_of_length_le (by omega)]
      have hfi : (4294967295 : Int) - X = (E : Int) := by rw [hfin]; omega
      clear hkn hfin
      go_wp2
      go_ret
      exact ⟨rfl, rfl⟩
end Go.Proofs.Ytmdidmllaldbaaa
