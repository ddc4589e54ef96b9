/- The walk of num.Crc: for texts that lie in memory it tells their check sum. -/
import Derived.Test.YtmdidmllaldbaaaChecked
import Derived.Test.YtmdidmllaldbaaaBase
import Derived.Test.YtmdidmllaldbaaaCrcP
namespace Go.Proofs.Ytmdidmllaldbaaa
open Go.RowKit
theorem u32_half (x : Nat) : ((x : Int) / 2) = ((x / 2 : Nat) : Int) := by omega
theorem u32_not (x : Nat) (h : x < 4294967296) : bits .xor .u32 IntKind.u32.max (x : Int) = 4294967295 - (x : Int) := by
  have e := u32_xor_nat 4294967295 x (by decide) h
  rw [xor_ones x h] at e
  have e2 : IntKind.u32.max = ((4294967295 : Nat) : Int) := by decide
  rw [e2, e]
  omega
set_option maxHeartbeats 400000 in
theorem crc_any (ao : Option Addr) (n c : Nat) (ss : List ByteArray) (w : World) (hlen : ss.length = n) (hn : n ≤ 9223372036854775807)
    (hcell : ∀ k, k < n → ∃ a, ao = some a ∧ w.cell? (a.add k) = some (.string (ss.getD k ByteArray.empty)))
    (hs : ∀ s ∈ ss, s.size ≤ 9223372036854775807) :
    Calls Try.prog 19 #[.slice ao n c] w fun e w' => e = .returned (.int .i64 (4294967295 - crcAll 4294967295 (ss.map (·.data.toList)))) ∧ w = w' := by
  have HC := Lib.hid hcell
  have HL := Lib.hid hlen
  have HS := Lib.hid hs
  clear hcell hlen hs
  go_enter Try.func19, Try.ntmps19
  go_wp2
  go_loop [3, 10] (fun x i => ∃ (k X : Nat), k ≤ n ∧ i = .int .i64 k ∧ X < 4294967296 ∧ x = .int .u32 X ∧ Hid (X = crcAll 4294967295 ((ss.map (·.data.toList)).take k))) (fun _ i => n - (intOf i).toNat)
  case atStart => exact ⟨0, 4294967295, Nat.zero_le _, rfl, by omega, rfl, rfl⟩
  case round =>
    obtain ⟨k, X, hk, rfl, hX, rfl, hXe⟩ := hrel
    by_cases hlt : k < n
    · obtain ⟨a, rfl, hc⟩ := HC.out k hlt
      obtain ⟨s, hse⟩ : ∃ s, s = ss.getD k ByteArray.empty := ⟨_, rfl⟩
      rw [← hse] at hc
      have hsz : s.size ≤ 9223372036854775807 := by
        apply HS.out; rw [hse]
        have : k < ss.length := by rw [HL.out]; exact hlt
        simp [List.getD_eq_getElem?_getD, List.getElem?_eq_getElem this]
      have HE := Lib.hid hse
      clear hse
      go_wp2
      go_loop [3, 16] (fun x i => ∃ (j Y : Nat), j ≤ s.size ∧ i = .int .i64 j ∧ Y < 4294967296 ∧ x = .int .u32 Y ∧ Hid (Y = crcS X (s.data.toList.take j))) (fun _ i => s.size - (intOf i).toNat)
      case atStart => exact ⟨0, X, Nat.zero_le _, rfl, hX, rfl, rfl⟩
      case round =>
        obtain ⟨j, Y, hj, rfl, hY, rfl, hYe⟩ := hrel
        by_cases hjl : j < s.size
        · have hb : s[j].toNat < 256 := s[j].toNat_lt
          have hx : bits .xor .u32 (Y : Int) (s[j].toNat : Int) = ((Y ^^^ s[j].toNat : Nat) : Int) := u32_xor_nat _ _ hY (by omega)
          have hZ : Y ^^^ s[j].toNat < 4294967296 := xor_lt hY (by omega)
          obtain ⟨Z, hZe⟩ : ∃ Z, Z = Y ^^^ s[j].toNat := ⟨_, rfl⟩
          rw [← hZe] at hx hZ
          have HZ := Lib.hid hZe
          clear hZe
          go_wp2
          go_loop [3, 25] (fun x i => ∃ (r V : Nat), r ≤ 8 ∧ i = .int .i64 r ∧ V < 4294967296 ∧ x = .int .u32 V ∧ Hid (V = crcN r Z)) (fun _ i => 8 - (intOf i).toNat)
          case atStart => exact ⟨0, Z, by omega, rfl, hZ, rfl, rfl⟩
          case round =>
            obtain ⟨r, V, hr, rfl, hV, rfl, hVe⟩ := hrel
            by_cases hrl : r < 8
            · have ha : bits .and .u32 (V : Int) 1 = ((V % 2 : Nat) : Int) := by
                have := u32_and_nat V 1 hV (by omega)
                rw [nat_mask1] at this
                exact this
              have hp : bits .xor .u32 ((V : Int) / 2) 3988292384 = ((V / 2 ^^^ 3988292384 : Nat) : Int) := by
                rw [u32_half]
                exact u32_xor_nat (V / 2) 3988292384 (by omega) (by decide)
              go_wp2
              · have ho : ((V : Int) % 2 == 1) = true := by assumption
                go_round
                case rel => exact ⟨r + 1, _, by omega, by go_num, xor_lt (by omega) (by omega), rfl, by
                  show _ = _
                  rw [crcN_succ, ← hVe.out, crcBit, if_pos (by have := of_decide_eq_true ho; omega)]⟩
                case measure => simp [intOf]; omega
              · have ho : ((V : Int) % 2 == 1) = false := by assumption
                go_round
                case rel => exact ⟨r + 1, V / 2, by omega, by go_num, by omega, by go_num, by
                  show _ = _
                  rw [crcN_succ, ← hVe.out, crcBit, if_neg (by have := of_decide_eq_false ho; omega)]⟩
                case measure => simp [intOf]; omega
            · have hr8 : r = 8 := by omega
              have HR := Lib.hid hr8
              clear hr8
              go_wp2
              go_round
              case rel => exact ⟨j + 1, V, by omega, by go_num, hV, rfl, by
                show V = _
                rw [crcS_snoc X s j hjl, ← hYe.out, hVe.out, HR.out, HZ.out]; rfl⟩
              case measure => simp [intOf]; omega
        · go_wp2
          go_round
          case rel => exact ⟨k + 1, Y, by omega, by go_num, hY, rfl, by
            show Y = _
            have hk' : k < (ss.map (·.data.toList)).length := by rw [List.length_map, HL.out]; exact hlt
            rw [List.take_succ_eq_append_getElem hk', crcAll, List.foldl_append]
            show Y = crcS (crcAll _ _) _
            rw [← hXe.out, hYe.out, List.take_of_length_le (by simp; omega), HE.out]
            have hk2 : k < ss.length := by rw [HL.out]; exact hlt
            simp [List.getD_eq_getElem?_getD, List.getElem?_eq_getElem hk2]⟩
          case measure => simp [intOf]; omega
    · have hkn : k = n := by omega
      have HK := Lib.hid hkn
      clear hkn
      go_wp2
      go_ret
      exact ⟨ret_int (by
        rw [u32_not X hX, IntWalk.wrap64_in _ ⟨by omega, by omega⟩, hXe.out, HK.out, List.take_of_length_le (by simp [HL.out])]), rfl⟩
end Go.Proofs.Ytmdidmllaldbaaa
