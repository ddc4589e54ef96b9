/- The walk of num.Crc: for texts that lie in memory it tells their check sum. -/
import Derived.Test.YtmdidmllaldbaaaGreatChecked
import Derived.Test.YtmdidmllaldbaaaGreatBase
import Derived.Test.YtmdidmllaldbaaaGreatCrcP
import Derived.Test.YtmdidmllaldbaaaGreatClone
namespace Go.Proofs.YtmdidmllaldbaaaGreat
/-! ### The walk of num.Crc: for texts that lie in memory it tells their check sum. -/
section
open Go.RowKit
theorem u32_half (x : Nat) : ((x : Int) / 2) = ((x / 2 : Nat) : Int) := by omega
theorem u32_not (x : Nat) (h : x < 4294967296) : bits .xor .u32 IntKind.u32.max (x : Int) = 4294967295 - (x : Int) := by
  have e := u32_xor_nat 4294967295 x (by decide) h
  rw [xor_ones x h] at e
  have e2 : IntKind.u32.max = ((4294967295 : Nat) : Int) := by decide
  rw [e2, e]
  omega
set_option maxHeartbeats 400000 in
theorem crc_any (ao : Option Addr) (n c : Nat) (ss : List ByteArray) (w : World) (hlen : ss.length = n) (hn : n ≤ 9223372036854775807)
    (hcell : ∀ k, k < n → ∃ a, ao = some a ∧ w.cell? (a.add k) = some (.string (ss.getD k ByteArray.empty)))
    (hs : ∀ s ∈ ss, s.size ≤ 9223372036854775807) :
    Calls Tryz.prog 190 #[.slice ao n c] w fun e w' => e = .returned (.int .i64 (4294967295 - crcAll 4294967295 (ss.map (·.data.toList)))) ∧ w = w' := by
  have HC := Lib.hid hcell
  have HL := Lib.hid hlen
  have HS := Lib.hid hs
  clear hcell hlen hs
  go_enter Tryz.func190, Tryz.ntmps190
  go_wp2
  go_loop [3, 10] (fun x i => ∃ (k X : Nat), k ≤ n ∧ i = .int .i64 k ∧ X < 4294967296 ∧ x = .int .u32 X ∧ Hid (X = crcAll 4294967295 ((ss.map (·.data.toList)).take k))) (fun _ i => n - (intOf i).toNat)
  case atStart => exact ⟨0, 4294967295, Nat.zero_le _, rfl, by omega, rfl, rfl⟩
  case round =>
    obtain ⟨k, X, hk, rfl, hX, rfl, hXe⟩ := hrel
    by_cases hlt : k < n
    · obtain ⟨a, rfl, hc⟩ := HC.out k hlt
      obtain ⟨s, hse⟩ : ∃ s, s = ss.getD k ByteArray.empty := ⟨_, rfl⟩
      rw [← hse] at hc
      have hsz : s.size ≤ 9223372036854775807 := by
        apply HS.out; rw [hse]
        have : k < ss.length := by rw [HL.out]; exact hlt
        simp [List.getD_eq_getElem?_getD, List.getElem?_eq_getElem this]
      have HE := Lib.hid hse
      clear hse
      go_wp2
      go_loop [3, 16] (fun x i => ∃ (j Y : Nat), j ≤ s.size ∧ i = .int .i64 j ∧ Y < 4294967296 ∧ x = .int .u32 Y ∧ Hid (Y = crcS X (s.data.toList.take j))) (fun _ i => s.size - (intOf i).toNat)
      case atStart => exact ⟨0, X, Nat.zero_le _, rfl, hX, rfl, rfl⟩
      case round =>
        obtain ⟨j, Y, hj, rfl, hY, rfl, hYe⟩ := hrel
        by_cases hjl : j < s.size
        · have hb : s[j].toNat < 256 := s[j].toNat_lt
          have hx : bits .xor .u32 (Y : Int) (s[j].toNat : Int) = ((Y ^^^ s[j].toNat : Nat) : Int) := u32_xor_nat _ _ hY (by omega)
          have hZ : Y ^^^ s[j].toNat < 4294967296 := xor_lt hY (by omega)
          obtain ⟨Z, hZe⟩ : ∃ Z, Z = Y ^^^ s[j].toNat := ⟨_, rfl⟩
          rw [← hZe] at hx hZ
          have HZ := Lib.hid hZe
          clear hZe
          go_wp2
          go_loop [3, 25] (fun x i => ∃ (r V : Nat), r ≤ 8 ∧ i = .int .i64 r ∧ V < 4294967296 ∧ x = .int .u32 V ∧ Hid (V = crcN r Z)) (fun _ i => 8 - (intOf i).toNat)
          case atStart => exact ⟨0, Z, by omega, rfl, hZ, rfl, rfl⟩
          case round =>
            obtain ⟨r, V, hr, rfl, hV, rfl, hVe⟩ := hrel
            by_cases hrl : r < 8
            · have ha : bits .and .u32 (V : Int) 1 = ((V % 2 : Nat) : Int) := by
                have := u32_and_nat V 1 hV (by omega)
                rw [nat_mask1] at this
                exact this
              have hp : bits .xor .u32 ((V : Int) / 2) 3988292384 = ((V / 2 ^^^ 3988292384 : Nat) : Int) := by
                rw [u32_half]
                exact u32_xor_nat (V / 2) 3988292384 (by omega) (by decide)
              go_wp2
              · have ho : ((V : Int) % 2 == 1) = true := by assumption
                go_round
                case rel => exact ⟨r + 1, _, by omega, by go_num, xor_lt (by omega) (by omega), rfl, by
                  show _ = _
                  rw [crcN_succ, ← hVe.out, crcBit, if_pos (by have := of_decide_eq_true ho; omega)]⟩
                case measure => simp [intOf]; omega
              · have ho : ((V : Int) % 2 == 1) = false := by assumption
                go_round
                case rel => exact ⟨r + 1, V / 2, by omega, by go_num, by omega, by go_num, by
                  show _ = _
                  rw [crcN_succ, ← hVe.out, crcBit, if_neg (by have := of_decide_eq_false ho; omega)]⟩
                case measure => simp [intOf]; omega
            · have hr8 : r = 8 := by omega
              have HR := Lib.hid hr8
              clear hr8
              go_wp2
              go_round
              case rel => exact ⟨j + 1, V, by omega, by go_num, hV, rfl, by
                show V = _
                rw [crcS_snoc X s j hjl, ← hYe.out, hVe.out, HR.out, HZ.out]; rfl⟩
              case measure => simp [intOf]; omega
        · go_wp2
          go_round
          case rel => exact ⟨k + 1, Y, by omega, by go_num, hY, rfl, by
            show Y = _
            have hk' : k < (ss.map (·.data.toList)).length := by rw [List.length_map, HL.out]; exact hlt
            rw [List.take_succ_eq_append_getElem hk', crcAll, List.foldl_append]
            show Y = crcS (crcAll _ _) _
            rw [← hXe.out, hYe.out, List.take_of_length_le (by simp; omega), HE.out]
            have hk2 : k < ss.length := by rw [HL.out]; exact hlt
            simp [List.getD_eq_getElem?_getD, List.getElem?_eq_getElem hk2]⟩
          case measure => simp [intOf]; omega
    · have hkn : k = n := by omega
      have HK := Lib.hid hkn
      clear hkn
      go_wp2
      go_ret
      exact ⟨ret_int (by
        rw [u32_not X hX, IntWalk.wrap64_in _ ⟨by omega, by omega⟩, hXe.out, HK.out, List.take_of_length_le (by simp [HL.out])]), rfl⟩
end
/-! ### The walks of num.Fix and num.Unfix. -/
section
open Go.RowKit
theorem fix_bad (v n : Int) (w : World) (h : n < 1 ∨ 7 < n ∨ v < 0) :
    Calls Tryz.prog 189 #[.int .i64 v, .int .i64 n] w fun e w' => e = .returned (.tuple #[.string ⟨#[]⟩, .int .i64 1]) ∧ w = w' := by
  by_cases h1 : n < 1
  · go_enter Tryz.func189, Tryz.ntmps189
    go_wp2
    go_ret2
    exact ⟨rfl, rfl⟩
  · by_cases h2 : 7 < n
    · go_enter Tryz.func189, Tryz.ntmps189
      go_wp2
      go_ret2
      exact ⟨rfl, rfl⟩
    · have h3 : v < 0 := by omega
      clear h
      go_enter Tryz.func189, Tryz.ntmps189
      go_wp2
      go_ret2
      exact ⟨rfl, rfl⟩
theorem fix_great (v n : Nat) (w : World) (h1 : 1 ≤ n) (h2 : n ≤ 7) (h : ¬ v < 256 ^ n) :
    Calls Tryz.prog 189 #[.int .i64 v, .int .i64 n] w fun e w' => e = .returned (.tuple #[.string ⟨#[]⟩, .int .i64 1]) ∧ w = w' := by
  have hb : (((v : Int) / 2 ^ (8 * n)) != 0) = true := by
    have e : (256 : Nat) ^ n = 2 ^ (8 * n) := by rw [show (256 : Nat) = 2 ^ 8 from rfl, ← Nat.pow_mul]
    have : 0 < v / 2 ^ (8 * n) := Nat.div_pos (by omega) (Nat.pow_pos (by omega))
    have e2 : ((v : Int) / 2 ^ (8 * n)) = ((v / 2 ^ (8 * n) : Nat) : Int) := by simp
    rw [e2]; simp; omega
  clear h
  go_enter Tryz.func189, Tryz.ntmps189
  go_wp2
  go_ret2
  exact ⟨rfl, rfl⟩
set_option maxHeartbeats 400000 in
theorem fix_good (v n : Nat) (w : World) (h1 : 1 ≤ n) (h2 : n ≤ 7) (h : v < 256 ^ n) :
    Calls Tryz.prog 189 #[.int .i64 v, .int .i64 n] w fun e w' => e = .returned (.tuple #[.string ⟨(fixB v n).toArray⟩, .int .i64 0]) ∧ Below w.heap.size w w' := by
  have hb : (((v : Int) / 2 ^ (8 * n)) != 0) = false := by
    have e : (256 : Nat) ^ n = 2 ^ (8 * n) := by rw [show (256 : Nat) = 2 ^ 8 from rfl, ← Nat.pow_mul]
    have : v / 2 ^ (8 * n) = 0 := Nat.div_eq_of_lt (by omega)
    have e2 : ((v : Int) / 2 ^ (8 * n)) = ((v / 2 ^ (8 * n) : Nat) : Int) := by simp
    rw [e2, this]; rfl
  have hmk := run_make_row' (P := Tryz.prog) 160 5 (.int .u8 0) 1 Tryz.underlying160 u8info rfl .i64 .i64 n (by omega) (by omega)
  clear h
  go_enter Tryz.func189, Tryz.ntmps189
  go_wp2
  go_loopw [29] (fun i wr => ∃ (k : Nat) (C : Array Value), k ≤ n ∧ i = .int .i64 k ∧ wr = w.alloc (.cells C 5) ∧ C.size = n ∧ Hid (C.toList.take k = Lib.byteCells (fixB v k))) (fun i _ => n - (intOf i).toNat)
  case atStart => exact ⟨0, _, Nat.zero_le _, rfl, rfl, by simp [size_madeCells], rfl⟩
  case round =>
    obtain ⟨k, C, hk, rfl, rfl, hC, hT⟩ := hrel
    have HC := Lib.hid hC
    clear hC
    by_cases hlt : k < n
    · obtain ⟨u, hu⟩ : ∃ u, C[k]? = some u := ⟨_, Array.getElem?_eq_getElem (by rw [HC.out]; exact hlt)⟩
      go_wp2
      go_roundw
      case rel => exact ⟨k + 1, _, by omega, by go_num, rfl, by simp [HC.out], by
        show _ = _
        have hkl : k < C.toList.length := by rw [Array.length_toList, HC.out]; exact hlt
        rw [Array.toList_setIfInBounds, List.take_succ_eq_append_getElem (by simpa using hkl), List.take_set_of_le (Nat.le_refl _), hT.out, List.getElem_set_self, fixB, Lib.byteCells_append]
        congr 1
        have e : (256 : Nat) ^ k = 2 ^ (8 * k) := by rw [show (256 : Nat) = 2 ^ 8 from rfl, ← Nat.pow_mul]
        show [Value.int .u8 _] = [Value.int .u8 ((UInt8.ofNat (v / 256 ^ k)).toNat : Int)]
        rw [e]; simp⟩
      case measure => simp [intOf]; omega
    · have hkn : k = n := by omega
      have hl : (fixB v n).length = n := fixB_len v n
      have hcv := run_string_at (P := Tryz.prog) (w := w.alloc (.cells C 5)) (b := w.heap.size) (q := 0) (cap := n) 160 9 5 Tryz.underlying160 Tryz.underlying5 Tryz.underlying9 hl (fun i hi => by
        rw [Nat.zero_add, World.cell?_alloc_new, ← hkn, ← hT.out, hkn, List.getElem?_take, if_pos hi]
        simp)
      clear hkn hl
      go_wp2
      go_ret2
      exact ⟨rfl, (Below.refl _ _).alloc (Nat.le_refl _) _⟩
theorem unfix_bad (b : ByteArray) (at_ n : Int) (w : World) (h : n < 1 ∨ 7 < n ∨ at_ < 0) :
    Calls Tryz.prog 193 #[.string b, .int .i64 at_, .int .i64 n] w fun e w' => e = .returned (.tuple #[.int .i64 0, .int .i64 1]) ∧ w = w' := by
  by_cases h1 : n < 1
  · go_enter Tryz.func193, Tryz.ntmps193
    go_wp2
    go_ret2
    exact ⟨rfl, rfl⟩
  · by_cases h2 : 7 < n
    · go_enter Tryz.func193, Tryz.ntmps193
      go_wp2
      go_ret2
      exact ⟨rfl, rfl⟩
    · have h3 : at_ < 0 := by omega
      clear h
      go_enter Tryz.func193, Tryz.ntmps193
      go_wp2
      go_ret2
      exact ⟨rfl, rfl⟩
theorem unfix_short (b : ByteArray) (at_ n : Nat) (w : World) (_hb : b.size ≤ 9223372036854775807) (h1 : 1 ≤ n) (h2 : n ≤ 7) (h : b.size < at_ + n) :
    Calls Tryz.prog 193 #[.string b, .int .i64 at_, .int .i64 n] w fun e w' => e = .returned (.tuple #[.int .i64 0, .int .i64 5]) ∧ w = w' := by
  by_cases h3 : b.size < at_
  · go_enter Tryz.func193, Tryz.ntmps193
    go_wp2
    go_ret2
    exact ⟨rfl, rfl⟩
  · have h4 : (b.size : Int) - at_ < n := by omega
    go_enter Tryz.func193, Tryz.ntmps193
    go_wp2
    go_ret2
    exact ⟨rfl, rfl⟩
theorem i64_or_nat (a b : Nat) (ha : a < 9223372036854775808) (hb : b < 9223372036854775808) : bits .or .i64 (a : Int) (b : Int) = ((a ||| b : Nat) : Int) := by
  have hx : a ||| b < 2 ^ 63 := Nat.or_lt_two_pow (by omega) (by omega)
  show IntKind.i64.wrap ((BitVec.ofInt 64 (a : Int) ||| BitVec.ofInt 64 (b : Int)).toNat : Int) = _
  rw [BitVec.toNat_or, ofInt_u64 a (by omega), ofInt_u64 b (by omega), IntKind.wrap_i64]
  omega
theorem or_fix (acc c k : Nat) (hacc : acc < 256 ^ k) (hk : k ≤ 6) (hc : c < 256) :
    bits .or .i64 (acc : Int) (wrap64 ((c : Int) * 2 ^ (8 * k))) = ((acc + c * 256 ^ k : Nat) : Int) := by
  have e : ((c : Int) * 2 ^ (8 * k)) = ((c * 256 ^ k : Nat) : Int) := by
    rw [show (256 : Nat) = 2 ^ 8 from rfl, ← Nat.pow_mul]; simp
  have h6 : 256 ^ k ≤ 256 ^ 6 := Nat.pow_le_pow_right (by omega) hk
  have h6' : (256 : Nat) ^ 6 = 281474976710656 := by decide
  have hb : c * 256 ^ k ≤ 255 * 281474976710656 := Nat.mul_le_mul (by omega) (by omega)
  rw [e, IntWalk.wrap64_in _ ⟨by omega, by omega⟩, i64_or_nat _ _ (by omega) (by omega)]
  have e2 : (256 : Nat) ^ k = 2 ^ (8 * k) := by rw [show (256 : Nat) = 2 ^ 8 from rfl, ← Nat.pow_mul]
  rw [e2] at hacc ⊢
  rw [Nat.or_comm, Nat.mul_comm c, ← Nat.two_pow_add_eq_or_of_lt hacc, Nat.add_comm]
set_option maxHeartbeats 400000 in
theorem unfix_good (b : ByteArray) (at_ n : Nat) (w : World) (hb : b.size ≤ 9223372036854775807) (h1 : 1 ≤ n) (h2 : n ≤ 7) (h : at_ + n ≤ b.size) :
    Calls Tryz.prog 193 #[.string b, .int .i64 at_, .int .i64 n] w fun e w' => e = .returned (.tuple #[.int .i64 (unfixB ((b.data.toList.drop at_).take n)), .int .i64 0]) ∧ w = w' := by
  have h4 : ¬ (b.size : Int) - at_ < n := by omega
  have h5 : ¬ b.size < at_ := by omega
  go_enter Tryz.func193, Tryz.ntmps193
  go_wp2
  go_loop [8, 35] (fun v i => ∃ k acc : Nat, k ≤ n ∧ i = .int .i64 k ∧ v = .int .i64 acc ∧ acc < 256 ^ k ∧ Hid (acc = unfixB ((b.data.toList.drop at_).take k))) (fun _ i => n - (intOf i).toNat)
  case atStart => exact ⟨0, 0, Nat.zero_le _, rfl, rfl, by omega, rfl⟩
  case round =>
    obtain ⟨k, acc, hk, rfl, rfl, hacc, hA⟩ := hrel
    by_cases hlt : k < n
    · have hi : at_ + k < b.size := by omega
      have hc : b[at_ + k].toNat < 256 := b[at_ + k].toNat_lt
      have hor := or_fix acc b[at_ + k].toNat k hacc (by omega) hc
      have hx1 : acc + b[at_ + k].toNat * 256 ^ k < 256 ^ (k + 1) := by
        have : b[at_ + k].toNat * 256 ^ k ≤ 255 * 256 ^ k := Nat.mul_le_mul_right _ (by omega)
        rw [Nat.pow_succ]; omega
      go_wp2
      go_round
      case rel => exact ⟨k + 1, acc + b[at_ + k].toNat * 256 ^ k, by omega, by go_num, by simp, hx1, by
        show _ = _
        have hl : k < (b.data.toList.drop at_).length := by
          have e : b.data.toList.length = b.size := rfl
          rw [List.length_drop]; omega
        have hl2 : ((b.data.toList.drop at_).take k).length = k := by rw [List.length_take]; omega
        rw [List.take_succ_eq_append_getElem hl, unfixB_append, hl2, ← hA.out]
        have hg : (b.data.toList.drop at_)[k] = b[at_ + k] := by rw [List.getElem_drop]; rfl
        rw [hg]
        show _ = acc + 256 ^ k * (b[at_ + k].toNat + 256 * 0)
        rw [Nat.mul_zero, Nat.add_zero, Nat.mul_comm]⟩
      case measure => simp [intOf]; omega
    · have hkn : k = n := by omega
      have HK := Lib.hid hkn
      clear hkn
      go_wp2
      go_ret2
      exact ⟨by rw [hA.out, HK.out]; rfl, rfl⟩
end
end Go.Proofs.YtmdidmllaldbaaaGreat
