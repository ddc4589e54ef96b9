/- The walks of arboretumref1.Var, Vars, Text and Bool: the document's own bytes. -/
import Derived.Test.YtmdidmllaldbaaaGreatVar
import Derived.Test.YtmdidmllaldbaaaGreatTextP
import Derived.Test.YtmdidmllaldbaaaGreatRowsN
import Derived.Lib.AppendStr
import Derived.Test.YtmdidmllaldbaaaGreatCrc
namespace Go.Proofs.YtmdidmllaldbaaaGreat
/-! ### The walks of arboretumref1.Var, Vars, Text and Bool: the document's own bytes. -/
section
open Go.RowKit
set_option linter.unusedVariables false
theorem u64w (x : Int) : IntKind.u64.wrap x = x % 18446744073709551616 := by simp [IntKind.wrap, IntKind.bits, IntKind.signed]
set_option maxRecDepth 100000 in
set_option maxHeartbeats 1000000 in
theorem rvar1_any (v : Int) (hv1 : -9223372036854775808 ≤ v) (hv2 : v ≤ 9223372036854775807) (w : World) :
    Calls Tryz.prog 129 #[.int .i64 v] w fun e w' => e = .returned (.string ⟨(var1 v).toArray⟩) ∧ Below w.heap.size w w' := by
  obtain ⟨i0, hi, hz0, hz1, hz2⟩ := info_parts u8info
  have hzl := zig_lt hv1 hv2
  have hV1 : Hid (var1 v = varFuel 9 (zig v)) := Lib.hid rfl
  have hZv : Hid (zig v = if 0 ≤ v then (2 * v).toNat else (-2 * v - 1).toNat) := Lib.hid rfl
  obtain ⟨Z, hZ⟩ : ∃ Z, Z = zig v := ⟨_, rfl⟩
  rw [← hZ] at hzl hV1 hZv
  clear hZ
  by_cases h0 : 0 ≤ v
  · have d0 : decide (v < 0) = false := by simp; omega
    have HZe : Hid (v * 2 = (Z : Int)) := Lib.hid (by rw [hZv.out, if_pos h0]; omega)
    go_enter Tryz.func129, Tryz.ntmps129
    go_wp2
    go_loopw [3, 4] (fun x b wi => ∃ (R : List UInt8) (m f : Nat), x = .int .u64 m ∧ m < 18446744073709551616 ∧ Hid (wi.ownsRow w.heap.size 5 1 b R.length (Lib.byteCells R)) ∧ R.length ≤ 10 ∧ Hid (R ++ varFuel f m = varFuel 9 Z) ∧ Hid (m < 128 ^ f * 2) ∧ R.length + f ≤ 9 ∧ Hid (Below w.heap.size w wi)) (fun x _ _ => (intOf x).toNat)
    case atStart => exact ⟨[], Z, 9, by rw [HZe.out], hzl, Lib.hid (World.ownsRow_nil _ _ _ _), by simp, Lib.hid rfl, Lib.hid (by omega), by simp, Lib.hid (Below.refl _ _)⟩
    case round =>
      obtain ⟨R, m, f, rfl, hm, HOwnR, hRl, hR, hmf, hRf, HBelR⟩ := hrel
      have hBr := HBelR.out.size
      by_cases hm1 : 128 ≤ m
      · obtain ⟨f', hff, hvf, hmf'⟩ := varFuel_more f m hm1 hmf.out
        have HVF := Lib.hid hvf
        have HFF := Lib.hid hff
        have HMF := Lib.hid hmf'
        clear hvf hff hmf'
        have hff' : f' + 1 ≤ f := Nat.le_of_eq HFF.out.symm
        obtain ⟨cb, hcb⟩ : ∃ cb, cb = UInt8.ofNat (m % 128 + 128) := ⟨_, rfl⟩
        have hby : (m : Int) % 128 + 128 = (cb.toNat : Int) := by rw [hcb]; simp; omega
        rw [← hcb] at HVF
        clear hcb
        go_wp2_with (at_builtin; refine wpList_append_new rfl (.tmp 18) (.tmp 23) 160 rfl w.heap.size 5 i0 (.int .u8 0) 1 1 Tryz.underlying160 hi hz0 hz1 hz2 rfl (by omega) _ R.length (Lib.byteCells R) rfl HOwnR.out hBr [.int .u8 (cb.toNat : Int)] 1 rfl rfl rfl (by simp [Value.oneCell']) (by omega) (by omega) ?_; intro v1 w1 hown1 hg1 hb1 hs1 hat1; have HOwn1 := Lib.hid hown1; have HBel1 := Lib.hid (hb1 w HBelR.out); clear hown1 hb1 hg1 hat1)
        go_roundw
        case rel => exact ⟨R ++ [cb], m / 128, f', by go_num, by omega, Lib.hid (by
            have := HOwn1.out
            rw [List.length_append, Lib.byteCells_append]; exact this), by simp; omega, Lib.hid (by rw [← hR.out, HVF.out, List.append_assoc]; rfl), HMF, by simp; omega, HBel1⟩
        case measure => simp [intOf]; omega
      · have hvf := varFuel_last f m hm1
        have HVF := Lib.hid hvf
        have HFin : Hid (R ++ [UInt8.ofNat m] = var1 v) := Lib.hid (by rw [hV1.out, ← hR.out, hvf])
        have hm8 : (UInt8.ofNat m).toNat = m := by simp; omega
        have HM8 := Lib.hid hm8
        clear hvf hm8
        go_wp2_with (at_builtin; refine wpList_append_new rfl (.tmp 27) (.tmp 30) 160 rfl w.heap.size 5 i0 (.int .u8 0) 1 1 Tryz.underlying160 hi hz0 hz1 hz2 rfl (by omega) _ R.length (Lib.byteCells R) rfl HOwnR.out hBr [.int .u8 (m : Int)] 1 rfl rfl rfl (by simp [Value.oneCell']) (by omega) (by omega) ?_; intro v1 w1 hown1 hg1 hb1 hs1 hat1; have hown2 : w1.ownsRow w.heap.size 5 1 v1 (var1 v).length (Lib.byteCells (var1 v)) := (by rw [← HFin.out, List.length_append, Lib.byteCells_append, show Lib.byteCells [UInt8.ofNat m] = [.int .u8 (m : Int)] from (by show [Value.int .u8 ((UInt8.ofNat m).toNat : Int)] = _; rw [HM8.out])]; exact hown1); have hcv := run_string_own (P := Tryz.prog) hown2 160 9 Tryz.underlying160 Tryz.underlying5 Tryz.underlying9; have HBel1 := Lib.hid (hb1 w HBelR.out); clear hown1 hown2 hb1 hg1 hat1)
        go_ret
        exact ⟨rfl, HBel1.out⟩
  · have d0 : decide (v < 0) = true := by simp; omega
    have hlo : v + 1 ≤ 0 := by omega
    have HZe : Hid (-(v + 1) * 2 + 1 = (Z : Int)) := Lib.hid (by rw [hZv.out, if_neg h0]; omega)
    go_enter Tryz.func129, Tryz.ntmps129
    go_wp2
    go_loopw [3, 4] (fun x b wi => ∃ (R : List UInt8) (m f : Nat), x = .int .u64 m ∧ m < 18446744073709551616 ∧ Hid (wi.ownsRow w.heap.size 5 1 b R.length (Lib.byteCells R)) ∧ R.length ≤ 10 ∧ Hid (R ++ varFuel f m = varFuel 9 Z) ∧ Hid (m < 128 ^ f * 2) ∧ R.length + f ≤ 9 ∧ Hid (Below w.heap.size w wi)) (fun x _ _ => (intOf x).toNat)
    case atStart => exact ⟨[], Z, 9, by rw [HZe.out], hzl, Lib.hid (World.ownsRow_nil _ _ _ _), by simp, Lib.hid rfl, Lib.hid (by omega), by simp, Lib.hid (Below.refl _ _)⟩
    case round =>
      obtain ⟨R, m, f, rfl, hm, HOwnR, hRl, hR, hmf, hRf, HBelR⟩ := hrel
      have hBr := HBelR.out.size
      by_cases hm1 : 128 ≤ m
      · obtain ⟨f', hff, hvf, hmf'⟩ := varFuel_more f m hm1 hmf.out
        have HVF := Lib.hid hvf
        have HFF := Lib.hid hff
        have HMF := Lib.hid hmf'
        clear hvf hff hmf'
        have hff' : f' + 1 ≤ f := Nat.le_of_eq HFF.out.symm
        obtain ⟨cb, hcb⟩ : ∃ cb, cb = UInt8.ofNat (m % 128 + 128) := ⟨_, rfl⟩
        have hby : (m : Int) % 128 + 128 = (cb.toNat : Int) := by rw [hcb]; simp; omega
        rw [← hcb] at HVF
        clear hcb
        go_wp2_with (at_builtin; refine wpList_append_new rfl (.tmp 18) (.tmp 23) 160 rfl w.heap.size 5 i0 (.int .u8 0) 1 1 Tryz.underlying160 hi hz0 hz1 hz2 rfl (by omega) _ R.length (Lib.byteCells R) rfl HOwnR.out hBr [.int .u8 (cb.toNat : Int)] 1 rfl rfl rfl (by simp [Value.oneCell']) (by omega) (by omega) ?_; intro v1 w1 hown1 hg1 hb1 hs1 hat1; have HOwn1 := Lib.hid hown1; have HBel1 := Lib.hid (hb1 w HBelR.out); clear hown1 hb1 hg1 hat1)
        go_roundw
        case rel => exact ⟨R ++ [cb], m / 128, f', by go_num, by omega, Lib.hid (by
            have := HOwn1.out
            rw [List.length_append, Lib.byteCells_append]; exact this), by simp; omega, Lib.hid (by rw [← hR.out, HVF.out, List.append_assoc]; rfl), HMF, by simp; omega, HBel1⟩
        case measure => simp [intOf]; omega
      · have hvf := varFuel_last f m hm1
        have HVF := Lib.hid hvf
        have HFin : Hid (R ++ [UInt8.ofNat m] = var1 v) := Lib.hid (by rw [hV1.out, ← hR.out, hvf])
        have hm8 : (UInt8.ofNat m).toNat = m := by simp; omega
        have HM8 := Lib.hid hm8
        clear hvf hm8
        go_wp2_with (at_builtin; refine wpList_append_new rfl (.tmp 27) (.tmp 30) 160 rfl w.heap.size 5 i0 (.int .u8 0) 1 1 Tryz.underlying160 hi hz0 hz1 hz2 rfl (by omega) _ R.length (Lib.byteCells R) rfl HOwnR.out hBr [.int .u8 (m : Int)] 1 rfl rfl rfl (by simp [Value.oneCell']) (by omega) (by omega) ?_; intro v1 w1 hown1 hg1 hb1 hs1 hat1; have hown2 : w1.ownsRow w.heap.size 5 1 v1 (var1 v).length (Lib.byteCells (var1 v)) := (by rw [← HFin.out, List.length_append, Lib.byteCells_append, show Lib.byteCells [UInt8.ofNat m] = [.int .u8 (m : Int)] from (by show [Value.int .u8 ((UInt8.ofNat m).toNat : Int)] = _; rw [HM8.out])]; exact hown1); have hcv := run_string_own (P := Tryz.prog) hown2 160 9 Tryz.underlying160 Tryz.underlying5 Tryz.underlying9; have HBel1 := Lib.hid (hb1 w HBelR.out); clear hown1 hown2 hb1 hg1 hat1)
        go_ret
        exact ⟨rfl, HBel1.out⟩
set_option maxRecDepth 100000 in
set_option maxHeartbeats 1000000 in
theorem rvars_any (ao : Option Addr) (n c : Nat) (vs : List Int) (w : World) (hlen : vs.length = n) (hn : n ≤ 1099511627776)
    (hcell : ∀ k, k < n → ∃ b o, ao = some ⟨b, o, none⟩ ∧ b < w.heap.size ∧ w.cell? ⟨b, o + k, none⟩ = some (.int .i64 (vs.getD k 0)))
    (hv : ∀ v ∈ vs, -9223372036854775808 ≤ v ∧ v ≤ 9223372036854775807) :
    Calls Tryz.prog 131 #[.slice ao n c] w fun e w' => e = .returned (.string ⟨(vars vs).toArray⟩) ∧ Below w.heap.size w w' := by
  obtain ⟨i0, hi, hz0, hz1, hz2⟩ := info_parts u8info
  have HC := Lib.hid hcell
  have HL := Lib.hid hlen
  have HV := Lib.hid hv
  clear hcell hlen hv
  go_enter Tryz.func131, Tryz.ntmps131
  go_wp2
  go_loopw [3, 4] (fun b i wr => ∃ (k : Nat) (P : List UInt8), k ≤ n ∧ i = .int .i64 k ∧ Hid (wr.ownsRow w.heap.size 5 1 b P.length (Lib.byteCells P)) ∧ P.length ≤ 10 * k ∧ Hid (P = vars (vs.take k)) ∧ Hid (Below w.heap.size w wr)) (fun _ i _ => n - (intOf i).toNat)
  case atStart => exact ⟨0, [], Nat.zero_le _, rfl, Lib.hid (World.ownsRow_nil _ _ _ _), by simp, Lib.hid rfl, Lib.hid (Below.refl _ _)⟩
  case round =>
    obtain ⟨k, P, hk, rfl, HO, hPl, hP, HB⟩ := hrel
    have hsz := HB.out.size
    by_cases hlt : k < n
    · obtain ⟨b, o, rfl, hab, hc⟩ := HC.out k hlt
      have hc1 := (HB.out.cell (p := ⟨b, o + k, none⟩) hab).trans hc
      obtain ⟨v, hve⟩ : ∃ v, v = vs.getD k 0 := ⟨_, rfl⟩
      rw [← hve] at hc hc1
      have hkl : k < vs.length := by rw [HL.out]; exact hlt
      obtain ⟨hv1, hv2⟩ : -9223372036854775808 ≤ v ∧ v ≤ 9223372036854775807 := by
        apply HV.out; rw [hve]
        simp [List.getD_eq_getElem?_getD, List.getElem?_eq_getElem hkl]
      have hsn := vars_snoc vs k hkl
      rw [← hve] at hsn
      have HSn := Lib.hid hsn
      have hx1 : (0 : Int) ≤ k := by omega
      have hx2 : (k : Int) < n := by omega
      clear hve hc hsn hkl
      go_wp2_with fail
      refine (rvar1_any v hv1 hv2 _).mono ?_
      rintro e w1 ⟨rfl, hb1⟩
      have HO1 := Lib.hid (own_below HO.out hb1)
      have HB1 := Lib.hid (HB.out.trans (hb1.mono hsz))
      have hsz1 : w.heap.size ≤ w1.heap.size := HB1.out.size
      have hvl := var1_len v
      obtain ⟨S, hS⟩ : ∃ S, S = ByteArray.mk (var1 v).toArray := ⟨_, rfl⟩
      have hSz : S.size = (var1 v).length := by rw [hS]; show (var1 v).toArray.size = _; simp
      have hS10 : S.size ≤ 10 := by omega
      have HSd : Hid (S.data.toList = var1 v) := Lib.hid (by rw [hS, bytes_mk])
      rw [← hS]
      clear hb1 hS hvl hSz
      go_wp2_with (at_builtin; refine Lib.wpList_append_own_string _ rfl _ _ 160 9 rfl w.heap.size 5 i0 Tryz.underlying160 Tryz.underlying9 hi hz0 hz1 hz2 _ _ _ rfl HO1.out S rfl ?c3 ?c4 ?c5 ?_)
      case c3 => unfold maxLen; omega
      case c4 => omega
      case c5 => omega
      intro v' w2 hown' hgrow _
      have HO2 : Hid (w2.ownsRow w.heap.size 5 1 v' (P ++ var1 v).length (Lib.byteCells (P ++ var1 v))) := Lib.hid (by
        have e2 : Lib.byteCells (P ++ S.data.toList) = Lib.byteCells P ++ Lib.strCells S := by rw [Lib.byteCells_append]; rfl
        rw [← HSd.out, e2, List.length_append]
        exact hown')
      have HB2 := Lib.hid (HB1.out.grown hgrow hsz1 (fun k hk => (HO1.out.lt k hk).1))
      clear hown' hgrow
      have hPl2 : (P ++ var1 v).length ≤ 10 * (k + 1) := by rw [List.length_append]; have := var1_len v; omega
      go_wp2_with fail
      go_roundw
      case rel => exact ⟨k + 1, P ++ var1 v, by omega, by go_num, HO2, hPl2, Lib.hid (by rw [HSn.out, ← hP.out]), HB2⟩
      case measure => simp [intOf]; omega
    · obtain rfl : k = n := by omega
      have hcv := run_string_own (P := Tryz.prog) HO.out 160 9 Tryz.underlying160 Tryz.underlying5 Tryz.underlying9
      have hfull : P = vars vs := by rw [hP.out, List.take_of_length_le (by rw [HL.out]; omega)]
      subst hfull
      go_wp2_with fail
      go_ret
      exact ⟨rfl, HB.out⟩
theorem rtext_any (s : ByteArray) (hs : s.size ≤ 9223372036854775000) (w : World) :
    Calls Tryz.prog 130 #[.string s] w fun e w' => e = .returned (.string ⟨(textB s.data.toList).toArray⟩) ∧ Below w.heap.size w w' := by
  have hsl : s.data.toList.length = s.size := rfl
  have hcat : ∀ W : World, (Op.stringOp .add ⟨(var1 (s.size : Int)).toArray⟩ s).run Tryz.prog W = .ok (.string ⟨(textB s.data.toList).toArray⟩) W := fun W => by
    have h1 := var1_len (s.size : Int)
    have h := cat_run (var1 (s.size : Int)) s.data.toList W (by omega)
    rw [show (ByteArray.mk s.data.toList.toArray) = s from bytes_ext (by rw [bytes_mk])] at h
    exact h
  have HV := Lib.hid (fun W => rvar1_any (s.size : Int) (by omega) (by omega) W)
  have HC := Lib.hid hcat
  clear hcat
  go_enter Tryz.func130, Tryz.ntmps130
  go_wp2_with fail
  refine (HV.out _).mono ?_
  rintro e w1 ⟨rfl, hb1⟩
  have hcat := HC.out w1
  go_wp2_with fail
  go_ret
  exact ⟨rfl, hb1⟩
def boolR (v : Bool) : List UInt8 := if v then [1] else [0]
theorem rbool_ref (v : Bool) (w : World) : Calls Tryz.prog 191 #[.bool v] w fun e w' => e = .returned (.string ⟨(boolR v).toArray⟩) ∧ w = w' := by
  cases v with
  | false =>
    go_enter Tryz.func191, Tryz.ntmps191
    go_wp2
    go_ret
    exact ⟨rfl, rfl⟩
  | true =>
    go_enter Tryz.func191, Tryz.ntmps191
    go_wp2
    go_ret
    exact ⟨rfl, rfl⟩
end
/-! ### The walk of arboretumref1.Crc. -/
section
open Go.RowKit
set_option linter.unusedVariables false
theorem i64_xor_nat (a b : Nat) (ha : a < 9223372036854775808) (hb : b < 9223372036854775808) : bits .xor .i64 (a : Int) (b : Int) = ((a ^^^ b : Nat) : Int) := by
  have hx : a ^^^ b < 2 ^ 63 := Nat.xor_lt_two_pow (by omega) (by omega)
  show IntKind.i64.wrap ((BitVec.ofInt 64 (a : Int) ^^^ BitVec.ofInt 64 (b : Int)).toNat : Int) = _
  rw [BitVec.toNat_xor, ofInt_u64 a (by omega), ofInt_u64 b (by omega), IntKind.wrap_i64]
  omega
theorem crc_take (s : ByteArray) (k : Nat) (h : k < s.size) : crcS 4294967295 (s.data.toList.take (k + 1)) = crcN 8 (crcS 4294967295 (s.data.toList.take k) ^^^ s[k].toNat) := crcS_snoc 4294967295 s k h
set_option maxRecDepth 20000 in
set_option maxHeartbeats 1000000 in
theorem rcrc_any (s : ByteArray) (hs : s.size ≤ 9223372036854775807) (w : World) :
    Calls Tryz.prog 81 #[.string s] w fun e w' => e = .returned (.int .i64 (crc s.data.toList)) ∧ w = w' := by
  have HE : Hid (crc s.data.toList = 4294967295 - crcS 4294967295 s.data.toList) := Lib.hid rfl
  obtain ⟨E, hE⟩ : ∃ E, E = crc s.data.toList := ⟨_, rfl⟩
  rw [← hE] at HE ⊢
  clear hE
  go_enter Tryz.func81, Tryz.ntmps81
  go_wp2
  go_loop [3, 4, 5, 6] (fun x i _ _ => ∃ k X : Nat, k ≤ s.size ∧ i = .int .i64 k ∧ x = .int .i64 X ∧ X < 4294967296 ∧ Hid (X = crcS 4294967295 (s.data.toList.take k))) (fun _ i _ _ => s.size - (intOf i).toNat)
  case atStart => exact ⟨0, 4294967295, Nat.zero_le _, rfl, rfl, by omega, Lib.hid rfl⟩
  case round =>
    obtain ⟨k, X, hk, rfl, rfl, hX, HX⟩ := hrel
    by_cases hlt : k < s.size
    · have hx1 : (0 : Int) ≤ k := by omega
      have hx2 : (k : Int) < s.size := by omega
      have hc : s[k].toNat < 256 := s[k].toNat_lt
      have hxr := i64_xor_nat X s[k].toNat (by omega) (by omega)
      have HT := Lib.hid (crc_take s k hlt)
      have hX1 : X ^^^ s[k].toNat < 4294967296 := xor_lt hX (by omega)
      obtain ⟨X1, hX1e⟩ : ∃ X1, X1 = X ^^^ s[k].toNat := ⟨_, rfl⟩
      rw [← hX1e] at hxr hX1
      have HX1 := Lib.hid hX1e
      clear hX1e
      go_wp2
      go_loop [3, 5, 6] (fun x j _ => ∃ n Y : Nat, n ≤ 8 ∧ j = .int .i64 n ∧ x = .int .i64 Y ∧ Y < 4294967296 ∧ Hid (Y = crcN n X1)) (fun _ j _ => 8 - (intOf j).toNat)
      case atStart => exact ⟨0, X1, Nat.zero_le _, rfl, rfl, hX1, Lib.hid rfl⟩
      case round =>
        obtain ⟨n, Y, hn, rfl, rfl, hY, HY⟩ := hrel
        by_cases hn8 : n < 8
        · have HN : Hid (crcBit Y = crcN (n + 1) X1) := Lib.hid (by rw [crcN_succ, ← HY.out])
          by_cases hodd : Y % 2 = 1
          · obtain ⟨Z, hZ⟩ : ∃ Z, Z = Y / 2 ^^^ 3988292384 := ⟨_, rfl⟩
            have hxb : bits .xor .i64 ((Y : Int) / 2) 3988292384 = (Z : Int) := by
              have e : (Y : Int) / 2 = ((Y / 2 : Nat) : Int) := by omega
              rw [e, hZ]
              exact i64_xor_nat (Y / 2) 3988292384 (by omega) (by omega)
            have HB : Hid (crcBit Y = Z) := Lib.hid (by unfold crcBit; rw [if_pos hodd, hZ])
            have hYl : Z < 4294967296 := by rw [hZ]; exact xor_lt (by omega) (by omega)
            have d0 : ((Y : Int) % 2 == 1) = true := by simp; omega
            clear hodd hZ
            go_wp2
            go_round
            case rel => exact ⟨n + 1, Z, by omega, by go_num, rfl, hYl, Lib.hid (by rw [← HN.out, HB.out])⟩
            case measure => simp [intOf] <;> omega
          · have HB : Hid (crcBit Y = Y / 2) := Lib.hid (by unfold crcBit; rw [if_neg hodd])
            have d0 : ((Y : Int) % 2 == 1) = false := by simp; omega
            clear hodd
            go_wp2
            go_round
            case rel => exact ⟨n + 1, Y / 2, by omega, by go_num, by go_num, by omega, Lib.hid (by rw [← HN.out, HB.out])⟩
            case measure => simp [intOf] <;> omega
        · obtain rfl : n = 8 := by omega
          have HN : Hid (Y = crcS 4294967295 (s.data.toList.take (k + 1))) := Lib.hid (by rw [HT.out, ← HX.out, ← HX1.out]; exact HY.out)
          go_wp2
          go_round
          case rel => exact ⟨k + 1, Y, by omega, by go_num, rfl, hY, HN⟩
          case measure => simp [intOf] <;> omega
    · have hkn : k = s.size := by omega
      have hfin : E = 4294967295 - X := by
        have hl : s.data.toList.length = s.size := rfl
        rw [HE.out, HX.out, List.take_of_length_le (by omega)]
      have hfi : (4294967295 : Int) - X = (E : Int) := by rw [hfin]; omega
      clear hkn hfin
      go_wp2
      go_ret
      exact ⟨rfl, rfl⟩
end
/-! ### The walks of arboretumref1.Fix and Unfix. -/
section
open Go.RowKit
set_option linter.unusedVariables false
theorem rfix_bad (v n : Int) (w : World) (h : n < 1 ∨ 7 < n ∨ v < 0) :
    Calls Tryz.prog 80 #[.int .i64 v, .int .i64 n] w fun e w' => e = .returned (.tuple #[.string ⟨#[]⟩, .int .i64 1]) ∧ w = w' := by
  rcases (show n < 1 ∨ (1 ≤ n ∧ 7 < n) ∨ (1 ≤ n ∧ n ≤ 7 ∧ v < 0) by omega) with h1 | ⟨h1, h2⟩ | ⟨h1, h2, h3⟩
  all_goals
    clear h
    go_enter Tryz.func80, Tryz.ntmps80
    go_wp2
    go_ret2
    exact ⟨rfl, rfl⟩
/-- What Fix answers where its arguments may be. -/
def rfixE (v n : Nat) : List UInt8 × Int := if v < 256 ^ n then (fixB v n, 0) else ([], 1)
set_option maxRecDepth 20000 in
set_option maxHeartbeats 1000000 in
theorem rfix_any (v n : Nat) (w : World) (hv : v ≤ 9223372036854775807) (h1 : 1 ≤ n) (h2 : n ≤ 7) :
    Calls Tryz.prog 80 #[.int .i64 v, .int .i64 n] w fun e w' => e = .returned (.tuple #[.string ⟨(rfixE v n).1.toArray⟩, .int .i64 (rfixE v n).2]) ∧ Below w.heap.size w w' := by
  obtain ⟨i0, hi, hz0, hz1, hz2⟩ := info_parts u8info
  have HE : Hid (rfixE v n = if v < 256 ^ n then (fixB v n, 0) else ([], 1)) := Lib.hid rfl
  obtain ⟨E, hE⟩ : ∃ E, E = rfixE v n := ⟨_, rfl⟩
  rw [← hE] at HE ⊢
  clear hE
  go_enter Tryz.func80, Tryz.ntmps80
  go_wp2
  go_loopw [0, 6, 7] (fun x b i wr => ∃ (k m : Nat) (bv : Value), b = bv ∧ k ≤ n ∧ i = .int .i64 k ∧ x = .int .i64 m ∧ m ≤ 9223372036854775807 ∧ Hid (m = v / 256 ^ k) ∧ Hid (wr.ownsRow w.heap.size 5 1 bv k (Lib.byteCells (fixB v k))) ∧ Hid (Below w.heap.size w wr)) (fun _ _ i _ => n - (intOf i).toNat)
  case atStart => exact ⟨0, v, _, rfl, Nat.zero_le _, rfl, rfl, hv, Lib.hid (by simp), Lib.hid (World.ownsRow_nil _ _ _ _), Lib.hid (Below.refl _ _)⟩
  case round =>
    obtain ⟨k, m, bv, rfl, hk, rfl, rfl, hm, HM, HO, HB⟩ := hrel
    have hsz := HB.out.size
    by_cases hlt : k < n
    · obtain ⟨cb, hcb⟩ : ∃ cb, cb = UInt8.ofNat (v / 256 ^ k) := ⟨_, rfl⟩
      have hby : (m : Int) % 256 = (cb.toNat : Int) := by rw [hcb, HM.out]; simp
      have HF : Hid (fixB v (k + 1) = fixB v k ++ [cb]) := Lib.hid (by rw [hcb]; rfl)
      have HD : Hid (m / 256 = v / 256 ^ (k + 1)) := Lib.hid (by rw [HM.out, Nat.pow_succ, Nat.div_div_eq_div_mul])
      have hc8 := cb.toNat_lt
      clear hcb
      go_wp2_with (at_builtin; refine wpList_append_new rfl (.tmp 23) (.tmp 27) 160 rfl w.heap.size 5 i0 (.int .u8 0) 1 1 Tryz.underlying160 hi hz0 hz1 hz2 rfl (by omega) _ k (Lib.byteCells (fixB v k)) rfl HO.out hsz [.int .u8 (cb.toNat : Int)] 1 rfl rfl rfl (by simp [Value.oneCell']) (by omega) (by omega) ?_; intro v1 w1 hown1 hg1 hb1 hs1 hat1; have HOwn1 := Lib.hid hown1; have HBel1 := Lib.hid (hb1 w HB.out); clear hown1 hb1 hg1 hat1)
      go_roundw
      case rel => exact ⟨k + 1, m / 256, _, rfl, by omega, by go_num, by go_num, by omega, HD, Lib.hid (by rw [HF.out, Lib.byteCells_append]; exact HOwn1.out), HBel1⟩
      case measure => simp [intOf]; omega
    · obtain rfl : k = n := by omega
      by_cases hg : v < 256 ^ k
      · have hm0 : m = 0 := by rw [HM.out]; exact Nat.div_eq_of_lt hg
        have hE := HE.out
        rw [if_pos hg] at hE
        subst hE
        have hl : (fixB v k).length = k := fixB_len v k
        have hcv := run_string_own (P := Tryz.prog) (show wr.ownsRow w.heap.size 5 1 u6 (fixB v k).length (Lib.byteCells (fixB v k)) from by rw [hl]; exact HO.out) 160 9 Tryz.underlying160 Tryz.underlying5 Tryz.underlying9
        subst hm0
        clear hl hg HM
        go_wp2_with fail
        go_ret2
        exact ⟨rfl, HB.out⟩
      · have hm0 : 0 < m := by rw [HM.out]; exact Nat.div_pos (by omega) (Nat.pow_pos (by omega))
        have hE := HE.out
        rw [if_neg hg] at hE
        subst hE
        have d0 : decide (0 < m) = true := by simpa using hm0
        have d1 : decide (0 < (m : Int)) = true := by simp <;> omega
        clear hg HM
        go_wp2_with fail
        go_ret2
        exact ⟨rfl, HB.out⟩
end
end Go.Proofs.YtmdidmllaldbaaaGreat
