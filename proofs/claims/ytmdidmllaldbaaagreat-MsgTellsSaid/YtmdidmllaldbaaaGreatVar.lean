/- The walk of num.Var: it lays numbers as 'vars' tells. -/
import Derived.Test.YtmdidmllaldbaaaGreatNumber
import Derived.Test.YtmdidmllaldbaaaGreatClone
namespace Go.Proofs.YtmdidmllaldbaaaGreat
open Go.RowKit
theorem zig_walk (v : Int) (h1 : -9223372036854775808 ≤ v) (h2 : v ≤ 9223372036854775807) :
    bits .xor .u64 (IntKind.u64.wrap (IntKind.u64.wrap v * 2)) (IntKind.u64.wrap (v / 9223372036854775808)) = ((zig v : Nat) : Int) := by
  have wr : ∀ x : Int, IntKind.u64.wrap x = x % 18446744073709551616 := fun x => by simp [IntKind.wrap, IntKind.bits, IntKind.signed]
  rw [wr, wr, wr]
  unfold zig
  by_cases h0 : 0 ≤ v
  · rw [if_pos h0]
    have e1 : (v % 18446744073709551616 * 2) % 18446744073709551616 = (((2 * v).toNat : Nat) : Int) := by omega
    have e2 : v / 9223372036854775808 % 18446744073709551616 = ((0 : Nat) : Int) := by omega
    rw [e1, e2, u64_xor_nat _ 0 (by omega) (by omega), Nat.xor_zero]
  · rw [if_neg h0]
    obtain ⟨m, hm⟩ : ∃ m : Nat, v = -(m : Int) - 1 := ⟨(-v - 1).toNat, by omega⟩
    subst hm
    have e1 : ((-(m : Int) - 1) % 18446744073709551616 * 2) % 18446744073709551616 = ((18446744073709551615 - (2 * m + 1) : Nat) : Int) := by omega
    have e2 : (-(m : Int) - 1) / 9223372036854775808 % 18446744073709551616 = ((18446744073709551615 : Nat) : Int) := by omega
    rw [e1, e2, u64_xor_nat _ 18446744073709551615 (by omega) (by omega)]
    have e3 : ∀ x : Nat, x < 18446744073709551616 → x ^^^ 18446744073709551615 = 18446744073709551615 - x := by
      intro x hx
      have e : (BitVec.ofNat 64 x ^^^ BitVec.allOnes 64) = ~~~ BitVec.ofNat 64 x := BitVec.xor_allOnes
      have e2 := congrArg BitVec.toNat e
      rw [BitVec.toNat_xor, BitVec.toNat_not, BitVec.toNat_allOnes, BitVec.toNat_ofNat, Nat.mod_eq_of_lt (by simpa using hx)] at e2
      exact e2
    rw [e3 _ (by omega)]
    omega
theorem low_or (m : Nat) : bits .or .u8 ((m : Int) % 256) 128 = (((UInt8.ofNat (m % 128 + 128)).toNat : Nat) : Int) := by
  have e0 : ((m : Int) % 256) = ((m % 256 : Nat) : Int) := by omega
  rw [e0, show (128 : Int) = ((128 : Nat) : Int) from rfl, u8_or_nat _ _ (by omega) (by omega)]
  have e : m % 256 ||| 128 = m % 128 + 128 := by
    have h : ∀ x : Fin 256, (x.val ||| 128) = x.val % 128 + 128 := by decide +kernel
    have := h ⟨m % 256, by omega⟩
    simp only at this
    omega
  rw [e]
  simp
  omega
theorem varFuel_more (f m : Nat) (h : 128 ≤ m) (hf : m < 128 ^ f * 2) : ∃ f', f = f' + 1 ∧ varFuel f m = UInt8.ofNat (m % 128 + 128) :: varFuel f' (m / 128) ∧ m / 128 < 128 ^ f' * 2 := by
  cases f with
  | zero => simp at hf; omega
  | succ f =>
    refine ⟨f, rfl, by rw [varFuel, if_pos h], ?_⟩
    rw [Nat.pow_succ] at hf
    apply Nat.div_lt_of_lt_mul
    omega
theorem varFuel_last (f m : Nat) (h : ¬ 128 ≤ m) : varFuel f m = [UInt8.ofNat m] := by
  cases f with
  | zero => rfl
  | succ f => rw [varFuel, if_neg h]
set_option maxRecDepth 100000 in
set_option maxHeartbeats 1000000 in
theorem nvar_any (ao : Option Addr) (n c : Nat) (vs : List Int) (w : World) (hlen : vs.length = n) (hn : n ≤ 1099511627776)
    (hcell : ∀ k, k < n → ∃ a, ao = some a ∧ a.block < w.heap.size ∧ w.cell? (a.add k) = some (.int .i64 (vs.getD k 0)))
    (hv : ∀ v ∈ vs, -9223372036854775808 ≤ v ∧ v ≤ 9223372036854775807) :
    Calls Tryz.prog 126 #[.slice ao n c] w fun e w' => e = .returned (.string ⟨(vars vs).toArray⟩) ∧ Below w.heap.size w w' := by
  obtain ⟨i0, hi, hz0, hz1, hz2⟩ := info_parts u8info
  obtain ⟨B, hB⟩ : ∃ B, B = w.heap.size := ⟨_, rfl⟩
  rw [← hB] at hcell ⊢
  have hBle : B ≤ w.heap.size := Nat.le_of_eq hB
  have HC := Lib.hid hcell
  have HL := Lib.hid hlen
  have HV := Lib.hid hv
  clear hcell hlen hv hB
  go_enter Tryz.func126, Tryz.ntmps126
  go_wp2
  go_loopw [3, 9] (fun b i wr => ∃ (k : Nat) (P : List UInt8), k ≤ n ∧ i = .int .i64 k ∧ wr.ownsRow B 5 1 b P.length (Lib.byteCells P) ∧ P.length ≤ 10 * k ∧ Hid (P = vars (vs.take k)) ∧ Below B w wr) (fun _ i _ => n - (intOf i).toNat)
  case atStart => exact ⟨0, [], Nat.zero_le _, rfl, World.ownsRow_nil _ _ _ _, by simp, rfl, Below.refl _ _⟩
  case round =>
    obtain ⟨k, P, hk, rfl, hown, hPl, hP, hbel⟩ := hrel
    by_cases hlt : k < n
    · obtain ⟨a, rfl, hab, hc⟩ := HC.out k hlt
      have hc1 := (hbel.cell (p := a.add k) (by unfold Addr.add; split <;> exact hab)).trans hc
      obtain ⟨v, hve⟩ : ∃ v, v = vs.getD k 0 := ⟨_, rfl⟩
      rw [← hve] at hc hc1
      have hvr : -9223372036854775808 ≤ v ∧ v ≤ 9223372036854775807 := by
        apply HV.out; rw [hve]
        have : k < vs.length := by rw [HL.out]; exact hlt
        simp [List.getD_eq_getElem?_getD, List.getElem?_eq_getElem this]
      obtain ⟨hv1, hv2⟩ := hvr
      have HE := Lib.hid hve
      have HBel := Lib.hid hbel
      have HOwn := Lib.hid hown
      clear hve hc hbel hown
      obtain ⟨wo, hwo⟩ : ∃ wo : World, wo = wr := ⟨_, rfl⟩
      subst hwo
      have hzw := zig_walk v hv1 hv2
      have hzl := zig_lt hv1 hv2
      obtain ⟨Z, hZ⟩ : ∃ Z, Z = zig v := ⟨_, rfl⟩
      rw [← hZ] at hzw hzl
      have HZ := Lib.hid hZ
      clear hZ
      have hBo : B ≤ wo.heap.size := Nat.le_trans hBle HBel.out.size
      go_wp2
      go_loopw [3, 6] (fun b x wi => ∃ (R : List UInt8) (m f : Nat), x = .int .u64 m ∧ m < 18446744073709551616 ∧ wi.ownsRow B 5 1 b R.length (Lib.byteCells R) ∧ R.length ≤ 10 * k + 10 ∧ Hid (R ++ varFuel f m = P ++ var1 v) ∧ Hid (m < 128 ^ f * 2) ∧ R.length + f ≤ P.length + 9 ∧ Below B w wi ∧ B ≤ wi.heap.size) (fun _ x _ => (intOf x).toNat)
      case atStart => exact ⟨P, Z, 9, rfl, hzl, HOwn.out, by omega, by rw [HZ.out]; exact rfl, by show Z < 128 ^ 9 * 2; omega, by omega, HBel.out, hBo⟩
      case round =>
        obtain ⟨R, m, f, rfl, hm, hownR, hRl, hR, hmf, hRf, hbelR, hBr⟩ := hrel
        by_cases hm1 : 128 ≤ m
        · obtain ⟨f', hff, hvf, hmf'⟩ := varFuel_more f m hm1 hmf.out
          have hor := low_or m
          have HVF := Lib.hid hvf
          have HFF := Lib.hid hff
          have HMF := Lib.hid hmf'
          have HBelR := Lib.hid hbelR
          have HOwnR := Lib.hid hownR
          clear hvf hff hmf' hbelR hownR
          have hff' : f' + 1 ≤ f := Nat.le_of_eq HFF.out.symm
          go_wp2_with (at_builtin; refine wpList_append_new rfl (.tmp 24) (.tmp 28) 160 rfl B 5 i0 (.int .u8 0) 1 1 Tryz.underlying160 hi hz0 hz1 hz2 rfl (by omega) _ R.length (Lib.byteCells R) rfl HOwnR.out hBr [.int .u8 ((UInt8.ofNat (m % 128 + 128)).toNat : Int)] 1 rfl rfl rfl (by simp [Value.oneCell']) (by omega) (by omega) ?_; intro v1 w1 hown1 hg1 hb1 hs1 hat1; have HOwn1 := Lib.hid hown1; have HBel1 := Lib.hid (hb1 w HBelR.out); clear hown1 hb1 hg1 hat1)
          go_roundw
          case rel => exact ⟨R ++ [UInt8.ofNat (m % 128 + 128)], m / 128, f', by go_num, by omega, by
            have := HOwn1.out
            rw [List.length_append, Lib.byteCells_append]; exact this, by simp; omega, by
            show _ = _
            rw [← hR.out, HVF.out, List.append_assoc]; rfl, HMF.out, by simp; omega, HBel1.out, hs1⟩
          case measure => simp [intOf]; omega
        · have hvf := varFuel_last f m hm1
          have HVF := Lib.hid hvf
          have HBelR := Lib.hid hbelR
          have HOwnR := Lib.hid hownR
          clear hvf hbelR hownR
          go_wp2_with (at_builtin; refine wpList_append_new rfl (.tmp 30) (.tmp 33) 160 rfl B 5 i0 (.int .u8 0) 1 1 Tryz.underlying160 hi hz0 hz1 hz2 rfl (by omega) _ R.length (Lib.byteCells R) rfl HOwnR.out hBr [.int .u8 (m : Int)] 1 rfl rfl rfl (by simp [Value.oneCell']) (by omega) (by omega) ?_; intro v1 w1 hown1 hg1 hb1 hs1 hat1; have HOwn1 := Lib.hid hown1; have HBel1 := Lib.hid (hb1 w HBelR.out); clear hown1 hb1 hg1 hat1)
          go_roundw
          case rel => exact ⟨k + 1, R ++ [UInt8.ofNat m], by omega, by go_num, by
            have := HOwn1.out
            have e : Lib.byteCells [UInt8.ofNat m] = [.int .u8 (m : Int)] := by
              have e2 : (UInt8.ofNat m).toNat = m := by simp; omega
              show [Value.int .u8 ((UInt8.ofNat m).toNat : Int)] = _
              rw [e2]
            rw [List.length_append, Lib.byteCells_append, e]; exact this, by simp; omega, by
            show _ = _
            rw [vars_snoc vs k (by rw [HL.out]; exact hlt), ← HE.out, ← hP.out, ← hR.out, HVF.out], HBel1.out⟩
          case measure => simp [intOf]; omega
    · have hkn : k = n := by omega
      have HK := Lib.hid hkn
      have HOwn := Lib.hid hown
      have HBel := Lib.hid hbel
      clear hkn hown hbel
      have hcv := run_string_own (P := Tryz.prog) HOwn.out 160 9 Tryz.underlying160 Tryz.underlying5 Tryz.underlying9
      go_wp2
      go_ret
      exact ⟨ret_str (by rw [hP.out, HK.out, ← HL.out, List.take_length]), HBel.out⟩
end Go.Proofs.YtmdidmllaldbaaaGreat
