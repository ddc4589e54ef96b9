/- The walks of arboretumref1.Reader: the document's own reader reads what the plain one tells. -/
import Derived.Test.YtmdidmllaldbaaaGreatNumber
import Derived.Test.YtmdidmllaldbaaaGreatRefVar
import Derived.IntWalk
namespace Go.Proofs.YtmdidmllaldbaaaGreat
/-! ### The walks of arboretumref1.Reader: the document's own reader reads what the plain one tells. -/
section
open Go.RowKit
set_option linter.unusedVariables false
/-- The document's reader at block b. -/
def RRdr (w : World) (b : Nat) (st : RSt) : Prop :=
  ∃ s : ByteArray, s.data.toList = st.1 ∧ s.size ≤ 9223372036854775807 ∧ w.heap[b]? = some (.cells #[.string s, .int .i64 st.2] 47 (0, 0))
theorem RRdr.lt {w : World} {b : Nat} {st : RSt} (h : RRdr w b st) : b < w.heap.size := by obtain ⟨s, _, _, hb⟩ := h; exact blk_lt hb
theorem RRdr.below {w w' : World} {b : Nat} {st : RSt} (h : RRdr w b st) (hb : Below w.heap.size w w') : RRdr w' b st := by
  obtain ⟨s, h1, h2, h3⟩ := h
  exact ⟨s, h1, h2, (hb.block b (blk_lt h3)).trans h3⟩
theorem RRdr.facts {w : World} {b : Nat} {st : RSt} (h : RRdr w b st) : ∃ s : ByteArray, s.data.toList = st.1 ∧ s.size ≤ 9223372036854775807 ∧ w.cell? ⟨b, 0, none⟩ = some (.string s) ∧
    w.cell? ⟨b, 1, none⟩ = some (.int .i64 st.2) ∧ w.frozen? ⟨b, 0, none⟩ = false ∧ w.frozen? ⟨b, 1, none⟩ = false := by
  obtain ⟨s, hs, hz, hb⟩ := h
  exact ⟨s, hs, hz, by rw [blk_cell hb]; rfl, by rw [blk_cell hb]; rfl, blk_frozen hb _, blk_frozen hb _⟩
theorem RRdr.err {w : World} {b : Nat} {st : RSt} (h : RRdr w b st) (e : Int) : RRdr (w.setCell ⟨b, 1, none⟩ (.int .i64 e)) b (st.1, e) := by
  obtain ⟨s, hs, hz, hb⟩ := h
  exact ⟨s, hs, hz, blk_set hb 1 _⟩
theorem RRdr.rest {w : World} {b : Nat} {st : RSt} (h : RRdr w b st) (r : ByteArray) (hr : r.size ≤ 9223372036854775807) : RRdr (w.setCell ⟨b, 0, none⟩ (.string r)) b (r.data.toList, st.2) := by
  obtain ⟨s, hs, hz, hb⟩ := h
  exact ⟨r, rfl, hr, blk_set hb 0 _⟩
/-- The first error stays. -/
theorem rfail_first {w : World} {b : Nat} {st : RSt} (h : RRdr w b st) (h0 : st.2 = 0) (e : Int) :
    Calls Tryz.prog 214 #[.pointer (some ⟨b, 0, none⟩), .int .i64 e] w fun e' w' => e' = .returned (.tuple #[]) ∧ w' = w.setCell ⟨b, 1, none⟩ (.int .i64 e) := by
  obtain ⟨s, hs, hz, c0, c1, f0, f1⟩ := h.facts
  rw [h0] at c1
  clear h hs h0
  go_enter Tryz.func214, Tryz.ntmps214
  go_wp2_with fail
  go_end0
  exact ⟨rfl, rfl⟩
theorem rmul (k c : Nat) (hk : k ≤ 9) (h9 : k = 9 → c ≤ 1) (hc : c < 128) : c * 128 ^ k + 128 ^ k ≤ 18446744073709551616 := by
  rw [← Nat.succ_mul]
  rcases Nat.lt_or_ge k 9 with h | h
  · calc (c + 1) * 128 ^ k ≤ 128 * 128 ^ 8 := Nat.mul_le_mul (by omega) (Nat.pow_le_pow_right (by omega) (by omega))
      _ ≤ _ := by decide
  · obtain rfl : k = 9 := by omega
    calc (c + 1) * 128 ^ 9 ≤ 2 * 128 ^ 9 := Nat.mul_le_mul_right _ (by have := h9 rfl; omega)
      _ ≤ _ := by decide
set_option maxRecDepth 100000 in
set_option maxHeartbeats 4000000 in
theorem rrvar_any {w : World} {b : Nat} {st : RSt} (h : RRdr w b st) :
    Calls Tryz.prog 119 #[.pointer (some ⟨b, 0, none⟩)] w fun e w' => e = .returned (.int .i64 (rVar st).1) ∧ RRdr w' b (rVar st).2 ∧ w.grownBy w' (some b) := by
  by_cases h0 : st.2 = 0
  · have HF : Hid (∀ e, Calls Tryz.prog 214 #[.pointer (some ⟨b, 0, none⟩), .int .i64 e] w fun e' w' => e' = .returned (.tuple #[]) ∧ w' = w.setCell ⟨b, 1, none⟩ (.int .i64 e)) := Lib.hid (fun e => rfail_first h h0 e)
    have HH := Lib.hid h
    obtain ⟨s, hs, hz, c0, c1, f0, f1⟩ := h.facts
    rw [h0] at c1
    have hst : st = (s.data.toList, 0) := by rw [hs, ← h0]
    subst hst
    have HBad : Hid (∀ e, numb 0 0 s.data.toList = (0, [], e) → e ≠ 0 → rVar (s.data.toList, 0) = (0, (s.data.toList, e))) := Lib.hid (fun e he hne => by
      unfold rVar
      rw [if_neg (by simp), he]
      dsimp only
      rw [if_pos hne])
    have HGood : Hid (∀ v r, numb 0 0 s.data.toList = (v, r, 0) → rVar (s.data.toList, 0) = (v, (r, 0))) := Lib.hid (fun v r he => by
      unfold rVar
      rw [if_neg (by simp), he]
      dsimp only
      rw [if_neg (by simp)])
    clear h hs h0
    go_enter Tryz.func119, Tryz.ntmps119
    go_wp2_with fail
    go_loop [3, 4, 5] (fun x t i => ∃ (k acc un : Nat), k ≤ s.size ∧ k ≤ 9 ∧ i = .int .i64 k ∧ x = .int .u64 acc ∧ t = .int .u64 un ∧ Hid (un = 128 ^ k) ∧ Hid (acc < 128 ^ k) ∧ Hid (Run s k acc)) (fun _ _ i => 10 - (intOf i).toNat)
    case atStart => exact ⟨0, 0, 1, by omega, by omega, rfl, rfl, rfl, Lib.hid rfl, Lib.hid (by decide), Lib.hid rfl⟩
    case round =>
      obtain ⟨k, acc, un, hk, hk9, rfl, rfl, rfl, HU, HA, HRun⟩ := hrel
      by_cases hlt : k < s.size
      · have hb : s[k].toNat < 256 := s[k].toNat_lt
        have x1 : (0 : Int) ≤ k := by omega
        have x2 : (k : Int) < s.size := by omega
        obtain ⟨c, hc⟩ : ∃ c, c = s[k].toNat := ⟨_, rfl⟩
        by_cases h9 : k = 9 ∧ 1 < s[k].toNat
        · have HE := Lib.hid (HBad.out 4 (run_bad hlt HRun.out h9) (by decide))
          have h9b : ((k : Int) == 9) = true := by simp [h9.1]
          have hc1 : decide ((1 : Int) < s[k].toNat) = true := by simp; omega
          clear h9 hc
          go_wp2_with fail
          refine (HF.out 4).mono ?_
          rintro e1 w1 ⟨rfl, rfl⟩
          go_wp2_with fail
          go_ret
          exact ⟨by rw [HE.out]; rfl, by rw [HE.out]; exact HH.out.err 4, grown_set _ _ _ _⟩
        · have hm128 : (s[k].toNat % 128 : Nat) < 128 := by omega
          have hmul := rmul k (s[k].toNat % 128) hk9 (fun h => by have : ¬ 1 < s[k].toNat := fun hh => h9 ⟨h, hh⟩; omega) hm128
          rw [← HU.out] at hmul
          have hacc : acc < un := by rw [HU.out]; exact HA.out
          obtain ⟨P, hP⟩ : ∃ P, P = s[k].toNat % 128 * un := ⟨_, rfl⟩
          rw [← hP] at hmul
          have hw1 : IntKind.u64.wrap (((s[k].toNat : Int) % 128) * (un : Int)) = (P : Int) := by
            rw [u64w, hP]
            have : ((s[k].toNat : Int) % 128) * (un : Int) = ((s[k].toNat % 128 * un : Nat) : Int) := by simp
            rw [this, ← hP]
            omega
          have hw2 : IntKind.u64.wrap ((acc : Int) + (P : Int)) = ((acc + P : Nat) : Int) := by rw [u64w]; omega
          have hun : un ≤ 9223372036854775808 := by
            rw [HU.out]
            calc 128 ^ k ≤ 128 ^ 9 := Nat.pow_le_pow_right (by omega) hk9
              _ ≤ _ := by decide
          by_cases hmore : 128 ≤ s[k].toNat
          · have hk8 : k ≤ 8 := by omega
            have hd : decide ((128 : Int) ≤ s[k].toNat) = true := by simp; omega
            have h9b : ((k : Int) == 9) = false := by simp; omega
            have hu9 : un * 128 ≤ 9223372036854775808 := by
              rw [HU.out, ← Nat.pow_succ]
              calc 128 ^ (k + 1) ≤ 128 ^ 9 := Nat.pow_le_pow_right (by omega) (by omega)
                _ ≤ _ := by decide
            have hw3 : IntKind.u64.wrap ((un : Int) * 128) = ((un * 128 : Nat) : Int) := by rw [u64w]; omega
            have HU' : Hid (un * 128 = 128 ^ (k + 1)) := Lib.hid (by rw [HU.out, Nat.pow_succ])
            have HA' : Hid (acc + P < 128 ^ (k + 1)) := Lib.hid (by rw [hP, HU.out]; exact digit_lt HA.out hm128)
            have HR' : Hid (Run s (k + 1) (acc + P)) := Lib.hid (by rw [hP, HU.out]; exact run_more hlt HRun.out (by omega) hmore)
            clear h9 hc hP hmore
            go_wp2_with fail
            go_round
            case rel => exact ⟨k + 1, acc + P, un * 128, by omega, by omega, by go_num, rfl, rfl, HU', HA', HR'⟩
            case measure => simp [intOf]; omega
          · have hd : decide ((128 : Int) ≤ s[k].toNat) = false := by simp; omega
            obtain ⟨U2, hU2⟩ : ∃ U2, IntKind.u64.wrap ((un : Int) * 128) = U2 := ⟨_, rfl⟩
            have h9c : (((k : Int) == 9) = true ∧ decide ((1 : Int) < s[k].toNat) = false) ∨ ((k : Int) == 9) = false := by
              by_cases h : k = 9
              · exact .inl ⟨by simp [h], by simp; omega⟩
              · exact .inr (by simp; omega)
            by_cases h0 : s[k].toNat = 0 ∧ 0 < k
            · have HE := Lib.hid (HBad.out 4 (run_zero hlt HRun.out h9 hmore h0) (by decide))
              have h0b : ((s[k].toNat : Int) == 0) = true := by simp [h0.1]
              have hk0 : decide ((0 : Int) < k) = true := by simp; omega
              have hk0n : 0 < k := h0.2
              clear h9 hc hP hmore h0
              rcases h9c with ⟨h9b, hc1⟩ | h9b
              all_goals
                go_wp2_with fail
                refine (HF.out 4).mono ?_
                rintro e1 w1 ⟨rfl, rfl⟩
                go_wp2_with fail
                go_ret
                exact ⟨by rw [HE.out]; rfl, by rw [HE.out]; exact HH.out.err 4, grown_set _ _ _ _⟩
            · have hgood := run_good hlt HRun.out h9 hmore h0
              rw [← HU.out, ← hP] at hgood
              have HE := Lib.hid (HGood.out _ _ hgood)
              obtain ⟨N, hN⟩ : ∃ N, N = acc + P := ⟨_, rfl⟩
              rw [← hN] at HE hw2
              have hNl : N < 18446744073709551616 := by omega
              have h0c : (0 < k ∧ ((s[k].toNat : Int) == 0) = false) ∨ ¬ 0 < k := by
                by_cases h : k = 0
                · exact .inr (by omega)
                · exact .inl ⟨by omega, by simp; omega⟩
              have y1 : (k : Int) + 1 ≤ s.size := by omega
              have y2 : ((k : Int) + 1).toNat = k + 1 := by omega
              have hv1 : IntKind.i64.wrap ((N : Int) / 2) = ((N / 2 : Nat) : Int) := by rw [IntWalk.i64_in _ (by omega)]; omega
              have hdz : (s.extract (k + 1) s.size).size ≤ s.size := by rw [ByteArray.size_extract]; omega
              have hdd : (s.extract (k + 1) s.size).data.toList = s.data.toList.drop (k + 1) := Lib.extract_to_end s (k + 1)
              have HDd := Lib.hid hdd
              have HDz := Lib.hid hdz
              clear h9 hc hP hmore h0 hgood hdd hdz hN
              by_cases hp : N % 2 = 1
              · have hpb : (((N : Int) % 2) == 1) = true := by simp; omega
                have hun2 : unzig N = -((N / 2 : Nat) : Int) - 1 := by unfold unzig; rw [if_neg (by omega)]
                have HUn := Lib.hid hun2
                clear hun2
                rcases h9c with ⟨h9b, hc1⟩ | h9b <;> rcases h0c with ⟨h0b, h0d⟩ | h0b
                all_goals
                  go_wp2_with fail
                  go_ret
                  refine ⟨by rw [HE.out, HUn.out]; first | rfl | simp, ?_, grown_set _ _ _ _⟩
                  have := HH.out.rest (s.extract (k + 1) s.size) (by have := HDz.out; omega)
                  rw [HDd.out] at this
                  rw [HE.out]
                  exact this
              · have hpb : (((N : Int) % 2) == 1) = false := by simp; omega
                have hun2 : unzig N = ((N / 2 : Nat) : Int) := by unfold unzig; rw [if_pos (by omega)]
                have HUn := Lib.hid hun2
                clear hun2
                rcases h9c with ⟨h9b, hc1⟩ | h9b <;> rcases h0c with ⟨h0b, h0d⟩ | h0b
                all_goals
                  go_wp2_with fail
                  go_ret
                  refine ⟨by rw [HE.out, HUn.out]; first | rfl | simp, ?_, grown_set _ _ _ _⟩
                  have := HH.out.rest (s.extract (k + 1) s.size) (by have := HDz.out; omega)
                  rw [HDd.out] at this
                  rw [HE.out]
                  exact this
      · have HE := Lib.hid (HBad.out 5 (run_short hlt HRun.out) (by decide))
        go_wp2_with fail
        refine (HF.out 5).mono ?_
        rintro e1 w1 ⟨rfl, rfl⟩
        go_wp2_with fail
        go_ret
        exact ⟨by rw [HE.out]; rfl, by rw [HE.out]; exact HH.out.err 5, grown_set _ _ _ _⟩
  · have hr := rVar_off h0
    have HR := Lib.hid hr
    have HH := Lib.hid h
    obtain ⟨s, hs, hz, c0, c1, f0, f1⟩ := h.facts
    have hd : (st.2 != 0) = true := by simpa using h0
    obtain ⟨E, hE⟩ : ∃ E, E = st.2 := ⟨_, rfl⟩
    rw [← hE] at c1 hd
    clear h hs h0 hr hE
    go_enter Tryz.func119, Tryz.ntmps119
    go_wp2_with fail
    go_ret
    exact ⟨by rw [HR.out]; rfl, by rw [HR.out]; exact HH.out, grown_refl _ _⟩
theorem rrcount_any {w : World} {b : Nat} {st : RSt} (h : RRdr w b st) (m : Int) :
    Calls Tryz.prog 118 #[.pointer (some ⟨b, 0, none⟩), .int .i64 m] w fun e w' => e = .returned (.int .i64 (rCount m st).1) ∧ RRdr w' b (rCount m st).2 ∧ w.grownBy w' (some b) := by
  have HV := Lib.hid (rrvar_any h)
  clear h
  obtain ⟨q, hq⟩ : ∃ q, q = rVar st := ⟨_, rfl⟩
  have hcnt : rCount m st = if q.2.2 ≠ 0 then (0, q.2) else if q.1 < 0 then (0, (q.2.1, 4)) else if m < q.1 then (0, (q.2.1, 2)) else q := by rw [hq]; rfl
  rw [← hq] at HV
  clear hq
  obtain ⟨v, l, E⟩ := q
  dsimp only at HV hcnt
  by_cases h0 : E = 0
  · subst h0
    rw [if_neg (by simp)] at hcnt
    by_cases h1 : v < 0
    · rw [if_pos h1] at hcnt
      have HR := Lib.hid hcnt
      have d1 : decide (v < 0) = true := by simpa using h1
      clear hcnt h1
      go_enter Tryz.func118, Tryz.ntmps118
      go_wp2_with fail
      refine HV.out.mono ?_
      rintro e w1 ⟨rfl, hr1, hg1⟩
      obtain ⟨s, hs, hz, c0, c1, f0, f1⟩ := hr1.facts
      have HF := Lib.hid (rfail_first hr1 rfl 4)
      have HH := Lib.hid hr1
      clear hs hr1
      go_wp2_with fail
      refine HF.out.mono ?_
      rintro e w2 ⟨rfl, rfl⟩
      go_wp2_with fail
      go_ret
      exact ⟨by rw [HR.out]; rfl, by rw [HR.out]; exact HH.out.err 4, hg1.trans (grown_set _ _ _ _)⟩
    · rw [if_neg h1] at hcnt
      have d1 : decide (v < 0) = false := by simpa using h1
      by_cases h2 : m < v
      · rw [if_pos h2] at hcnt
        have HR := Lib.hid hcnt
        have d2 : decide (m < v) = true := by simpa using h2
        clear hcnt h1 h2
        go_enter Tryz.func118, Tryz.ntmps118
        go_wp2_with fail
        refine HV.out.mono ?_
        rintro e w1 ⟨rfl, hr1, hg1⟩
        obtain ⟨s, hs, hz, c0, c1, f0, f1⟩ := hr1.facts
        have HF := Lib.hid (rfail_first hr1 rfl 2)
        have HH := Lib.hid hr1
        clear hs hr1
        go_wp2_with fail
        refine HF.out.mono ?_
        rintro e w2 ⟨rfl, rfl⟩
        go_wp2_with fail
        go_ret
        exact ⟨by rw [HR.out]; rfl, by rw [HR.out]; exact HH.out.err 2, hg1.trans (grown_set _ _ _ _)⟩
      · rw [if_neg h2] at hcnt
        have HR := Lib.hid hcnt
        have d2 : decide (m < v) = false := by simpa using h2
        clear hcnt h1 h2
        go_enter Tryz.func118, Tryz.ntmps118
        go_wp2_with fail
        refine HV.out.mono ?_
        rintro e w1 ⟨rfl, hr1, hg1⟩
        obtain ⟨s, hs, hz, c0, c1, f0, f1⟩ := hr1.facts
        have HH := Lib.hid hr1
        clear hs hr1
        go_wp2_with fail
        go_ret
        exact ⟨by rw [HR.out]; rfl, by rw [HR.out]; exact HH.out, hg1⟩
  · rw [if_pos h0] at hcnt
    have HR := Lib.hid hcnt
    have d1 : (E != 0) = true := by simpa using h0
    clear hcnt h0
    go_enter Tryz.func118, Tryz.ntmps118
    go_wp2_with fail
    refine HV.out.mono ?_
    rintro e w1 ⟨rfl, hr1, hg1⟩
    obtain ⟨s, hs, hz, c0, c1, f0, f1⟩ := hr1.facts
    have HH := Lib.hid hr1
    clear hs hr1
    go_wp2_with fail
    go_ret
    exact ⟨by rw [HR.out]; rfl, by rw [HR.out]; exact HH.out, hg1⟩
theorem rrtext_any {w : World} {b : Nat} {st : RSt} (h : RRdr w b st) (m : Int) :
    Calls Tryz.prog 120 #[.pointer (some ⟨b, 0, none⟩), .int .i64 m] w fun e w' => e = .returned (.string ⟨(rText m st).1.toArray⟩) ∧ RRdr w' b (rText m st).2 ∧ w.grownBy w' (some b) := by
  have HV := Lib.hid (rrcount_any h m)
  have hpos := rCount_pos m st
  clear h
  obtain ⟨q, hq⟩ : ∃ q, q = rCount m st := ⟨_, rfl⟩
  have hcnt : rText m st = if q.2.2 ≠ 0 then ([], q.2) else if (q.2.1.length : Int) < q.1 then ([], (q.2.1, 5)) else (q.2.1.take q.1.toNat, (q.2.1.drop q.1.toNat, 0)) := by rw [hq]; rfl
  rw [← hq] at HV hpos
  clear hq
  obtain ⟨v, l, E⟩ := q
  dsimp only at HV hcnt hpos
  by_cases h0 : E = 0
  · obtain ⟨n, rfl⟩ : ∃ n : Nat, v = n := ⟨v.toNat, by have := hpos h0; omega⟩
    subst h0
    clear hpos
    rw [if_neg (by simp)] at hcnt
    by_cases h1 : (l.length : Int) < n
    · rw [if_pos h1] at hcnt
      have HR := Lib.hid hcnt
      go_enter Tryz.func120, Tryz.ntmps120
      go_wp2_with fail
      refine HV.out.mono ?_
      rintro e w1 ⟨rfl, hr1, hg1⟩
      obtain ⟨s, hs, hz, c0, c1, f0, f1⟩ := hr1.facts
      have hsl : s.data.toList.length = s.size := rfl
      have hsz : s.size = l.length := by rw [← hsl, hs]
      have d1 : decide ((s.size : Int) < n) = true := by simp; omega
      have d2 : decide (s.size < n) = true := by simp; omega
      have HF := Lib.hid (rfail_first hr1 rfl 5)
      have HH := Lib.hid hr1
      clear hs hr1 hcnt h1 hsl hsz
      go_wp2_with fail
      refine HF.out.mono ?_
      rintro e w2 ⟨rfl, rfl⟩
      go_wp2_with fail
      go_ret
      exact ⟨by rw [HR.out]; rfl, by rw [HR.out]; exact HH.out.err 5, hg1.trans (grown_set _ _ _ _)⟩
    · rw [if_neg h1, Int.toNat_natCast] at hcnt
      have HR := Lib.hid hcnt
      go_enter Tryz.func120, Tryz.ntmps120
      go_wp2_with fail
      refine HV.out.mono ?_
      rintro e w1 ⟨rfl, hr1, hg1⟩
      obtain ⟨s, hs, hz, c0, c1, f0, f1⟩ := hr1.facts
      have hsl : s.data.toList.length = s.size := rfl
      have hsz : s.size = l.length := by rw [← hsl, hs]
      have d1 : decide ((s.size : Int) < n) = false := by simp; omega
      have d2 : decide (s.size < n) = false := by simp; omega
      have y1 : (n : Int) ≤ s.size := by omega
      have y2 : (0 : Int) ≤ n := by omega
      have hdz : (s.extract n s.size).size ≤ s.size := by rw [ByteArray.size_extract]; omega
      have hdd : (s.extract n s.size).data.toList = s.data.toList.drop n := Lib.extract_to_end s n
      have hdt : s.extract 0 n = ⟨(l.take n).toArray⟩ := bytes_ext (by rw [Lib.extract_data, hs]; simp)
      rw [hs] at hdd
      have HDd := Lib.hid hdd
      have HDz := Lib.hid hdz
      have HDt := Lib.hid hdt
      have HH := Lib.hid hr1
      clear hs hr1 hcnt h1 hsl hsz hdd hdz hdt
      go_wp2_with fail
      go_ret
      refine ⟨by rw [HR.out, HDt.out]; rfl, ?_, hg1.trans (grown_set _ _ _ _)⟩
      have := HH.out.rest (s.extract n s.size) (by have := HDz.out; omega)
      rw [HDd.out] at this
      rw [HR.out]
      exact this
  · rw [if_pos h0] at hcnt
    have HR := Lib.hid hcnt
    have d1 : (E != 0) = true := by simpa using h0
    clear hcnt h0 hpos
    go_enter Tryz.func120, Tryz.ntmps120
    go_wp2_with fail
    refine HV.out.mono ?_
    rintro e w1 ⟨rfl, hr1, hg1⟩
    obtain ⟨s, hs, hz, c0, c1, f0, f1⟩ := hr1.facts
    have HH := Lib.hid hr1
    clear hs hr1
    go_wp2_with fail
    go_ret
    exact ⟨by rw [HR.out]; rfl, by rw [HR.out]; exact HH.out, hg1⟩
theorem rrend_any {w : World} {b : Nat} {st : RSt} (h : RRdr w b st) :
    Calls Tryz.prog 28 #[.pointer (some ⟨b, 0, none⟩)] w fun e w' => e = .returned (.int .i64 (rEnd st)) ∧ w = w' := by
  obtain ⟨s, hs, hz, c0, c1, f0, f1⟩ := h.facts
  clear h
  have hsl : s.data.toList.length = s.size := rfl
  have hsz : s.size = st.1.length := by rw [← hsl, hs]
  obtain ⟨l, E⟩ := st
  dsimp only at hs hsz c1
  by_cases h0 : E = 0
  · subst h0
    by_cases h1 : l = []
    · have hr : rEnd (l, 0) = 0 := by unfold rEnd; rw [if_neg (by simp), if_neg (by simpa using h1)]
      have d1 : decide ((0 : Int) < (s.size : Int)) = false := by rw [hsz, h1]; rfl
      have d2 : decide (0 < s.size) = false := by rw [hsz, h1]; rfl
      rw [hr]
      clear hr hs hsz hsl h1
      go_enter Tryz.func28, Tryz.ntmps28
      go_wp2_with fail
      go_ret
      exact ⟨rfl, rfl⟩
    · have hr : rEnd (l, 0) = 4 := by unfold rEnd; rw [if_neg (by simp), if_pos (by simpa using h1)]
      have hp := List.length_pos_iff.2 h1
      have d1 : decide ((0 : Int) < (s.size : Int)) = true := by simp; omega
      have d2 : decide (0 < s.size) = true := by simp; omega
      rw [hr]
      clear hr hs hsz hsl h1 hp
      go_enter Tryz.func28, Tryz.ntmps28
      go_wp2_with fail
      go_ret
      exact ⟨rfl, rfl⟩
  · have hr : rEnd (l, E) = E := by unfold rEnd; rw [if_pos (by simpa using h0)]
    have d1 : (E != 0) = true := by simpa using h0
    rw [hr]
    clear hr hs hsz hsl h0
    go_enter Tryz.func28, Tryz.ntmps28
    go_wp2_with fail
    go_ret
    exact ⟨rfl, rfl⟩
end
/-! ### The walk of arboretumref1.Reader.Bool: the document's own reader reads what the plain one tells. -/
section
open Go.RowKit
set_option linter.unusedVariables false
set_option maxHeartbeats 1000000 in
theorem rrbool_any {w : World} {b : Nat} {st : RSt} (h : RRdr w b st) :
    Calls Tryz.prog 195 #[.pointer (some ⟨b, 0, none⟩)] w fun e w' => e = .returned (.bool (rBool st).1) ∧ RRdr w' b (rBool st).2 ∧ w.grownBy w' (some b) := by
  by_cases h0 : st.2 = 0
  · have HF : Hid (∀ e, Calls Tryz.prog 214 #[.pointer (some ⟨b, 0, none⟩), .int .i64 e] w fun e' w' => e' = .returned (.tuple #[]) ∧ w' = w.setCell ⟨b, 1, none⟩ (.int .i64 e)) := Lib.hid (fun e => rfail_first h h0 e)
    obtain ⟨s, hs, hz, c0, c1, f0, f1⟩ := h.facts
    rw [h0] at c1
    have H := Lib.hid h
    cases hl : st.1 with
    | nil =>
      have hr : rBool st = (false, ([], 5)) := by unfold rBool; rw [if_neg (by simpa using h0), hl]
      have hse : s.toList.isEmpty = true := by rw [ByteArray.toList_eq, hs, hl]; rfl
      have hse2 : s.toList = [] := by rw [ByteArray.toList_eq, hs, hl]
      have hsz : s.size = 0 := by have e : s.data.toList.length = s.size := rfl; rw [hs, hl] at e; simpa using e.symm
      have hd0 : ((s.size : Int) == 0) = true := by rw [hsz]; rfl
      have HR := Lib.hid hr
      have HL := Lib.hid hl
      clear hr hl hs h0 h hsz
      go_enter Tryz.func195, Tryz.ntmps195
      go_wp2_with fail
      refine (HF.out 5).mono ?_
      rintro e1 w1 ⟨rfl, rfl⟩
      go_wp2_with fail
      go_ret
      refine ⟨by rw [HR.out]; rfl, ?_, grown_set _ _ _ _⟩
      have := H.out.err 5
      rw [HL.out] at this
      rw [HR.out]
      exact this
    | cons c r =>
      have hpos : 0 < s.size := by have e : s.data.toList.length = s.size := rfl; rw [hs, hl] at e; simp at e; omega
      have hc : s[0] = c := by
        have e1 : s.data.toList[0]? = some s[0] := by rw [List.getElem?_eq_getElem (by have e : s.data.toList.length = s.size := rfl; omega)]; rfl
        rw [hs, hl] at e1
        simpa using e1.symm
      have hse : s.toList.isEmpty = false := by rw [ByteArray.toList_eq, hs, hl]; rfl
      have hse2 : ¬ s.toList = [] := by rw [ByteArray.toList_eq, hs, hl]; simp
      have hd0 : ((s.size : Int) == 0) = false := by rw [beq_eq_false_iff_ne]; omega
      by_cases h1 : 1 < c.toNat
      · have hr : rBool st = (false, (c :: r, 4)) := by unfold rBool; rw [if_neg (by simpa using h0), hl]; simp only; rw [if_pos h1]
        have h1' : (1 : Int) < s[0].toNat := by rw [hc]; omega
        have HR := Lib.hid hr
        have HL := Lib.hid hl
        clear hr hl hs h0 h hc
        go_enter Tryz.func195, Tryz.ntmps195
        go_wp2_with fail
        refine (HF.out 4).mono ?_
        rintro e1 w1 ⟨rfl, rfl⟩
        go_wp2_with fail
        go_ret
        refine ⟨by rw [HR.out]; rfl, ?_, grown_set _ _ _ _⟩
        have := H.out.err 4
        rw [HL.out] at this
        rw [HR.out]
        exact this
      · have hr : rBool st = (c.toNat == 1, (r, 0)) := by unfold rBool; rw [if_neg (by simpa using h0), hl]; simp only; rw [if_neg h1]
        have h1' : ¬ (1 : Int) < s[0].toNat := by rw [hc]; omega
        have hb1 : ((s[0].toNat : Int) == 1) = (c.toNat == 1) := by
          rw [hc, Bool.eq_iff_iff]; simp; omega
        have hd : (s.extract 1 s.size).data.toList = r := by rw [Lib.extract_to_end, hs, hl]; rfl
        have hdz : (s.extract 1 s.size).size ≤ 9223372036854775807 := by
          have h1 : (s.extract 1 s.size).data.toList.length = (s.extract 1 s.size).size := rfl
          have e : s.data.toList.length = s.size := rfl
          rw [hd] at h1; rw [hs, hl] at e; simp at e; omega
        obtain ⟨bb, hbb⟩ : ∃ bb, bb = (c.toNat == 1) := ⟨_, rfl⟩
        rw [← hbb] at hb1 hr
        have HR := Lib.hid hr
        have HL := Lib.hid hl
        have HD := Lib.hid hd
        have H0 := Lib.hid h0
        clear hr hl hs h0 h hc hd hbb HF
        go_enter Tryz.func195, Tryz.ntmps195
        go_wp2_with fail
        go_ret
        refine ⟨by rw [HR.out]; rfl, ?_, grown_set _ _ _ _⟩
        have := H.out.rest (s.extract 1 s.size) hdz
        rw [HD.out, H0.out] at this
        rw [HR.out]
        exact this
  · have hr : rBool st = (false, st) := by unfold rBool; rw [if_pos (by simpa using h0)]
    have HR := Lib.hid hr
    have HH := Lib.hid h
    obtain ⟨s, hs, hz, c0, c1, f0, f1⟩ := h.facts
    have hd : (st.2 != 0) = true := by simpa using h0
    obtain ⟨E, hE⟩ : ∃ E, E = st.2 := ⟨_, rfl⟩
    rw [← hE] at c1 hd
    clear h hs h0 hr hE
    go_enter Tryz.func195, Tryz.ntmps195
    go_wp2_with fail
    go_ret
    exact ⟨by rw [HR.out]; rfl, by rw [HR.out]; exact HH.out, grown_refl _ _⟩
end
end Go.Proofs.YtmdidmllaldbaaaGreat
