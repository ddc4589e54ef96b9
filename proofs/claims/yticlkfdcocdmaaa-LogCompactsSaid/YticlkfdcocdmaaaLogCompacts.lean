/- What is proved: arboretumlaw18.LogCompacts answers true for every two numbers, and turns no memory that was there. Conditions: none. -/
import Derived.Test.YticlkfdcocdmaaaAliveL
import Derived.Test.YticlkfdcocdmaaaLogCP
import Derived.Test.YticlkfdcocdmaaaLift
namespace Go.Proofs.Yticlkfdcocdmaaa
open Go.ChangeShapes Go.WideShapes Go.ChangeAt Go.RowKit
set_option linter.unusedVariables false
theorem newN (W : World) : Calls Try.prog 11 #[.int .i64 0, .int .i64 0, .slice none 0 0] W (NewRes 0 0 [] W) :=
  new_good 0 0 none 0 0 [] W (Ents.nil_ _ _ _) (by omega) (fun _ => rfl) (by simp) (by omega) (by omega) rfl
theorem addN {W : World} {B b k : Nat} (h : LogAt W B b (logN k)) (hB : B ≤ W.heap.size) (hk : k ≤ 60) : Calls Try.prog 18 #[.pointer (some ⟨b, 0, none⟩), .int .i64 (1 + (k : Int) / 3), .int .i64 1, .string ⟨#[]⟩] W fun e w' => e = .returned (.int .i64 ((k : Int) + 1)) ∧ LogAt w' B b (logN (k + 1)) ∧ Below B W w' := by
  have hl : (lastV (logN k)).1 = k := by
    rw [lastN]
    split
    · rename_i h0; subst h0; rfl
    · rfl
  refine (add_any h (1 + (k : Int) / 3) 1 ⟨#[]⟩ (by decide) hB (by rw [logN_len]; omega) (by rw [hl]; omega) (by rw [hl]; omega)).mono ?_
  rintro e w' ⟨he, hl', hb⟩
  rw [hl] at he hl'
  refine ⟨he, ?_, hb⟩
  show LogAt w' B b ⟨0, 0, (logN (k + 1)).l⟩
  rw [← logN_succ]
  exact hl'
/-- Where a walk stands: the log, and that nothing that was there has turned. -/
def St (w0 w1 : World) (B b : Nat) (x : LogV) : Prop := LogAt w1 B b x ∧ Below B w0 w1 ∧ B ≤ w1.heap.size
theorem St.step {w0 w1 w2 : World} {B b : Nat} {x : LogV} (h : St w0 w1 B b x) (hb : Below w1.heap.size w1 w2) : St w0 w2 B b x :=
  ⟨h.1.below hb (Nat.le_refl _), h.2.1.trans (hb.mono h.2.2), Nat.le_trans h.2.2 hb.size⟩
theorem St.alloc {w0 w1 : World} {B b : Nat} {x : LogV} (h : St w0 w1 B b x) (o : Obj) : St w0 (w1.alloc o) B b x := h.step ((Below.refl _ _).alloc (Nat.le_refl _) _)
def tC (K : Nat) : Int := if K = 0 then 0 else 1 + ((K : Int) - 1) / 3
section
variable {w0 W : World} {B b n K : Nat} (h : St w0 W B b (logC n K))
include h
theorem baseC : Calls Try.prog 22 #[.pointer (some ⟨b, 0, none⟩)] W fun e w' => e = .returned (.tuple #[.int .i64 K, .int .i64 (tC K)]) ∧ St w0 w' B b (logC n K) := by
  refine (base_any h.1).mono ?_
  rintro e w' ⟨rfl, m, rfl⟩
  exact ⟨rfl, h.step (below_drewN (Below.refl _ _) _)⟩
theorem atCc (hK : K ≤ 60) : Calls Try.prog 13 #[.pointer (some ⟨b, 0, none⟩), .int .i64 K] W fun e w' => e = .returned (.tuple #[.agg #[.int .i64 0, .int .i64 0, .int .i64 0, .string ⟨#[]⟩], .bool false]) ∧ St w0 w' B b (logC n K) := by
  have hA := at_any h.1 (K : Int) (by show (0 : Int) ≤ K; omega) (by show (K : Int) ≤ _; omega) (by omega)
  rw [atC n K _ (by omega)] at hA
  refine hA.mono ?_
  rintro e w' ⟨rfl, hb⟩
  exact ⟨rfl, h.step hb⟩
theorem lastCc (hK : K ≤ n) : Calls Try.prog 14 #[.pointer (some ⟨b, 0, none⟩)] W fun e w' => ∃ u, e = .returned (.tuple #[.int .i64 n, .int .i64 u]) ∧ St w0 w' B b (logC n K) := by
  have hL := last_any h.1
  rw [(lastC n K hK).1] at hL
  refine hL.mono ?_
  rintro e w' ⟨rfl, hb⟩
  exact ⟨_, rfl, h.step hb⟩
theorem termCc (hK : K ≤ 60) : Calls Try.prog 15 #[.pointer (some ⟨b, 0, none⟩), .int .i64 K] W fun e w' => e = .returned (.tuple #[.int .i64 (tC K), .bool true]) ∧ St w0 w' B b (logC n K) := by
  have hL := term_any h.1 (K : Int) (by show (0 : Int) ≤ K; omega) (by show (K : Int) ≤ _; omega) (by omega)
  rw [termC] at hL
  refine hL.mono ?_
  rintro e w' ⟨rfl, hb⟩
  exact ⟨rfl, h.step hb⟩
theorem lenCc : Calls Try.prog 20 #[.pointer (some ⟨b, 0, none⟩)] W fun e w' => e = .returned (.int .i64 ((n - K : Nat) : Int)) ∧ W = w' := by
  have hL := len_any h.1
  rw [logC_len] at hL
  exact hL
theorem compactCc (hK : K ≤ 60) (hn : n ≤ 60) : Calls Try.prog 21 #[.pointer (some ⟨b, 0, none⟩), .int .i64 ((K : Int) - 1)] W fun e w' => e = .returned (.bool false) ∧ St w0 w' B b (logC n K) := by
  have hL := compact_any h.1 h.2.2 ((K : Int) - 1) (by show (0 : Int) ≤ K; omega) (by rw [logC_len]; show (K : Int) + _ ≤ _; omega) (by rw [logC_len]; omega) (by omega)
  rw [compactC] at hL
  refine hL.mono ?_
  rintro e w' ⟨rfl, hl, hb⟩
  exact ⟨rfl, hl, h.2.1.trans hb, Nat.le_trans h.2.2 hb.size⟩
theorem newerCc (hK : K ≤ n) : Calls Try.prog 16 #[.pointer (some ⟨b, 0, none⟩), .int .i64 n, .int .i64 (1 + (n : Int) / 3)] W fun e w' => e = .returned (.bool true) ∧ St w0 w' B b (logC n K) := by
  have hL := newer_any h.1 n (1 + (n : Int) / 3)
  rw [newerC n K hK] at hL
  refine hL.mono ?_
  rintro e w' ⟨rfl, hb⟩
  exact ⟨rfl, h.step hb⟩
end
theorem compactC0 {w0 W : World} {B b n : Nat} (h : St w0 W B b (logC n 0)) (hn : n ≤ 60) : Calls Try.prog 21 #[.pointer (some ⟨b, 0, none⟩), .int .i64 (-1)] W fun e w' => e = .returned (.bool false) ∧ St w0 w' B b (logC n 0) :=
  compactCc h (by omega) hn
section
variable {w0 W : World} {B b n : Nat} (h : St w0 W B b (logC n 0))
include h
theorem baseZ : Calls Try.prog 22 #[.pointer (some ⟨b, 0, none⟩)] W fun e w' => e = .returned (.tuple #[.int .i64 0, .int .i64 0]) ∧ St w0 w' B b (logC n 0) := baseC (K := 0) h
theorem atZ : Calls Try.prog 13 #[.pointer (some ⟨b, 0, none⟩), .int .i64 0] W fun e w' => e = .returned (.tuple #[.agg #[.int .i64 0, .int .i64 0, .int .i64 0, .string ⟨#[]⟩], .bool false]) ∧ St w0 w' B b (logC n 0) := atCc (K := 0) h (Nat.zero_le _)
theorem termZ : Calls Try.prog 15 #[.pointer (some ⟨b, 0, none⟩), .int .i64 0] W fun e w' => e = .returned (.tuple #[.int .i64 0, .bool true]) ∧ St w0 w' B b (logC n 0) := termCc (K := 0) h (Nat.zero_le _)
theorem lenZ : Calls Try.prog 20 #[.pointer (some ⟨b, 0, none⟩)] W fun e w' => e = .returned (.int .i64 (n : Int)) ∧ W = w' := lenCc (K := 0) h
end
set_option maxRecDepth 20000 in
set_option maxHeartbeats 8000000 in
theorem walk_LogCompacts (a : Int) (_h : (Lit.int .i64 a).wf = true) (c : Int) (_h2 : (Lit.int .i64 c).wf = true) (w : World) :
    Calls Try.prog 6 #[.int .i64 a, .int .i64 c] w fun e w' => e = .returned (.bool true) ∧ Below w.heap.size w w' := by
  have hc : -9223372036854775808 ≤ c ∧ c ≤ 9223372036854775807 := by simpa [Lit.wf, IntKind.min, IntKind.max, IntKind.bits, IntKind.signed] using _h2
  clear _h _h2
  by_cases hn : a < 0 ∨ 60 < a
  · rcases Int.lt_or_le a 0 with h0 | h0
    · have hd : decide (a < 0) = true := by simpa using h0
      go_enter Try.func6, Try.ntmps6
      go_wp2_with (go_at_call 10; refine (alive_any _).mono ?_; rintro e w1 ⟨rfl, hb1⟩)
      go_ret
      exact ⟨rfl, hb1⟩
    · have hd : decide (a < 0) = false := by simp; omega
      have hd2 : decide (60 < a) = true := by simp; omega
      go_enter Try.func6, Try.ntmps6
      go_wp2_with (go_at_call 10; refine (alive_any _).mono ?_; rintro e w1 ⟨rfl, hb1⟩)
      go_ret
      exact ⟨rfl, hb1⟩
  · obtain ⟨n, rfl⟩ : ∃ n : Nat, a = n := ⟨a.toNat, by omega⟩
    have hn60 : n ≤ 60 := by omega
    have hd : decide ((n : Int) < 0) = false := by simp
    have hd2 : decide (60 < (n : Int)) = false := by simp; omega
    clear hn
    go_enter Try.func6, Try.ntmps6
    go_wp2_with fail
    refine (newN _).mono ?_
    rintro e w1 ⟨b, rfl, hl1, hb1⟩
    have hL1 : Hid (LogAt w1 w.heap.size b (logN 0)) := Lib.hid hl1
    have HB1 := Lib.hid hb1
    clear hl1 hb1
    go_wp2_with fail
    go_loopw [7] (fun i wr => ∃ k : Nat, k ≤ n ∧ i = .int .i64 k ∧ Hid (LogAt wr w.heap.size b (logN k)) ∧ Below w.heap.size w wr) (fun i _ => n - (intOf i).toNat)
    case atStart => exact ⟨0, Nat.zero_le _, rfl, hL1, HB1.out⟩
    case round =>
      obtain ⟨k, hk, rfl, hL, hb⟩ := hrel
      have HB := Lib.hid hb
      clear hb
      by_cases hlt : k < n
      · have hA := Lib.hid (addN hL.out HB.out.size (by omega))
        have hq : (k : Int).tdiv 3 = (k : Int) / 3 := Int.tdiv_eq_ediv_of_nonneg (by omega)
        have hq2 : IntKind.i64.wrap ((k : Int) / 3) = (k : Int) / 3 := IntWalk.i64_in _ (by omega)
        have hq3 : IntKind.i64.wrap (1 + (k : Int) / 3) = 1 + (k : Int) / 3 := IntWalk.i64_in _ (by omega)
        have hk60 : k ≤ 60 := by omega
        go_wp2_with (go_at_call 18; refine (hA.out).mono ?_; rintro e w2 ⟨rfl, hl2, hb2⟩; have HL2 := Lib.hid hl2; have HB2 := Lib.hid (HB.out.trans hb2); clear hl2 hb2)
        go_roundw
        case rel => exact ⟨k + 1, by omega, by go_num, HL2, HB2.out⟩
        case measure => simp [intOf]; omega
      · obtain rfl : k = n := by omega
        have HSt : St w wr w.heap.size b (logN k) := ⟨hL.out, HB.out, HB.out.size⟩
        have hCo := compact_any HSt.1 HSt.2.2 c (by show (0 : Int) ≤ 0; omega) (by rw [logN_len]; show (0 : Int) + k ≤ _; omega) (by rw [logN_len]; omega) hc.2
        rw [compactN] at hCo
        clear hL HB hL1 HB1
        by_cases hin : 0 ≤ c ∧ c ≤ k
        · rw [if_pos hin] at hCo
          by_cases hc0 : c = 0
          · subst hc0
            have HCo : Hid (Calls Try.prog 21 #[.pointer (some ⟨b, 0, none⟩), .int .i64 0] wr (CompactRes w.heap.size b (logC k 0, true) wr)) := Lib.hid hCo
            have hk0 : 0 ≤ (k : Int) := by omega
            have hq4 : (k : Int).tdiv 3 = (k : Int) / 3 := Int.tdiv_eq_ediv_of_nonneg (by omega)
            have hq5 : IntKind.i64.wrap ((k : Int) / 3) = (k : Int) / 3 := IntWalk.i64_in _ (by omega)
            have hq6 : IntKind.i64.wrap (1 + (k : Int) / 3) = 1 + (k : Int) / 3 := IntWalk.i64_in _ (by omega)
            clear hCo hin hc
            go_wp2_with fail
            refine (HCo.out).mono ?_
            rintro e w2 ⟨rfl, hl2, hb2⟩
            have S2 : St w w2 w.heap.size b (logC k 0) := ⟨hl2, HSt.2.1.trans hb2, Nat.le_trans HSt.2.2 hb2.size⟩
            clear hl2 hb2 HCo
            go_wp2_with fail
            refine (baseZ S2).mono ?_
            rintro e w3 ⟨rfl, S3⟩
            go_wp2_with fail
            refine (atZ S3).mono ?_
            rintro e w4 ⟨rfl, S4⟩
            clear S2 S3
            go_wp2_with fail
            refine (lastCc (S4.alloc _) (by omega)).mono ?_
            rintro e w5 ⟨u5, rfl, S5⟩
            clear S4
            go_wp2_with fail
            refine (termZ S5).mono ?_
            rintro e w6 ⟨rfl, S6⟩
            clear S5
            go_wp2_with fail
            refine (alive_any _).mono ?_
            rintro e w7 ⟨rfl, hb7⟩
            have S7 := S6.step hb7
            clear S6 hb7
            go_wp2_with fail
            refine (lenZ S7).mono ?_
            rintro e w8 ⟨rfl, rfl⟩
            go_wp2_with fail
            all_goals try (rename (some undef = some (Value.bool _)) => hu; cases hu)
            refine (compactC0 S7 hn60).mono ?_
            rintro e w9 ⟨rfl, S9⟩
            clear S7
            go_wp2_with fail
            refine (newerCc S9 (by omega)).mono ?_
            rintro e w10 ⟨rfl, S10⟩
            clear S9
            go_wp2_with fail
            go_ret
            exact ⟨rfl, S10.2.1⟩
          · obtain ⟨K, rfl⟩ : ∃ K : Nat, c = K := ⟨c.toNat, by omega⟩
            have hK0 : ¬ K = 0 := fun h => hc0 (by omega)
            clear hc0
            have hKk : K ≤ k := by omega
            rw [Int.toNat_natCast] at hCo
            have HCo := Lib.hid hCo
            have hd3 : decide ((0 : Int) ≤ (K : Int)) = true := by simp
            have hd4 : decide ((K : Int) ≤ (k : Int)) = true := by simpa using hKk
            clear hCo hin hc
            obtain ⟨m, hm⟩ : ∃ m, m = k - K := ⟨_, rfl⟩
            have hw1 : IntKind.i64.wrap ((k : Int) - (K : Int)) = (m : Int) := by rw [IntWalk.i64_in _ (by omega)]; omega
            have Hm := Lib.hid hm
            clear hm
            have hw2 : IntKind.i64.wrap ((K : Int) - 1) = (K : Int) - 1 := IntWalk.i64_in _ (by omega)
            have hq4 : (k : Int).tdiv 3 = (k : Int) / 3 := Int.tdiv_eq_ediv_of_nonneg (by omega)
            have hq5 : IntKind.i64.wrap ((k : Int) / 3) = (k : Int) / 3 := IntWalk.i64_in _ (by omega)
            have hq6 : IntKind.i64.wrap (1 + (k : Int) / 3) = 1 + (k : Int) / 3 := IntWalk.i64_in _ (by omega)
            obtain ⟨q, hq⟩ : ∃ q : Int, q = ((K : Int) - 1) / 3 := ⟨_, rfl⟩
            have ht : tC K = 1 + q := by unfold tC; rw [if_neg hK0, hq]
            have hd5 : ((K : Int) == 0) = false := by rw [beq_eq_false_iff_ne]; omega
            have hd6 : decide ((0 : Int) < (K : Int)) = true := by simp; omega
            have hq7 : ((K : Int) - 1).tdiv 3 = q := by rw [hq]; exact Int.tdiv_eq_ediv_of_nonneg (by omega)
            have hq8 : IntKind.i64.wrap q = q := IntWalk.i64_in _ (by omega)
            have hq9 : IntKind.i64.wrap (1 + q) = 1 + q := IntWalk.i64_in _ (by omega)
            clear hq
            go_wp2_with fail
            refine (HCo.out).mono ?_
            rintro e w2 ⟨rfl, hl2, hb2⟩
            have S2 : St w w2 w.heap.size b (logC k K) := ⟨hl2, HSt.2.1.trans hb2, Nat.le_trans HSt.2.2 hb2.size⟩
            clear hl2 hb2 HCo
            go_wp2_with fail
            refine (baseC S2).mono ?_
            rintro e w3 ⟨rfl, S3⟩
            go_wp2_with fail
            refine (atCc S3 (by omega)).mono ?_
            rintro e w4 ⟨rfl, S4⟩
            clear S2 S3
            go_wp2_with fail
            refine (lastCc (S4.alloc _) hKk).mono ?_
            rintro e w5 ⟨u5, rfl, S5⟩
            clear S4
            go_wp2_with fail
            refine (termCc S5 (by omega)).mono ?_
            rintro e w6 ⟨rfl, S6⟩
            clear S5
            go_wp2_with fail
            refine (alive_any _).mono ?_
            rintro e w7 ⟨rfl, hb7⟩
            have S7 := S6.step hb7
            clear S6 hb7
            go_wp2_with fail
            have hLen := lenCc S7
            rw [← Hm.out] at hLen
            refine hLen.mono ?_
            clear hLen
            rintro e w8 ⟨rfl, rfl⟩
            go_wp2_with fail
            refine (compactCc S7 (by omega) hn60).mono ?_
            rintro e w9 ⟨rfl, S9⟩
            clear S7
            go_wp2_with fail
            refine (newerCc S9 hKk).mono ?_
            rintro e w10 ⟨rfl, S10⟩
            clear S9
            go_wp2_with fail
            go_ret
            exact ⟨rfl, S10.2.1⟩
        · rw [if_neg hin] at hCo
          have HCo := Lib.hid hCo
          have hlen : (logN k).l.length = k := logN_len k
          clear hCo
          rcases Int.lt_or_le c 0 with h0 | h0
          · have hd3 : decide ((0 : Int) ≤ c) = false := by simp; omega
            go_wp2_with (first
              | (go_at_call 21; refine (HCo.out).mono ?_; rintro e w2 ⟨rfl, hl2, hb2⟩; have S2 : St w w2 w.heap.size b (logN k) := ⟨hl2, HSt.2.1.trans hb2, Nat.le_trans HSt.2.2 hb2.size⟩; clear hl2 hb2)
              | (go_at_call 10; refine (alive_any _).mono ?_; rintro e w3 ⟨rfl, hb3⟩; have S3 := S2.step hb3)
              | (go_at_call 20; refine (len_any S3.1).mono ?_; rintro e w4 ⟨rfl, rfl⟩))
            go_ret
            exact ⟨rfl, S3.2.1⟩
          · have hd3 : decide ((0 : Int) ≤ c) = true := by simpa using h0
            have hd4 : decide (c ≤ (k : Int)) = false := by simp; omega
            go_wp2_with (first
              | (go_at_call 21; refine (HCo.out).mono ?_; rintro e w2 ⟨rfl, hl2, hb2⟩; have S2 : St w w2 w.heap.size b (logN k) := ⟨hl2, HSt.2.1.trans hb2, Nat.le_trans HSt.2.2 hb2.size⟩; clear hl2 hb2)
              | (go_at_call 10; refine (alive_any _).mono ?_; rintro e w3 ⟨rfl, hb3⟩; have S3 := S2.step hb3)
              | (go_at_call 20; refine (len_any S3.1).mono ?_; rintro e w4 ⟨rfl, rfl⟩))
            go_ret
            exact ⟨rfl, S3.2.1⟩
/-! ### The row's step -/
set_option maxRecDepth 100000 in
theorem lifted_LogCompacts (os : Os) (started : os.Started) (H : Type) (enc : TypeId × Value → H) :
    ReturnsInHanded {} Try.checked os 6 .any (Rows.logCompactsSpec.pre6 enc Try.prog Try.f6 Rows.logCompactsRow.domain false) (Rows.logCompactsSpec.post enc Try.prog Try.f6 false true false false) := by
  refine returnsInHanded_of_change_sized (C := Try.checked) own started (by kernel_rfl) Try.func6
    (ChangeSpec.witness6 (enc := enc) (C := Try.checked) false ⟨#[], #[.int .i64 0, .int .i64 0], []⟩ 8 (by kernel_rfl) (by kernel_rfl) (by kernel_rfl) (by kernel_rfl)) ?_
  intro W base args ds gs before hval0 hW hcnd hsz0 _
  have hval : ∀ (j : Nat) t v, Try.f6.params[j]? = some t → args[j]? = some v → Value.okWide Try.prog W .any base t v := hval0
  have hW' := hW
  obtain ⟨p, q, hA0, hV, rfl, hfz, hnd⟩ := hW
  have hA : DataW.TrodAll enc Try.prog W 0 (fun _ => true) true Try.f6.params.toList args.toList ds p := hA0
  have hsz : (DataW.weightsEach Try.prog (Try.f6.params.toList ++ Rows.logCompactsSpec.plain.varTypes Try.prog) (ds ++ gs)).all (· ≤ reachBytes) = true := hsz0
  rw [Try.params6] at hA hval hsz
  obtain ⟨v0, vs0, d0, ds0, p0, q0, hargs, rfl, rfl, h0, r0⟩ := trodAll_cons hA
  obtain ⟨v1, vs1, d1, ds1, p1, q1, rfl, rfl, rfl, h1, r1⟩ := trodAll_cons r0
  obtain ⟨rfl, rfl, rfl⟩ := trodAll_nil r1
  obtain rfl : args = #[v0, v1] := by cases args; simp_all
  obtain ⟨hV1, hV2⟩ := trodVars_none hV
  subst hV1 hV2
  obtain ⟨a0, rfl, rfl, rfl, w0⟩ := open_int Try.underlying3 (hval 0 3 v0 rfl rfl) h0
  obtain ⟨a1, rfl, rfl, rfl, w1⟩ := open_int Try.underlying3 (hval 1 3 v1 rfl rfl) h1
  refine (walk_LogCompacts a0 w0 a1 w1 W).mono fun e W' ⟨he, hb⟩ => ?_
  subst he
  exact ⟨_, rfl, law_post laidOut (by kernel_rfl) rfl hW' rfl Try.underlying4 rfl hb⟩
theorem over_LogCompacts : Rows.logCompactsRow.holds Try.pinned (OpenSpec.ofChange Rows.logCompactsSpec) :=
  OpenClaim.holds_of_wide 6 Try.f6 rfl rfl rfl rfl rfl rfl rfl ⟨rfl, rfl, rfl, rfl, rfl⟩ rfl rfl rfl rfl rfl (by kernel_rfl) Try.func6 (by kernel_rfl)
    (of_decide_eq_true (by kernel_rfl)) (by unfold Func.isWrapper; first | (rw [if_pos (by decide +kernel)]; kernel_rfl) | (rw [if_neg (by decide +kernel)]; exact ⟨rfl, rfl⟩))
    (fun os started H enc _ => lifted_LogCompacts os started H enc)
/-- The statement. -/
theorem LogCompacts_holds : Rows.LogCompactsSaid := over_LogCompacts
#print axioms LogCompacts_holds
end Go.Proofs.Yticlkfdcocdmaaa
