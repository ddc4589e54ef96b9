/- The walk of arboretumref1.Digits. -/
import Derived.Test.YtegiibpdkioocaaDigP
import Derived.Test.YtegiibpdkioocaaRowsN
import Derived.Test.YtegiibpdkioocaaAppG
import Derived.Laws.AppendOwnNone
namespace Go.Proofs.Ytegiibpdkioocaa
open Go.RowKit
set_option linter.unusedVariables false
/-- One byte in a new block, as a row of the call's own. -/
theorem own_one (W : World) (base : Nat) (hb : base ≤ W.heap.size) (u : Value) : (W.alloc (.cells #[u] 5)).ownsRow base 5 1 (.slice (some ⟨W.heap.size, 0, none⟩) 1 1) 1 [u] :=
  ⟨rfl, .inr ⟨W.heap.size, 1, #[u], rfl, hb, heap_alloc_new W _, Nat.le_refl _, by unfold maxLen; omega, rfl, rfl⟩⟩
/-- What is left to be laid: m, in front of P. -/
def DigTo (D : List UInt8) (m : Nat) (P : List UInt8) : Prop := (m = 0 → P = D) ∧ (m ≠ 0 → ∃ f, m < 10 ^ (f + 1) ∧ digF (f + 1) m P = D)
theorem DigTo.step {D P : List UInt8} {m : Nat} (h : DigTo D m P) (hm : m ≠ 0) : DigTo D (m / 10) (UInt8.ofNat (48 + m % 10) :: P) := by
  obtain ⟨f, hf, hd⟩ := h.2 hm
  rw [digF_succ] at hd
  by_cases h0 : m / 10 = 0
  · rw [if_pos h0] at hd
    exact ⟨fun _ => hd, fun h => absurd h0 h⟩
  · rw [if_neg h0] at hd
    refine ⟨fun h => absurd h h0, fun _ => ?_⟩
    rw [Nat.pow_succ] at hf
    cases f with
    | zero => simp at hf; omega
    | succ f => exact ⟨f, by omega, hd⟩
theorem DigTo.room {D P : List UInt8} {m : Nat} (h : DigTo D m P) : P.length ≤ D.length := by
  by_cases h0 : m = 0
  · rw [h.1 h0]; exact Nat.le_refl _
  · obtain ⟨f, _, hd⟩ := h.2 h0
    rw [digF_acc] at hd
    rw [← hd, List.length_append]
    omega
set_option maxRecDepth 20000 in
set_option maxHeartbeats 2000000 in
theorem rdig_pos (V : Nat) (hV : V ≤ 9223372036854775807) (h0 : V ≠ 0) (w : World) :
    Calls Try.prog 31 #[.int .i64 V] w fun e w' => e = .returned (.string ⟨(digF 20 V []).toArray⟩) ∧ Below w.heap.size w w' := by
  obtain ⟨i0, hi, hz0, hz1, hz2⟩ := info_parts u8info
  have HD : Hid (DigTo (digF 20 V []) V []) := Lib.hid ⟨fun h => absurd h h0, fun _ => ⟨19, by omega, rfl⟩⟩
  have hlD : (digF 20 V []).length ≤ 20 := by have := digF_len 20 V []; simpa using this
  obtain ⟨D, hD⟩ : ∃ D, D = digF 20 V [] := ⟨_, rfl⟩
  rw [← hD] at HD hlD ⊢
  have d9 : ((V : Int) == 0) = false := by simpa using h0
  clear hD h0
  go_enter Try.func31, Try.ntmps31
  go_wp2
  go_loopw [3, 4, 5] (fun b x _ wr => ∃ (m : Nat) (P : List UInt8) (ao : Option Addr) (cap : Nat), x = .int .i64 m ∧ m ≤ 9223372036854775807 ∧ b = .slice ao P.length cap ∧ Hid (DigTo D m P) ∧ Hid (wr.ownsRow w.heap.size 5 1 (.slice ao P.length cap) P.length (Lib.byteCells P)) ∧ (P = [] → ao = none ∧ cap = 0) ∧ Hid (Below w.heap.size w wr)) (fun _ x _ _ => (intOf x).toNat)
  case atStart => exact ⟨V, [], none, 0, rfl, hV, rfl, HD, Lib.hid (World.ownsRow_nil _ _ _ _), fun _ => ⟨rfl, rfl⟩, Lib.hid (Below.refl _ _)⟩
  case round =>
    obtain ⟨m, P, ao, cap, rfl, hm, rfl, HT, HO, hnil, HB⟩ := hrel
    have hPD := HT.out.room
    have hsz := HB.out.size
    by_cases hm0 : m = 0
    · have hP : P = D := HT.out.1 hm0
      have d0 : ((m : Int) != 0) = false := by rw [hm0]; rfl
      have d1 : decide ((V : Int) < 0) = false := by simp
      have hcv := run_string_own (P := Try.prog) HO.out 97 9 Try.underlying97 Try.underlying5 Try.underlying9
      subst hP
      clear hm0
      go_wp2_with fail
      go_ret
      exact ⟨rfl, HB.out⟩
    · obtain ⟨cb, hcb⟩ : ∃ cb, cb = UInt8.ofNat (48 + m % 10) := ⟨_, rfl⟩
      have d0 : ((m : Int) != 0) = true := by simpa using hm0
      have hby : 48 + (m : Int) % 10 = (cb.toNat : Int) := by rw [hcb]; simp; omega
      have HN : Hid (DigTo D (m / 10) (cb :: P)) := Lib.hid (by rw [hcb]; exact HT.out.step hm0)
      have hml : m / 10 < m := by omega
      have HOne := Lib.hid (own_one wr w.heap.size hsz (.int .u8 (cb.toNat : Int)))
      have hc8 := cb.toNat_lt
      clear hcb hm0
      by_cases hP : P = []
      · obtain ⟨rfl, rfl⟩ := hnil hP
        subst hP
        go_wp2_with (at_builtin; refine wpList_append_own_none rfl (.tmp 22) (.tmp 23) 97 rfl w.heap.size 5 i0 1 Try.underlying97 hi _ 1 _ rfl HOne.out rfl ?_)
        go_roundw
        case rel => exact ⟨m / 10, [cb], some ⟨wr.heap.size, 0, none⟩, 1, by go_num, by omega, rfl, HN, Lib.hid HOne.out, (fun h => by cases h), Lib.hid (HB.out.alloc hsz _)⟩
        case measure => simp [intOf]; omega
      · obtain ⟨g, cap', hv, hgb, hgl⟩ := HO.out.form (List.length_pos_iff.2 hP)
        injection hv with hv _ hcv
        subst hv
        subst hcv
        have HAl := Lib.hid (HO.out.alloc (.cells #[.int .u8 (cb.toNat : Int)] 5))
        go_wp2_with (at_builtin; refine wpList_append_own_at _ rfl (.tmp 22) (.tmp 23) 97 rfl w.heap.size 5 i0 _ 1 1 Try.underlying97 hi hz0 hz1 hz2 rfl (by omega) _ 1 _ rfl HOne.out ⟨g, 0, none⟩ P.length cap (Lib.byteCells P) rfl (by rw [Lib.byteCells_length]; omega) (HAl.out.cells rfl) (by intro u hu; obtain ⟨x, _, rfl⟩ := List.mem_map.1 hu; rfl) (by unfold maxLen; omega) (by omega) (by simp; omega) ?_; intro v1 w8 hown8 hg8 _ _; rw [Nat.add_comm] at hown8; obtain ⟨a8, c8, hv8, _⟩ := own_shape hown8; subst hv8; have HO8 : Hid (w8.ownsRow w.heap.size 5 1 (.slice a8 (cb :: P).length c8) (cb :: P).length (Lib.byteCells (cb :: P))) := Lib.hid hown8; have HB8 := Lib.hid ((HB.out.alloc hsz _).grown hg8 (by simp; omega) (fun k hk => (HOne.out.lt k hk).1)); clear hown8 hg8)
        go_roundw
        case rel => exact ⟨m / 10, cb :: P, a8, c8, by go_num, by omega, rfl, HN, HO8, (fun h => by cases h), HB8⟩
        case measure => simp [intOf]; omega
set_option maxRecDepth 20000 in
set_option maxHeartbeats 2000000 in
theorem rdig_neg (V : Nat) (hV : V ≤ 9223372036854775808) (h0 : V ≠ 0) (w : World) :
    Calls Try.prog 31 #[.int .i64 (-(V : Int))] w fun e w' => e = .returned (.string ⟨(45 :: digF 20 V []).toArray⟩) ∧ Below w.heap.size w w' := by
  obtain ⟨i0, hi, hz0, hz1, hz2⟩ := info_parts u8info
  have HD : Hid (DigTo (digF 20 V []) V []) := Lib.hid ⟨fun h => absurd h h0, fun _ => ⟨19, by omega, rfl⟩⟩
  have hlD : (digF 20 V []).length ≤ 20 := by have := digF_len 20 V []; simpa using this
  have hDne : Hid (digF 20 V [] ≠ []) := Lib.hid (digF_ne 20 V [] (by omega))
  obtain ⟨D, hD⟩ : ∃ D, D = digF 20 V [] := ⟨_, rfl⟩
  rw [← hD] at HD hlD hDne ⊢
  have d9 : (-(V : Int) == 0) = false := by simp; omega
  have d8 : decide (-(V : Int) < 0) = true := by simp; omega
  have hV0 : -(V : Int) < 0 := by omega
  clear hD h0
  go_enter Try.func31, Try.ntmps31
  go_wp2
  go_loopw [3, 4, 5] (fun b x _ wr => ∃ (m : Nat) (P : List UInt8) (ao : Option Addr) (cap : Nat), x = .int .i64 (-(m : Int)) ∧ m ≤ 9223372036854775808 ∧ b = .slice ao P.length cap ∧ Hid (DigTo D m P) ∧ Hid (wr.ownsRow w.heap.size 5 1 (.slice ao P.length cap) P.length (Lib.byteCells P)) ∧ (P = [] → ao = none ∧ cap = 0) ∧ Hid (Below w.heap.size w wr)) (fun _ x _ _ => (-(intOf x)).toNat)
  case atStart => exact ⟨V, [], none, 0, rfl, hV, rfl, HD, Lib.hid (World.ownsRow_nil _ _ _ _), fun _ => ⟨rfl, rfl⟩, Lib.hid (Below.refl _ _)⟩
  case round =>
    obtain ⟨m, P, ao, cap, rfl, hm, rfl, HT, HO, hnil, HB⟩ := hrel
    have hPD := HT.out.room
    have hsz := HB.out.size
    by_cases hm0 : m = 0
    · have hP : P = D := HT.out.1 hm0
      have d0 : (-(m : Int) != 0) = false := by rw [hm0]; rfl
      subst hP
      by_cases hPn : P = []
      · exact absurd hPn hDne.out
      · obtain ⟨g, cap', hv, hgb, hgl⟩ := HO.out.form (List.length_pos_iff.2 hPn)
        injection hv with hv _ hcv
        subst hv
        subst hcv
        have HAl := Lib.hid (HO.out.alloc (.cells #[.int .u8 45] 5))
        have HOne := Lib.hid (own_one wr w.heap.size hsz (.int .u8 45))
        clear hm0 hPn
        go_wp2_with (at_builtin; refine wpList_append_own_at _ rfl (.tmp 27) (.tmp 28) 97 rfl w.heap.size 5 i0 _ 1 1 Try.underlying97 hi hz0 hz1 hz2 rfl (by omega) _ 1 _ rfl HOne.out ⟨g, 0, none⟩ P.length cap (Lib.byteCells P) rfl (by rw [Lib.byteCells_length]; omega) (HAl.out.cells rfl) (by intro u hu; obtain ⟨x, _, rfl⟩ := List.mem_map.1 hu; rfl) (by unfold maxLen; omega) (by omega) (by simp; omega) ?_; intro v1 w8 hown8 hg8 _ _; rw [Nat.add_comm] at hown8; have hown9 : w8.ownsRow w.heap.size 5 1 v1 (45 :: P).length (Lib.byteCells (45 :: P)) := hown8; have hcv := run_string_own (P := Try.prog) hown9 97 9 Try.underlying97 Try.underlying5 Try.underlying9; have HB8 := Lib.hid ((HB.out.alloc hsz _).grown hg8 (by simp; omega) (fun k hk => (HOne.out.lt k hk).1)); clear hown8 hown9 hg8)
        go_ret
        exact ⟨rfl, HB8.out⟩
    · obtain ⟨cb, hcb⟩ : ∃ cb, cb = UInt8.ofNat (48 + m % 10) := ⟨_, rfl⟩
      have d0 : (-(m : Int) != 0) = true := by simp; omega
      have HN0 : Hid (DigTo D (m / 10) (cb :: P)) := Lib.hid (by rw [hcb]; exact HT.out.step hm0)
      obtain ⟨r, hr⟩ : ∃ r, r = m % 10 := ⟨_, rfl⟩
      obtain ⟨q, hq⟩ : ∃ q, q = m / 10 := ⟨_, rfl⟩
      have e1 : (-(m : Int)).tmod 10 = -(r : Int) := by rw [Int.neg_tmod, hr]; rfl
      have e2 : (-(m : Int)).tdiv 10 = -(q : Int) := by rw [Int.neg_tdiv, hq]; rfl
      have hby : 48 + (r : Int) = (cb.toNat : Int) := by rw [hcb, hr]; simp; omega
      have HN : Hid (DigTo D q (cb :: P)) := Lib.hid (by rw [hq]; exact HN0.out)
      have hml : q < m := by omega
      have hr9 : r ≤ 9 := by omega
      clear hr hq HN0
      have HOne := Lib.hid (own_one wr w.heap.size hsz (.int .u8 (cb.toNat : Int)))
      have hc8 := cb.toNat_lt
      clear hcb hm0
      by_cases hr0 : r = 0
      all_goals first
        | (have dr : decide (-(r : Int) < 0) = false := by simp [hr0]
           have dr2 : ¬ (-(r : Int) < 0) := by omega
           have hby2 : 48 + -(r : Int) = (cb.toNat : Int) := by omega)
        | (have dr : decide (-(r : Int) < 0) = true := by simp; omega
           have dr2 : -(r : Int) < 0 := by omega)
      all_goals clear hr0
      all_goals by_cases hP : P = []
      · obtain ⟨rfl, rfl⟩ := hnil hP
        subst hP
        go_wp2_with (at_builtin; refine wpList_append_own_none rfl (.tmp 22) (.tmp 23) 97 rfl w.heap.size 5 i0 1 Try.underlying97 hi _ 1 _ rfl HOne.out rfl ?_)
        go_roundw
        case rel => exact ⟨q, [cb], some ⟨wr.heap.size, 0, none⟩, 1, by go_num, by omega, rfl, HN, Lib.hid HOne.out, (fun h => by cases h), Lib.hid (HB.out.alloc hsz _)⟩
        case measure => simp [intOf]; omega
      · obtain ⟨g, cap', hv, hgb, hgl⟩ := HO.out.form (List.length_pos_iff.2 hP)
        injection hv with hv _ hcv
        subst hv
        subst hcv
        have HAl := Lib.hid (HO.out.alloc (.cells #[.int .u8 (cb.toNat : Int)] 5))
        go_wp2_with (at_builtin; refine wpList_append_own_at _ rfl (.tmp 22) (.tmp 23) 97 rfl w.heap.size 5 i0 _ 1 1 Try.underlying97 hi hz0 hz1 hz2 rfl (by omega) _ 1 _ rfl HOne.out ⟨g, 0, none⟩ P.length cap (Lib.byteCells P) rfl (by rw [Lib.byteCells_length]; omega) (HAl.out.cells rfl) (by intro u hu; obtain ⟨x, _, rfl⟩ := List.mem_map.1 hu; rfl) (by unfold maxLen; omega) (by omega) (by simp; omega) ?_; intro v1 w8 hown8 hg8 _ _; rw [Nat.add_comm] at hown8; obtain ⟨a8, c8, hv8, _⟩ := own_shape hown8; subst hv8; have HO8 : Hid (w8.ownsRow w.heap.size 5 1 (.slice a8 (cb :: P).length c8) (cb :: P).length (Lib.byteCells (cb :: P))) := Lib.hid hown8; have HB8 := Lib.hid ((HB.out.alloc hsz _).grown hg8 (by simp; omega) (fun k hk => (HOne.out.lt k hk).1)); clear hown8 hg8)
        go_roundw
        case rel => exact ⟨q, cb :: P, a8, c8, by go_num, by omega, rfl, HN, HO8, (fun h => by cases h), HB8⟩
        case measure => simp [intOf]; omega
      · obtain ⟨rfl, rfl⟩ := hnil hP
        subst hP
        go_wp2_with (at_builtin; refine wpList_append_own_none rfl (.tmp 22) (.tmp 23) 97 rfl w.heap.size 5 i0 1 Try.underlying97 hi _ 1 _ rfl HOne.out rfl ?_)
        go_roundw
        case rel => exact ⟨q, [cb], some ⟨wr.heap.size, 0, none⟩, 1, by go_num, by omega, rfl, HN, Lib.hid HOne.out, (fun h => by cases h), Lib.hid (HB.out.alloc hsz _)⟩
        case measure => simp [intOf]; omega
      · obtain ⟨g, cap', hv, hgb, hgl⟩ := HO.out.form (List.length_pos_iff.2 hP)
        injection hv with hv _ hcv
        subst hv
        subst hcv
        have HAl := Lib.hid (HO.out.alloc (.cells #[.int .u8 (cb.toNat : Int)] 5))
        go_wp2_with (at_builtin; refine wpList_append_own_at _ rfl (.tmp 22) (.tmp 23) 97 rfl w.heap.size 5 i0 _ 1 1 Try.underlying97 hi hz0 hz1 hz2 rfl (by omega) _ 1 _ rfl HOne.out ⟨g, 0, none⟩ P.length cap (Lib.byteCells P) rfl (by rw [Lib.byteCells_length]; omega) (HAl.out.cells rfl) (by intro u hu; obtain ⟨x, _, rfl⟩ := List.mem_map.1 hu; rfl) (by unfold maxLen; omega) (by omega) (by simp; omega) ?_; intro v1 w8 hown8 hg8 _ _; rw [Nat.add_comm] at hown8; obtain ⟨a8, c8, hv8, _⟩ := own_shape hown8; subst hv8; have HO8 : Hid (w8.ownsRow w.heap.size 5 1 (.slice a8 (cb :: P).length c8) (cb :: P).length (Lib.byteCells (cb :: P))) := Lib.hid hown8; have HB8 := Lib.hid ((HB.out.alloc hsz _).grown hg8 (by simp; omega) (fun k hk => (HOne.out.lt k hk).1)); clear hown8 hg8)
        go_roundw
        case rel => exact ⟨q, cb :: P, a8, c8, by go_num, by omega, rfl, HN, HO8, (fun h => by cases h), HB8⟩
        case measure => simp [intOf]; omega
set_option maxRecDepth 20000 in
set_option maxHeartbeats 2000000 in
theorem rdig_zero (w : World) :
    Calls Try.prog 31 #[.int .i64 0] w fun e w' => e = .returned (.string ⟨(digF 20 0 []).toArray⟩) ∧ Below w.heap.size w w' := by
  have h : digF 20 0 [] = [48] := rfl
  rw [h]
  go_enter Try.func31, Try.ntmps31
  go_wp2
  go_ret
  exact ⟨rfl, Below.refl _ _⟩
theorem rdig_any (v : Int) (hv : -9223372036854775808 ≤ v ∧ v ≤ 9223372036854775807) (w : World) :
    Calls Try.prog 31 #[.int .i64 v] w fun e w' => e = .returned (.string ⟨(digits v).toArray⟩) ∧ Below w.heap.size w w' := by
  unfold digits
  by_cases h0 : v = 0
  · subst h0
    exact rdig_zero w
  · by_cases hn : v < 0
    · have h := rdig_neg v.natAbs (by omega) (by omega) w
      have e : -((v.natAbs : Nat) : Int) = v := by omega
      rw [e] at h
      rw [if_pos hn]
      exact h
    · have h := rdig_pos v.natAbs (by omega) (by omega) w
      have e : ((v.natAbs : Nat) : Int) = v := by omega
      rw [e] at h
      rw [if_neg hn]
      exact h
end Go.Proofs.Ytegiibpdkioocaa
