/- The walk of branch.Split: the first of the best places. -/
import Derived.Test.YtmdidmllaldbaaaGreatSplitC
import Derived.Test.YtmdidmllaldbaaaGreatPutC
namespace Go.Proofs.YtmdidmllaldbaaaGreat
open Go.RowKit
set_option linter.unusedVariables false
/-- The best place so far. -/
def BestF (l : List Chd) (i best : Nat) : Prop := (i = 1 ∧ best = 0) ∨ (1 ≤ best ∧ best < i ∧ ∀ j, 1 ≤ j → j < i → partC l best ≤ partC l j ∧ (j < best → partC l best < partC l j))
theorem BestF.stay {l : List Chd} {i best : Nat} (h : BestF l i best) (hi : 1 ≤ i) (h0 : best ≠ 0) (hb : partC l best ≤ partC l i) : BestF l (i + 1) best := by
  rcases h with ⟨_, h⟩ | ⟨h1, h2, h3⟩
  · exact absurd h h0
  · refine .inr ⟨h1, by omega, fun j a b => ?_⟩
    by_cases hj : j < i
    · exact h3 j a hj
    · obtain rfl : j = i := by omega
      exact ⟨hb, fun h => by omega⟩
theorem BestF.take {l : List Chd} {i best : Nat} (h : BestF l i best) (hi : 1 ≤ i) (hb : best = 0 ∨ partC l i < partC l best) : BestF l (i + 1) i := by
  refine .inr ⟨hi, by omega, fun j a b => ?_⟩
  by_cases hj : j < i
  · rcases h with ⟨h, _⟩ | ⟨h1, h2, h3⟩
    · omega
    · have := (h3 j a hj).1
      rcases hb with hb | hb
      · omega
      · exact ⟨by omega, fun _ => by omega⟩
  · obtain rfl : j = i := by omega
    exact ⟨Nat.le_refl _, fun h => by omega⟩
theorem splitF_uniq {l : List Chd} {a b : Nat} (h : ∀ j, 1 ≤ j → j < l.length → partC l a ≤ partC l j ∧ (j < a → partC l a < partC l j)) (k : ∀ j, 1 ≤ j → j < l.length → partC l b ≤ partC l j ∧ (j < b → partC l b < partC l j)) (ha : 1 ≤ a ∧ a < l.length) (hb : 1 ≤ b ∧ b < l.length) : a = b := by
  have h1 := h b hb.1 hb.2
  have h2 := k a ha.1 ha.2
  rcases Nat.lt_trichotomy a b with hlt | he | hlt
  · have := h2.2 hlt; omega
  · exact he
  · have := h1.2 hlt; omega
def SplitFOk (l : List Chd) (k : Nat) : Prop := 1 ≤ k ∧ k < l.length ∧ ∀ j, 1 ≤ j → j < l.length → partC l k ≤ partC l j ∧ (j < k → partC l k < partC l j)
/-- What Split answers of two children and more. -/
def SplitFRes (l : List Chd) (n : Nat) (w : World) (e : Ending) (w' : World) : Prop :=
  ∃ (k : Nat) (ao : Option Addr) (ca : Nat) (bo : Option Addr) (cb : Nat), e = .returned (.tuple #[.slice ao k ca, .slice bo (n - k) cb]) ∧ SplitFOk l k ∧
    w'.ownsRow w.heap.size 192 2 (.slice ao k ca) k (chdCells (l.take k)) ∧ w'.ownsRow w.heap.size 192 2 (.slice bo (n - k) cb) (n - k) (chdCells (l.drop k)) ∧ Below w.heap.size w w'
/-- The same, in blocks of their own. -/
def SplitGRes (l : List Chd) (n : Nat) (w : World) (e : Ending) (w' : World) : Prop :=
  ∃ (k : Nat) (ao : Option Addr) (ca : Nat) (bo : Option Addr) (cb : Nat), e = .returned (.tuple #[.slice ao k ca, .slice bo (n - k) cb]) ∧ SplitFOk l k ∧
    w'.ownsRow w.heap.size 192 2 (.slice ao k ca) k (chdCells (l.take k)) ∧ w'.ownsRow w.heap.size 192 2 (.slice bo (n - k) cb) (n - k) (chdCells (l.drop k)) ∧ Below w.heap.size w w' ∧ ∀ g, (Value.slice ao k ca).ownBlock = some g → (Value.slice bo (n - k) cb).ownBlock ≠ some g
theorem apart_of {w w' : World} {base base' : Nat} {e e' : TypeId} {size size' n n' : Nat} {v v' : Value} {xs xs' : List Value} (h : w.ownsRow base e size v n xs) (h' : w'.ownsRow base' e' size' v' n' xs') (hb : w.heap.size ≤ base') : (∀ g, v.ownBlock = some g → v'.ownBlock ≠ some g) ∧ ∀ g, v'.ownBlock = some g → v.ownBlock ≠ some g :=
  ⟨fun g h1 h2 => by have := (h.lt g h1).2; have := (h'.lt g h2).1; omega, fun g h1 h2 => by have := (h.lt g h2).2; have := (h'.lt g h1).1; omega⟩
set_option maxRecDepth 100000 in
set_option maxHeartbeats 8000000 in
theorem splitF_any {w : World} {b o n c : Nat} {l : List Chd} (h : ChdsOk w (some ⟨b, o, none⟩) n l) (hnc : n ≤ c) (hc : c ≤ 9223372036854775807) (h2 : 2 ≤ n) :
    Calls Tryz.prog 41 #[.slice (some ⟨b, o, none⟩) n c] w (SplitGRes l n w) := by
  have HSa : Hid (∀ i, i ≤ n → ∀ W, Below w.heap.size w W → Calls Tryz.prog 45 #[.slice (some ⟨b, o, none⟩) i c] W fun e w' => e = .returned (.int .i64 (layB (l.take i)).length) ∧ Below W.heap.size W w') := Lib.hid (fun i hi W hW => sizeC_any ((h.below hW).takeC hi))
  have HSb : Hid (∀ i c2, i ≤ n → ∀ W, Below w.heap.size w W → Calls Tryz.prog 45 #[.slice (some ⟨b, o + i * 2, none⟩) (n - i) c2] W fun e w' => e = .returned (.int .i64 (layB (l.drop i)).length) ∧ Below W.heap.size W w') := Lib.hid (fun i c2 hi W hW => sizeC_any ((h.below hW).dropC hi))
  have HCa : Hid (∀ i, i ≤ n → ∀ W, Below w.heap.size w W → Calls Tryz.prog 180 #[.slice (some ⟨b, o, none⟩) i c] W (OwnsChds W.heap.size i (l.take i) W)) := Lib.hid (fun i hi W hW => cloneC_any _ _ _ _ _ ((h.below hW).takeC hi).chds (by have := h.few; omega) (fun h => by cases h))
  have HCb : Hid (∀ i c2, i ≤ n → ∀ W, Below w.heap.size w W → Calls Tryz.prog 180 #[.slice (some ⟨b, o + i * 2, none⟩) (n - i) c2] W (OwnsChds W.heap.size (n - i) (l.drop i) W)) := Lib.hid (fun i c2 hi W hW => cloneC_any _ _ _ _ _ ((h.below hW).dropC hi).chds (by have := h.few; omega) (fun h => by cases h))
  have HLn := Lib.hid h.len
  have hn2 : n ≤ 2000000 := h.few
  have HBy : Hid (∀ i, (layB (l.take i)).length ≤ 17600000000000 ∧ (layB (l.drop i)).length ≤ 17600000000000) := Lib.hid (fun i => by
    have h1 := h.bytes
    have e : layB l = layB (l.take i) ++ layB (l.drop i) := by rw [← layB_append, List.take_append_drop]
    rw [e, List.length_append] at h1
    omega)
  clear h
  go_enter Tryz.func41, Tryz.ntmps41
  go_wp2_with fail
  go_loopw [4, 5, 6] (fun x y z wr => ∃ (best i size : Nat), x = .int .i64 best ∧ y = .int .i64 size ∧ z = .int .i64 i ∧ 1 ≤ i ∧ i ≤ n ∧ best ≤ n ∧ Hid (BestF l i best) ∧ Hid (best ≠ 0 → size = partC l best) ∧ size ≤ 17600000000000 ∧ Hid (Below w.heap.size w wr)) (fun _ _ z _ => n - (intOf z).toNat)
  case atStart => exact ⟨0, 1, 0, rfl, rfl, rfl, Nat.le_refl _, by omega, by omega, Lib.hid (.inl ⟨rfl, rfl⟩), Lib.hid (fun h => absurd rfl h), by omega, Lib.hid (Below.refl _ _)⟩
  case round =>
    obtain ⟨best, i, size, rfl, rfl, rfl, hi1, hin, hbn, HBs, HSz, hsz, HB⟩ := hrel
    by_cases hlt : i < n
    · have x1 : (0 : Int) ≤ i := by omega
      have x2 : (i : Int) ≤ c := by omega
      have x3 : (i : Int) ≤ n := by omega
      have x4 : ¬ i = c := by omega
      have x5 : (n : Int) ≤ c := by omega
      have hby := HBy.out i
      have HA := Lib.hid (HSa.out i (by omega))
      have HD := Lib.hid (HSb.out i (c - i) (by omega))
      obtain ⟨La, hLa⟩ : ∃ L, L = (layB (l.take i)).length := ⟨_, rfl⟩
      obtain ⟨Lb, hLb⟩ : ∃ L, L = (layB (l.drop i)).length := ⟨_, rfl⟩
      rw [← hLa] at HA hby
      rw [← hLb] at HD hby
      have HPt : Hid (partC l i = max La Lb) := Lib.hid (by unfold partC; rw [hLa, hLb])
      clear hLa hLb
      obtain ⟨hba, hbb⟩ := hby
      have hbr := HB.out
      go_wp2_with fail
      go_cut [7] from 13 to 36 (fun s wx => ∃ M : Nat, s = .int .i64 M ∧ Hid (M = partC l i) ∧ M ≤ 17600000000000 ∧ Hid (Below w.heap.size w wx))
      case first =>
        go_region_with (first
          | (go_at_call 45; ((with_reducible refine (HA.out _ (by (first | exact hbr | exact hbr.drew | exact hv5 | exact hv6))).mono ?_); rintro e5 w5 ⟨rfl, hb5⟩; have hv5 : Below w.heap.size w w5 := (by first | exact hbr.trans (hb5.mono hbr.size) | exact (hbr.drew).trans (hb5.mono hbr.size) | exact hv6.trans (hb5.mono hv6.size))))
          | (go_at_call 45; ((with_reducible refine (HD.out _ (by (first | exact hbr | exact hbr.drew | exact hv5 | exact hv6))).mono ?_); rintro e6 w6 ⟨rfl, hb6⟩; have hv6 : Below w.heap.size w w6 := (by first | exact hbr.trans (hb6.mono hbr.size) | exact (hbr.drew).trans (hb6.mono hbr.size) | exact hv5.trans (hb6.mono hv5.size)))))
        all_goals (
          have hz : Below w.heap.size w w5 ∧ Below w.heap.size w w6 := ⟨hv5, hv6⟩
          go_wp2_with fail
          all_goals (
            go_meet
            exact ⟨_, rfl, Lib.hid (by rw [HPt.out]; omega), by omega, Lib.hid (by first | exact hz.1 | exact hz.2)⟩))
      case rest =>
        obtain ⟨M, rfl, HM, hM, HBw⟩ := hcut
        clear HA HD hba hbb hbr HB
        by_cases hb0 : best = 0
        · have d0 : ((best : Int) == 0) = true := by rw [hb0]; rfl
          have HN := Lib.hid (HBs.out.take hi1 (.inl hb0))
          clear hb0
          go_wp2_with fail
          go_roundw
          case rel => exact ⟨i, i + 1, M, rfl, rfl, by go_num, by omega, by omega, by omega, HN, Lib.hid (fun _ => HM.out), hM, HBw⟩
          case measure => simp [intOf]; omega
        · have d0 : ((best : Int) == 0) = false := by simpa using hb0
          by_cases hMs : M < size
          · have d1 : decide (M < size) = true := by simpa using hMs
            have HN := Lib.hid (HBs.out.take hi1 (.inr (by rw [← HM.out, ← HSz.out hb0]; exact hMs)))
            clear hb0
            go_wp2_with fail
            go_roundw
            case rel => exact ⟨i, i + 1, M, rfl, rfl, by go_num, by omega, by omega, by omega, HN, Lib.hid (fun _ => HM.out), hM, HBw⟩
            case measure => simp [intOf]; omega
          · have d1 : decide (M < size) = false := by simpa using hMs
            have HN := Lib.hid (HBs.out.stay hi1 hb0 (by rw [← HM.out, ← HSz.out hb0]; omega))
            clear hb0
            go_wp2_with fail
            go_roundw
            case rel => exact ⟨best, i + 1, size, rfl, rfl, by go_num, by omega, by omega, by omega, HN, HSz, hsz, HBw⟩
            case measure => simp [intOf]; omega
    · obtain rfl : i = n := by omega
      have hok : SplitFOk l best ∧ best ≠ 0 ∧ best < i := by
        rcases HBs.out with ⟨h1, _⟩ | ⟨h1, h2', h3⟩
        · omega
        · exact ⟨⟨h1, by rw [HLn.out]; exact h2', fun j a b' => h3 j a (by rw [HLn.out] at b'; exact b')⟩, by omega, h2'⟩
      obtain ⟨hok1, hok2, hok3⟩ := hok
      have HOk := Lib.hid hok1
      have x1 : (0 : Int) ≤ best := by omega
      have x2 : (best : Int) ≤ c := by omega
      have x3 : (best : Int) ≤ i := by omega
      have x4 : ¬ best = c := by omega
      have x5 : (i : Int) ≤ c := by omega
      have HA := Lib.hid (HCa.out best (by omega))
      have HD := Lib.hid (HCb.out best (c - best) (by omega))
      have hbr := HB.out
      clear hok1 HSz HBs HCa HCb HSa HSb HB
      go_wp2_with fail
      go_region_with (first
        | (go_at_call 180; ((with_reducible refine (HA.out _ (by (first | exact hbr | exact hbr.drew | exact hv5 | exact hv6))).mono ?_); rintro e5 w5 ⟨a5, c5, rfl, ho5, hb5⟩; have hv5 : Below w.heap.size w w5 := (by first | exact hbr.trans (hb5.mono hbr.size) | exact (hbr.drew).trans (hb5.mono hbr.size) | exact hv6.trans (hb5.mono hv6.size)); have HO5 := own_mono ho5 (by first | exact hbr.size | exact hv6.size)))
        | (go_at_call 180; ((with_reducible refine (HD.out _ (by (first | exact hbr | exact hbr.drew | exact hv5 | exact hv6))).mono ?_); rintro e6 w6 ⟨a6, c6, rfl, ho6, hb6⟩; have hv6 : Below w.heap.size w w6 := (by first | exact hbr.trans (hb6.mono hbr.size) | exact (hbr.drew).trans (hb6.mono hbr.size) | exact hv5.trans (hb6.mono hv5.size)); have HO6 := own_mono ho6 (by first | exact hbr.size | exact hv5.size))))
      all_goals (
        have HP5 := Lib.hid HO5
        have HP6 := Lib.hid HO6
        have HV := Lib.hid (And.intro hv5 hv6)
        have hap : ∀ g, (Value.slice a5 best c5).ownBlock = some g → (Value.slice a6 (i - best) c6).ownBlock ≠ some g := by first | exact (apart_of ho5 ho6 (Nat.le_refl _)).1 | exact (apart_of ho6 ho5 (Nat.le_refl _)).2 | exact (apart_of ho5 ho6 (by simp)).1 | exact (apart_of ho6 ho5 (by simp)).2
        clear HO5 HO6 hv5 hv6 ho5 ho6 HA HD hbr
        go_wp2_with fail
        go_ret2
        exact ⟨best, a5, c5, a6, c6, rfl, HOk.out, (by first | exact HP5.out | exact own_below HP5.out hb6), (by first | exact HP6.out | exact own_below HP6.out hb5), (by first | exact HV.out.1 | exact HV.out.2), hap⟩)
end Go.Proofs.YtmdidmllaldbaaaGreat
