/- The walk of leaf.Split. -/
import Derived.Test.YtmdidmllaldbaaaGreatOwnI
import Derived.Test.YtmdidmllaldbaaaGreatPutI
import Derived.Deep.DeepCutAuto
namespace Go.Proofs.YtmdidmllaldbaaaGreat
open Go.RowKit
set_option linter.unusedVariables false
/-- The greater part's bytes, if items are parted at a place. -/
def partI (l : List Itm) (i : Nat) : Nat := max (layI (l.take i)).length (layI (l.drop i)).length
/-- The best place so far. -/
def BestI (l : List Itm) (i best : Nat) : Prop := (i = 1 ∧ best = 0) ∨ (1 ≤ best ∧ best < i ∧ (∀ j, 1 ≤ j → j < i → partI l best ≤ partI l j) ∧ ∀ j, 1 ≤ j → j < best → partI l best < partI l j)
theorem BestI.stay {l : List Itm} {i best : Nat} (h : BestI l i best) (hi : 1 ≤ i) (h0 : best ≠ 0) (hb : partI l best ≤ partI l i) : BestI l (i + 1) best := by
  rcases h with ⟨_, h⟩ | ⟨h1, h2, h3, h4⟩
  · exact absurd h h0
  · refine .inr ⟨h1, by omega, fun j a b => ?_, h4⟩
    by_cases hj : j < i
    · exact h3 j a hj
    · obtain rfl : j = i := by omega
      exact hb
theorem BestI.take {l : List Itm} {i best : Nat} (h : BestI l i best) (hi : 1 ≤ i) (hb : best = 0 ∨ partI l i < partI l best) : BestI l (i + 1) i := by
  have hs : ∀ j, 1 ≤ j → j < i → partI l i < partI l j := by
    intro j a hj
    rcases h with ⟨h, _⟩ | ⟨h1, h2, h3, h4⟩
    · omega
    · have := h3 j a hj
      rcases hb with hb | hb
      · omega
      · omega
  refine .inr ⟨hi, by omega, fun j a b => ?_, hs⟩
  by_cases hj : j < i
  · exact Nat.le_of_lt (hs j a hj)
  · obtain rfl : j = i := by omega
    exact Nat.le_refl _
def SplitOkI (l : List Itm) (k : Nat) : Prop := 1 ≤ k ∧ k < l.length ∧ (∀ j, 1 ≤ j → j < l.length → partI l k ≤ partI l j) ∧ ∀ j, 1 ≤ j → j < k → partI l k < partI l j
/-- What Split answers of two items and more. -/
def SplitResI (l : List Itm) (n : Nat) (w : World) (e : Ending) (w' : World) : Prop :=
  ∃ (k : Nat) (ao : Option Addr) (ca : Nat) (bo : Option Addr) (cb : Nat), e = .returned (.tuple #[.slice ao k ca, .slice bo (n - k) cb]) ∧ SplitOkI l k ∧
    w'.ownsRow w.heap.size 133 4 (.slice ao k ca) k (itmCells (l.take k)) ∧ w'.ownsRow w.heap.size 133 4 (.slice bo (n - k) cb) (n - k) (itmCells (l.drop k)) ∧ Below w.heap.size w w'
theorem ItmsOk.takeI {w : World} {b o n : Nat} {l : List Itm} (h : ItmsOk w (some ⟨b, o, none⟩) n l) {i : Nat} (hi : i ≤ n) : ItmsOk w (some ⟨b, o, none⟩) i (l.take i) :=
  ⟨h.itms.take hi, fun e he => h.ok e (List.mem_of_mem_take he), by have := h.few; omega, by
    have h1 := h.sum
    have e : (l.map Itm.len).sum = ((l.take i).map Itm.len).sum + ((l.drop i).map Itm.len).sum := by
      rw [← List.sum_append_nat, ← List.map_append, List.take_append_drop]
    omega⟩
theorem ItmsOk.dropI {w : World} {b o n : Nat} {l : List Itm} (h : ItmsOk w (some ⟨b, o, none⟩) n l) {i : Nat} (hi : i ≤ n) : ItmsOk w (some ⟨b, o + i * 4, none⟩) (n - i) (l.drop i) :=
  ⟨h.itms.drop hi, fun e he => h.ok e (List.mem_of_mem_drop he), by have := h.few; omega, by
    have h1 := h.sum
    have e : (l.map Itm.len).sum = ((l.take i).map Itm.len).sum + ((l.drop i).map Itm.len).sum := by
      rw [← List.sum_append_nat, ← List.map_append, List.take_append_drop]
    omega⟩
set_option maxRecDepth 100000 in
set_option maxHeartbeats 8000000 in
theorem splitI_any {w : World} {b o n c : Nat} {l : List Itm} (h : ItmsOk w (some ⟨b, o, none⟩) n l) (hnc : n ≤ c) (hc : c ≤ 9223372036854775807) (h2 : 2 ≤ n) :
    Calls Tryz.prog 109 #[.slice (some ⟨b, o, none⟩) n c] w (SplitResI l n w) := by
  have HSa : Hid (∀ i, i ≤ n → ∀ W, Below w.heap.size w W → Calls Tryz.prog 99 #[.slice (some ⟨b, o, none⟩) i c] W fun e w' => e = .returned (.int .i64 (layI (l.take i)).length) ∧ Below W.heap.size W w') := Lib.hid (fun i hi W hW => sizeI_any ((h.below hW).takeI hi))
  have HSb : Hid (∀ i c2, i ≤ n → ∀ W, Below w.heap.size w W → Calls Tryz.prog 99 #[.slice (some ⟨b, o + i * 4, none⟩) (n - i) c2] W fun e w' => e = .returned (.int .i64 (layI (l.drop i)).length) ∧ Below W.heap.size W w') := Lib.hid (fun i c2 hi W hW => sizeI_any ((h.below hW).dropI hi))
  have HCa : Hid (∀ i, i ≤ n → ∀ W, Below w.heap.size w W → Calls Tryz.prog 208 #[.slice (some ⟨b, o, none⟩) i c] W (OwnsItms W.heap.size i (l.take i) W)) := Lib.hid (fun i hi W hW => cloneI_any _ _ _ _ _ ((h.below hW).takeI hi).itms (by have := h.few; omega) (fun h => by cases h))
  have HCb : Hid (∀ i c2, i ≤ n → ∀ W, Below w.heap.size w W → Calls Tryz.prog 208 #[.slice (some ⟨b, o + i * 4, none⟩) (n - i) c2] W (OwnsItms W.heap.size (n - i) (l.drop i) W)) := Lib.hid (fun i c2 hi W hW => cloneI_any _ _ _ _ _ ((h.below hW).dropI hi).itms (by have := h.few; omega) (fun h => by cases h))
  have HLn := Lib.hid h.len
  have hn2 : n ≤ 2000000 := h.few
  have HBy : Hid (∀ i, (layI (l.take i)).length ≤ 17600000000000 ∧ (layI (l.drop i)).length ≤ 17600000000000) := Lib.hid (fun i => by
    have h1 := h.bytes
    have e : layI l = layI (l.take i) ++ layI (l.drop i) := by rw [← layI_append, List.take_append_drop]
    rw [e, List.length_append] at h1
    omega)
  clear h
  go_enter Tryz.func109, Tryz.ntmps109
  go_wp2_with fail
  go_loopw [4, 5, 6] (fun x y z wr => ∃ (best i size : Nat), x = .int .i64 best ∧ y = .int .i64 size ∧ z = .int .i64 i ∧ 1 ≤ i ∧ i ≤ n ∧ best ≤ n ∧ Hid (BestI l i best) ∧ Hid (best ≠ 0 → size = partI l best) ∧ size ≤ 17600000000000 ∧ Hid (Below w.heap.size w wr)) (fun _ _ z _ => n - (intOf z).toNat)
  case atStart => exact ⟨0, 1, 0, rfl, rfl, rfl, Nat.le_refl _, by omega, by omega, Lib.hid (.inl ⟨rfl, rfl⟩), Lib.hid (fun h => absurd rfl h), by omega, Lib.hid (Below.refl _ _)⟩
  case round =>
    obtain ⟨best, i, size, rfl, rfl, rfl, hi1, hin, hbn, HBs, HSz, hsz, HB⟩ := hrel
    by_cases hlt : i < n
    · have x1 : (0 : Int) ≤ i := by omega
      have x2 : (i : Int) ≤ c := by omega
      have x3 : (i : Int) ≤ n := by omega
      have x4 : ¬ i = c := by omega
      have x5 : (n : Int) ≤ c := by omega
      have hby := HBy.out i
      have HA := Lib.hid (HSa.out i (by omega))
      have HD := Lib.hid (HSb.out i (c - i) (by omega))
      obtain ⟨La, hLa⟩ : ∃ L, L = (layI (l.take i)).length := ⟨_, rfl⟩
      obtain ⟨Lb, hLb⟩ : ∃ L, L = (layI (l.drop i)).length := ⟨_, rfl⟩
      rw [← hLa] at HA hby
      rw [← hLb] at HD hby
      have HPt : Hid (partI l i = max La Lb) := Lib.hid (by unfold partI; rw [hLa, hLb])
      clear hLa hLb
      obtain ⟨hba, hbb⟩ := hby
      have hbr := HB.out
      go_wp2_with fail
      go_cut [7] from 13 to 36 (fun s wx => ∃ M : Nat, s = .int .i64 M ∧ Hid (M = partI l i) ∧ M ≤ 17600000000000 ∧ Hid (Below w.heap.size w wx))
      case first =>
        go_region_with (first
          | (go_at_call 99; ((with_reducible refine (HA.out _ (by (first | exact hbr | exact hbr.drew | exact hv5 | exact hv6))).mono ?_); rintro e5 w5 ⟨rfl, hb5⟩; have hv5 : Below w.heap.size w w5 := (by first | exact hbr.trans (hb5.mono hbr.size) | exact (hbr.drew).trans (hb5.mono hbr.size) | exact hv6.trans (hb5.mono hv6.size))))
          | (go_at_call 99; ((with_reducible refine (HD.out _ (by (first | exact hbr | exact hbr.drew | exact hv5 | exact hv6))).mono ?_); rintro e6 w6 ⟨rfl, hb6⟩; have hv6 : Below w.heap.size w w6 := (by first | exact hbr.trans (hb6.mono hbr.size) | exact (hbr.drew).trans (hb6.mono hbr.size) | exact hv5.trans (hb6.mono hv5.size)))))
        all_goals (
          have hz : Below w.heap.size w w5 ∧ Below w.heap.size w w6 := ⟨hv5, hv6⟩
          go_wp2_with fail
          all_goals (
            go_meet
            exact ⟨_, rfl, Lib.hid (by rw [HPt.out]; omega), by omega, Lib.hid (by first | exact hz.1 | exact hz.2)⟩))
      case rest =>
        obtain ⟨M, rfl, HM, hM, HBw⟩ := hcut
        clear HA HD hba hbb hbr HB
        by_cases hb0 : best = 0
        · have d0 : ((best : Int) == 0) = true := by rw [hb0]; rfl
          have HN := Lib.hid (HBs.out.take hi1 (.inl hb0))
          clear hb0
          go_wp2_with fail
          go_roundw
          case rel => exact ⟨i, i + 1, M, rfl, rfl, by go_num, by omega, by omega, by omega, HN, Lib.hid (fun _ => HM.out), hM, HBw⟩
          case measure => simp [intOf]; omega
        · have d0 : ((best : Int) == 0) = false := by simpa using hb0
          by_cases hMs : M < size
          · have d1 : decide (M < size) = true := by simpa using hMs
            have HN := Lib.hid (HBs.out.take hi1 (.inr (by rw [← HM.out, ← HSz.out hb0]; exact hMs)))
            clear hb0
            go_wp2_with fail
            go_roundw
            case rel => exact ⟨i, i + 1, M, rfl, rfl, by go_num, by omega, by omega, by omega, HN, Lib.hid (fun _ => HM.out), hM, HBw⟩
            case measure => simp [intOf]; omega
          · have d1 : decide (M < size) = false := by simpa using hMs
            have HN := Lib.hid (HBs.out.stay hi1 hb0 (by rw [← HM.out, ← HSz.out hb0]; omega))
            clear hb0
            go_wp2_with fail
            go_roundw
            case rel => exact ⟨best, i + 1, size, rfl, rfl, by go_num, by omega, by omega, by omega, HN, HSz, hsz, HBw⟩
            case measure => simp [intOf]; omega
    · obtain rfl : i = n := by omega
      have hok : SplitOkI l best ∧ best ≠ 0 ∧ best < i := by
        rcases HBs.out with ⟨h1, _⟩ | ⟨h1, h2', h3, h4⟩
        · omega
        · exact ⟨⟨h1, by rw [HLn.out]; exact h2', ⟨fun j a b' => h3 j a (by rw [HLn.out] at b'; exact b'), h4⟩⟩, by omega, h2'⟩
      obtain ⟨hok1, hok2, hok3⟩ := hok
      have HOk := Lib.hid hok1
      have x1 : (0 : Int) ≤ best := by omega
      have x2 : (best : Int) ≤ c := by omega
      have x3 : (best : Int) ≤ i := by omega
      have x4 : ¬ best = c := by omega
      have x5 : (i : Int) ≤ c := by omega
      have HA := Lib.hid (HCa.out best (by omega))
      have HD := Lib.hid (HCb.out best (c - best) (by omega))
      have hbr := HB.out
      clear hok1 HSz HBs HCa HCb HSa HSb HB
      go_wp2_with fail
      go_region_with (first
        | (go_at_call 208; ((with_reducible refine (HA.out _ (by (first | exact hbr | exact hbr.drew | exact hv5 | exact hv6))).mono ?_); rintro e5 w5 ⟨a5, c5, rfl, ho5, hb5⟩; have hv5 : Below w.heap.size w w5 := (by first | exact hbr.trans (hb5.mono hbr.size) | exact (hbr.drew).trans (hb5.mono hbr.size) | exact hv6.trans (hb5.mono hv6.size)); have HO5 := own_mono ho5 (by first | exact hbr.size | exact hv6.size)))
        | (go_at_call 208; ((with_reducible refine (HD.out _ (by (first | exact hbr | exact hbr.drew | exact hv5 | exact hv6))).mono ?_); rintro e6 w6 ⟨a6, c6, rfl, ho6, hb6⟩; have hv6 : Below w.heap.size w w6 := (by first | exact hbr.trans (hb6.mono hbr.size) | exact (hbr.drew).trans (hb6.mono hbr.size) | exact hv5.trans (hb6.mono hv5.size)); have HO6 := own_mono ho6 (by first | exact hbr.size | exact hv5.size))))
      all_goals (
        have HP5 := Lib.hid HO5
        have HP6 := Lib.hid HO6
        have HV := Lib.hid (And.intro hv5 hv6)
        clear HO5 HO6 hv5 hv6 ho5 ho6 HA HD hbr
        go_wp2_with fail
        go_ret2
        exact ⟨best, a5, c5, a6, c6, rfl, HOk.out, (by first | exact HP5.out | exact own_below HP5.out hb6), (by first | exact HP6.out | exact own_below HP6.out hb5), by first | exact HV.out.1 | exact HV.out.2⟩)
end Go.Proofs.YtmdidmllaldbaaaGreat
