/- The walks of arboretumbook.SameEntries and SameInts. -/
import Derived.Test.YtmdidmllaldbaaaGreatEntM
import Derived.Laws.StructEq
import Derived.Deep.QuietTactic
import Derived.BigQuiet
namespace Go.Proofs.YtmdidmllaldbaaaGreat
open Go.RowKit
set_option linter.unusedVariables false
theorem sameE_len {w : World} {ao bo : Option Addr} {n m c d : Nat} (h : n ≠ m) :
    Calls Tryz.prog 25 #[.slice ao n c, .slice bo m d] w fun e w' => e = .returned (.bool false) ∧ w = w' := by
  have hd : ((n : Int) != (m : Int)) = true := by simp; omega
  go_enter Tryz.func25, Tryz.ntmps25
  go_wp2_with fail
  go_ret
  exact ⟨rfl, rfl⟩
set_option maxHeartbeats 1000000 in
theorem sameE_yes {w : World} {B : Nat} {ao bo : Option Addr} {n c d : Nat} {l : List Ent} (ha : Ents w B ao n l) (hb : Ents w B bo n l) (hn : n ≤ 9223372036854775807) :
    Calls Tryz.prog 25 #[.slice ao n c, .slice bo n d] w fun e w' => e = .returned (.bool true) ∧ Below w.heap.size w w' := by
  have HA := Lib.hid ha
  have HB := Lib.hid hb
  clear ha hb
  go_enter Tryz.func25, Tryz.ntmps25
  go_wp2_with fail
  go_loopw [5] (fun i wr => ∃ k : Nat, k ≤ n ∧ i = .int .i64 k ∧ ∃ q, wr = w.drewN q) (fun i _ => n - (intOf i).toNat)
  case atStart => exact ⟨0, Nat.zero_le _, rfl, 0, rfl⟩
  case round =>
    obtain ⟨k, hk, rfl, q, rfl⟩ := hrel
    by_cases hlt : k < n
    · obtain ⟨g, o, e, rfl, hgB, hek, q1, q2, q3, q4⟩ := HA.out.get hlt
      obtain ⟨g', o', e', rfl, hgB', hek', r1, r2, r3, r4⟩ := HB.out.get hlt
      rw [hek] at hek'
      injection hek' with hek'
      subst hek'
      have hx1 : (0 : Int) ≤ k := by omega
      have hx2 : (k : Int) < n := by omega
      clear hek
      go_wp2_with fail
      go_quiet (fail)
      go_wp2_with fail
      go_roundw
      case rel => exact ⟨k + 1, by omega, by go_num, _, rfl⟩
      case measure => simp [intOf]; omega
    · go_wp2_with fail
      go_ret
      exact ⟨rfl, below_drewN (Below.refl _ _) _⟩
theorem sameI_len {w : World} {ao bo : Option Addr} {n m c d : Nat} (h : n ≠ m) :
    Calls Tryz.prog 29 #[.slice ao n c, .slice bo m d] w fun e w' => e = .returned (.bool false) ∧ w = w' := by
  have hd : ((n : Int) != (m : Int)) = true := by simp; omega
  go_enter Tryz.func29, Tryz.ntmps29
  go_wp2_with fail
  go_ret
  exact ⟨rfl, rfl⟩
set_option maxHeartbeats 1000000 in
theorem sameI_yes {w : World} {ao bo : Option Addr} {n c d : Nat} {l : List Int} (ha : IntsOf w ao n l) (hb : IntsOf w bo n l) (hn : n ≤ 9223372036854775807) :
    Calls Tryz.prog 29 #[.slice ao n c, .slice bo n d] w fun e w' => e = .returned (.bool true) ∧ Below w.heap.size w w' := by
  have HA := Lib.hid ha
  have HB := Lib.hid hb
  clear ha hb
  go_enter Tryz.func29, Tryz.ntmps29
  go_wp2_with fail
  go_loopw [5] (fun i wr => ∃ k : Nat, k ≤ n ∧ i = .int .i64 k ∧ ∃ q, wr = w.drewN q) (fun i _ => n - (intOf i).toNat)
  case atStart => exact ⟨0, Nat.zero_le _, rfl, 0, rfl⟩
  case round =>
    obtain ⟨k, hk, rfl, q, rfl⟩ := hrel
    by_cases hlt : k < n
    · obtain ⟨g, o, e, rfl, hgB, hek, q1⟩ := HA.out.get hlt
      obtain ⟨g', o', e', rfl, hgB', hek', r1⟩ := HB.out.get hlt
      rw [hek] at hek'
      injection hek' with hek'
      subst hek'
      have hx1 : (0 : Int) ≤ k := by omega
      have hx2 : (k : Int) < n := by omega
      clear hek
      go_wp2_with fail
      go_quiet (fail)
      go_wp2_with fail
      go_roundw
      case rel => exact ⟨k + 1, by omega, by go_num, _, rfl⟩
      case measure => simp [intOf]; omega
    · go_wp2_with fail
      go_ret
      exact ⟨rfl, below_drewN (Below.refl _ _) _⟩
end Go.Proofs.YtmdidmllaldbaaaGreat
