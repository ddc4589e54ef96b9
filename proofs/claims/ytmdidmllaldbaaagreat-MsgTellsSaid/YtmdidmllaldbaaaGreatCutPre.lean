/- The walk of strings.CutPrefix. -/
import Derived.Test.YtmdidmllaldbaaaGreatChecked
import Derived.Test.YtmdidmllaldbaaaGreatBase
namespace Go.Proofs.YtmdidmllaldbaaaGreat
open Go.RowKit
set_option linter.unusedVariables false
def isPre (p s : ByteArray) : Prop := s.data.toList.take p.size = p.data.toList
instance (p s : ByteArray) : Decidable (isPre p s) := inferInstanceAs (Decidable (_ = _))
theorem isPre_size {p s : ByteArray} (h : isPre p s) : p.size ≤ s.size := by
  have := congrArg List.length h
  rw [List.length_take] at this
  have e1 : s.data.toList.length = s.size := rfl
  have e2 : p.data.toList.length = p.size := rfl
  omega
theorem hasPre_yes (s p : ByteArray) (w : World) (hs : s.size ≤ 9223372036854775807) (h : isPre p s) :
    Calls Tryz.prog 245 #[.string s, .string p] w fun e w' => e = .returned (.bool true) ∧ w = w' := by
  have hz := isPre_size h
  have he : s.extract 0 p.size = p := by
    apply bytes_ext
    rw [Lib.extract_data]
    exact h
  have hd : decide (p.size ≤ s.size) = true := by simpa using hz
  clear h
  go_enter Tryz.func245, Tryz.ntmps245
  go_wp2
  go_ret
  exact ⟨rfl, rfl⟩
theorem hasPre_no (s p : ByteArray) (w : World) (hs : s.size ≤ 9223372036854775807) (hp : p.size ≤ 9223372036854775807) (h : ¬ isPre p s) :
    Calls Tryz.prog 245 #[.string s, .string p] w fun e w' => e = .returned (.bool false) ∧ w = w' := by
  by_cases hz : p.size ≤ s.size
  · have he : ((s.extract 0 p.size).toList == p.toList) = false := by
      rw [beq_eq_false_iff_ne]
      intro e
      apply h
      rw [ByteArray.toList_eq, ByteArray.toList_eq, Lib.extract_data] at e
      exact e
    have hd : decide (p.size ≤ s.size) = true := by simpa using hz
    clear h
    go_enter Tryz.func245, Tryz.ntmps245
    go_wp2
    go_ret
    exact ⟨rfl, rfl⟩
  · clear h
    have hz2 : s.size < p.size := by omega
    go_enter Tryz.func245, Tryz.ntmps245
    go_wp2
    go_ret
    exact ⟨rfl, rfl⟩
theorem cut0_yes (s p : ByteArray) (w : World) (hs : s.size ≤ 9223372036854775807) (h : isPre p s) :
    Calls Tryz.prog 235 #[.string s, .string p] w fun e w' => e = .returned (.tuple #[.string (s.extract p.size s.size), .bool true]) ∧ w = w' := by
  have HC := Lib.hid (hasPre_yes s p w hs h)
  have hz := isPre_size h
  clear h
  go_enter Tryz.func235, Tryz.ntmps235
  go_wp2_with (go_at_call 245; refine (HC.out).mono ?_; rintro e w' ⟨rfl, rfl⟩)
  go_ret2
  exact ⟨rfl, rfl⟩
theorem cut0_no (s p : ByteArray) (w : World) (hs : s.size ≤ 9223372036854775807) (hp : p.size ≤ 9223372036854775807) (h : ¬ isPre p s) :
    Calls Tryz.prog 235 #[.string s, .string p] w fun e w' => e = .returned (.tuple #[.string s, .bool false]) ∧ w = w' := by
  have HC := Lib.hid (hasPre_no s p w hs hp h)
  clear h
  go_enter Tryz.func235, Tryz.ntmps235
  go_wp2_with (go_at_call 245; refine (HC.out).mono ?_; rintro e w' ⟨rfl, rfl⟩)
  go_ret2
  exact ⟨rfl, rfl⟩
theorem cut_yes (s p : ByteArray) (w : World) (hs : s.size ≤ 9223372036854775807) (h : isPre p s) :
    Calls Tryz.prog 192 #[.string s, .string p] w fun e w' => e = .returned (.tuple #[.string (s.extract p.size s.size), .bool true]) ∧ w = w' := by
  have HC := Lib.hid (cut0_yes s p w hs h)
  clear h
  go_enter Tryz.func192, Tryz.ntmps192
  go_wp2_with (go_at_call 235; refine (HC.out).mono ?_; rintro e w' ⟨rfl, rfl⟩)
  go_ret2
  exact ⟨rfl, rfl⟩
theorem cut_no (s p : ByteArray) (w : World) (hs : s.size ≤ 9223372036854775807) (hp : p.size ≤ 9223372036854775807) (h : ¬ isPre p s) :
    Calls Tryz.prog 192 #[.string s, .string p] w fun e w' => e = .returned (.tuple #[.string s, .bool false]) ∧ w = w' := by
  have HC := Lib.hid (cut0_no s p w hs hp h)
  clear h
  go_enter Tryz.func192, Tryz.ntmps192
  go_wp2_with (go_at_call 235; refine (HC.out).mono ?_; rintro e w' ⟨rfl, rfl⟩)
  go_ret2
  exact ⟨rfl, rfl⟩
end Go.Proofs.YtmdidmllaldbaaaGreat
