/- The walk of rlog.follow. -/
import Derived.Test.YticlkfdcocdmaaaChecked
import Derived.Test.YticlkfdcocdmaaaEntB
import Derived.Deep.QuietTactic
import Derived.BigQuiet
namespace Go.Proofs.Yticlkfdcocdmaaa
open Go.RowKit
set_option linter.unusedVariables false
/-- Do entries follow each other behind a place? -/
def folB (i t : Int) : List Ent → Bool
  | [] => true
  | e :: r => if e.ix ≠ wrap64 (i + 1) ∨ e.tm < t then false else folB e.ix e.tm r
set_option maxHeartbeats 1000000 in
theorem follow_any (i t : Int) (ao : Option Addr) (n c : Nat) (l : List Ent) (w : World) (hl : Ents w w.heap.size ao n l) (hn : n ≤ 9223372036854775807) :
    Calls Try.prog 29 #[.int .i64 i, .int .i64 t, .slice ao n c] w fun e w' => e = .returned (.bool (folB i t l)) ∧ Below w.heap.size w w' := by
  obtain ⟨B, hB⟩ : ∃ B, B = w.heap.size := ⟨_, rfl⟩
  rw [← hB] at hl ⊢
  have hBle : B ≤ w.heap.size := Nat.le_of_eq hB
  have HL := Lib.hid hl
  clear hl hB
  go_enter Try.func29, Try.ntmps29
  go_wp2
  go_loopw [0, 1, 11] (fun x y z wr => ∃ (k : Nat) (i' t' : Int), k ≤ n ∧ x = .int .i64 i' ∧ y = .int .i64 t' ∧ z = .int .i64 k ∧ Hid (folB i' t' (l.drop k) = folB i t l) ∧ Below B w wr) (fun _ _ z _ => n - (intOf z).toNat)
  case atStart => exact ⟨0, i, t, Nat.zero_le _, rfl, rfl, rfl, rfl, Below.refl _ _⟩
  case round =>
    obtain ⟨k, i', t', hk, rfl, rfl, rfl, hf, hb⟩ := hrel
    have HB := Lib.hid hb
    have hBr : B ≤ wr.heap.size := Nat.le_trans hBle hb.size
    clear hb
    by_cases hlt : k < n
    · obtain ⟨b, o, e, rfl, hbB, hek, h1, h2, h3, h4⟩ := (HL.out.below HB.out).get hlt
      have HE := Lib.hid hek
      clear hek
      have hdrop : l.drop k = e :: l.drop (k + 1) := by
        have hk' : k < l.length := (List.getElem?_eq_some_iff.1 HE.out).1
        rw [List.drop_eq_getElem_cons hk']
        congr 1
        exact (List.getElem?_eq_some_iff.1 HE.out).2
      have HD := Lib.hid hdrop
      clear hdrop
      by_cases c1 : e.ix = wrap64 (i' + 1)
      · have c1b : (e.ix != wrap64 (i' + 1)) = false := by simp [c1]
        by_cases c2 : e.tm < t'
        · have hfin : folB i t l = false := by rw [← hf.out, HD.out, folB, if_pos (.inr c2)]
          have HF := Lib.hid hfin
          clear hfin c1
          go_wp2_with fail
          go_ret
          exact ⟨by rw [HF.out]; rfl, HB.out.alloc hBr _⟩
        · have hst : folB e.ix e.tm (l.drop (k + 1)) = folB i t l := by rw [← hf.out, HD.out, folB, if_neg (by rintro (h | h); exact h c1; exact c2 h)]
          have HF := Lib.hid hst
          clear hst c1
          go_wp2_with fail
          go_quiet (fail)
          go_wp2_with fail
          go_roundw
          case rel => exact ⟨k + 1, e.ix, e.tm, by omega, rfl, rfl, by go_num, HF.out, below_drewN (HB.out.alloc hBr _) _⟩
          case measure => simp [intOf]; omega
      · have c1b : (e.ix != wrap64 (i' + 1)) = true := by simp [c1]
        have hfin : folB i t l = false := by rw [← hf.out, HD.out, folB, if_pos (.inl c1)]
        have HF := Lib.hid hfin
        clear hfin c1
        go_wp2_with fail
        go_ret
        exact ⟨by rw [HF.out]; rfl, HB.out.alloc hBr _⟩
    · have hfin : folB i t l = true := by
        rw [← hf.out, List.drop_eq_nil_of_le (by rw [HL.out.1]; omega), folB]
      have HF := Lib.hid hfin
      clear hfin
      go_wp2_with fail
      go_ret
      exact ⟨by rw [HF.out]; rfl, HB.out⟩
end Go.Proofs.Yticlkfdcocdmaaa
