/- The walk of arboretumbook's name: a mark's text. -/
import Derived.Test.YtmdidmllaldbaaaGreatBook
import Derived.Test.YtmdidmllaldbaaaGreatChecked
import Derived.BigQuiet
namespace Go.Proofs.YtmdidmllaldbaaaGreat
open Go.RowKit
set_option linter.unusedVariables false
def nameL (i k : Nat) : List UInt8 := [109, UInt8.ofNat (65 + i % 26), UInt8.ofNat (65 + i / 26 % 26), UInt8.ofNat (48 + k % 10), UInt8.ofNat (48 + k / 10 % 10), UInt8.ofNat (48 + k / 100 % 10)]
def nameS (i k : Nat) : ByteArray := ⟨(nameL i k).toArray⟩
set_option maxRecDepth 20000 in
set_option maxHeartbeats 1000000 in
theorem name_any (i k : Nat) (w : World) (hi : i ≤ 1000) (hk : k ≤ 1000000) :
    Calls Tryz.prog 244 #[.int .i64 i, .int .i64 k] w fun e w' => e = .returned (.string (nameS i k)) ∧ Below w.heap.size w w' := by
  obtain ⟨c1, a1, b1⟩ : ∃ c : Nat, (65 : Int) + (i : Int) % 26 = c ∧ Hid (c = 65 + i % 26) := ⟨65 + i % 26, by omega, Lib.hid rfl⟩
  obtain ⟨c2, a2, b2⟩ : ∃ c : Nat, (65 : Int) + (i : Int) / 26 % 26 = c ∧ Hid (c = 65 + i / 26 % 26) := ⟨65 + i / 26 % 26, by omega, Lib.hid rfl⟩
  obtain ⟨c3, a3, b3⟩ : ∃ c : Nat, (48 : Int) + (k : Int) % 10 = c ∧ Hid (c = 48 + k % 10) := ⟨48 + k % 10, by omega, Lib.hid rfl⟩
  obtain ⟨c4, a4, b4⟩ : ∃ c : Nat, (48 : Int) + (k : Int) / 10 % 10 = c ∧ Hid (c = 48 + k / 10 % 10) := ⟨48 + k / 10 % 10, by omega, Lib.hid rfl⟩
  obtain ⟨c5, a5, b5⟩ : ∃ c : Nat, (48 : Int) + (k : Int) / 100 % 10 = c ∧ Hid (c = 48 + k / 100 % 10) := ⟨48 + k / 100 % 10, by omega, Lib.hid rfl⟩
  have HC : Hid (∀ (W : World) (g : Nat), g = W.heap.size → (convert 160 9 (.slice (some ⟨g, 0, none⟩) 6 6)).run Tryz.prog (W.alloc (.cells #[.int .u8 109, .int .u8 c1, .int .u8 c2, .int .u8 c3, .int .u8 c4, .int .u8 c5] 5)) = .ok (.string (nameS i k)) (W.alloc (.cells #[.int .u8 109, .int .u8 c1, .int .u8 c2, .int .u8 c3, .int .u8 c4, .int .u8 c5] 5))) := Lib.hid (by
    intro W g hg
    subst hg
    refine run_string_at (l := nameL i k) _ _ 5 Tryz.underlying160 Tryz.underlying5 Tryz.underlying9 rfl (fun j hj => ?_)
    rw [World.cell?_alloc_new]
    have h1 : (UInt8.ofNat (65 + i % 26)).toNat = c1 := by rw [b1.out]; simp; omega
    have h2 : (UInt8.ofNat (65 + i / 26 % 26)).toNat = c2 := by rw [b2.out]; simp; omega
    have h3 : (UInt8.ofNat (48 + k % 10)).toNat = c3 := by rw [b3.out]; simp; omega
    have h4 : (UInt8.ofNat (48 + k / 10 % 10)).toNat = c4 := by rw [b4.out]; simp; omega
    have h5 : (UInt8.ofNat (48 + k / 100 % 10)).toNat = c5 := by rw [b5.out]; simp; omega
    unfold nameL Lib.byteCells
    simp only [List.map_cons, List.map_nil, h1, h2, h3, h4, h5]
    rcases (show j = 0 ∨ j = 1 ∨ j = 2 ∨ j = 3 ∨ j = 4 ∨ j = 5 by omega) with rfl | rfl | rfl | rfl | rfl | rfl <;> rfl)
  have z1 : c1 < 256 := by have := b1.out; omega
  have z2 : c2 < 256 := by have := b2.out; omega
  have z3 : c3 < 256 := by have := b3.out; omega
  have z4 : c4 < 256 := by have := b4.out; omega
  have z5 : c5 < 256 := by have := b5.out; omega
  have hcv := HC.out w w.heap.size rfl
  go_enter Tryz.func244, Tryz.ntmps244
  go_wp2_with fail
  go_ret
  exact ⟨rfl, (Below.refl _ _).alloc (Nat.le_refl _) _⟩
end Go.Proofs.YtmdidmllaldbaaaGreat
