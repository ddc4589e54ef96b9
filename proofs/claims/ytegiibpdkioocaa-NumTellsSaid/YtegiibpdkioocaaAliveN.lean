/- The walk of arboretumlaw1.alive: it answers true, and turns nothing that was there. -/
import Derived.Test.YtegiibpdkioocaaReader2
import Derived.Test.YtegiibpdkioocaaVar
import Derived.Test.YtegiibpdkioocaaDigits
import Derived.Test.YtegiibpdkioocaaFix
import Derived.Test.YtegiibpdkioocaaCrc
namespace Go.Proofs.Ytegiibpdkioocaa
open Go.RowKit
theorem Rdr.below {w w' : World} {b B : Nat} {st : RSt} (h : Rdr w b st) (hb : Below B w w') (hB : b < B) : Rdr w' b st := by
  obtain ⟨s, h1, h2, h3⟩ := h
  exact ⟨s, h1, h2, (hb.block b hB).trans h3⟩
theorem Rdr.alloc {w : World} {b : Nat} {st : RSt} (h : Rdr w b st) (o : Obj) : Rdr (w.alloc o) b st := by
  have hlt := h.lt
  obtain ⟨s, h1, h2, h3⟩ := h
  exact ⟨s, h1, h2, (Below.heap_alloc w o b hlt).trans h3⟩
theorem al_fix (W : World) : Calls Try.prog 16 #[.int .i64 258, .int .i64 2] W fun e w' => e = .returned (.tuple #[.string ⟨#[2, 1]⟩, .int .i64 0]) ∧ Below W.heap.size W w' :=
  fix_good 258 2 W (by omega) (by omega) (by decide)
theorem al_unfix (W : World) : Calls Try.prog 18 #[.string ⟨#[120, 2, 1]⟩, .int .i64 1, .int .i64 2] W fun e w' => e = .returned (.tuple #[.int .i64 258, .int .i64 0]) ∧ W = w' :=
  unfix_good ⟨#[120, 2, 1]⟩ 1 2 W (by decide) (by omega) (by omega) (by decide)
theorem al_var (W : World) : Calls Try.prog 25 #[.slice (some ⟨W.heap.size, 0, none⟩) 3 3] (W.alloc (.cells #[.int .i64 0, .int .i64 (-1), .int .i64 64] 3)) fun e w' =>
    e = .returned (.string ⟨#[0, 1, 128, 1]⟩) ∧ Below (W.heap.size + 1) (W.alloc (.cells #[.int .i64 0, .int .i64 (-1), .int .i64 64] 3)) w' := by
  have h := nvar_any (some ⟨W.heap.size, 0, none⟩) 3 3 [0, -1, 64] (W.alloc (.cells #[.int .i64 0, .int .i64 (-1), .int .i64 64] 3)) rfl (by omega)
    (fun k hk => ⟨⟨W.heap.size, 0, none⟩, rfl, by simp, by
      rw [add_lit, World.cell?_alloc_new]
      rcases (show k = 0 ∨ k = 1 ∨ k = 2 by omega) with rfl | rfl | rfl <;> rfl⟩)
    (by decide)
  refine h.mono ?_
  rintro e w' ⟨he, hb⟩
  refine ⟨by rw [he]; congr 3, ?_⟩
  simpa using hb
theorem al_crc (W : World) : Calls Try.prog 28 #[.slice (some ⟨W.heap.size, 0, none⟩) 2 2] (W.alloc (.cells #[.string ⟨#[49, 50, 51, 52]⟩, .string ⟨#[53, 54, 55, 56, 57]⟩] 9)) fun e w' =>
    e = .returned (.int .i64 3421780262) ∧ W.alloc (.cells #[.string ⟨#[49, 50, 51, 52]⟩, .string ⟨#[53, 54, 55, 56, 57]⟩] 9) = w' := by
  have h := crc_any (some ⟨W.heap.size, 0, none⟩) 2 2 [⟨#[49, 50, 51, 52]⟩, ⟨#[53, 54, 55, 56, 57]⟩] (W.alloc (.cells #[.string ⟨#[49, 50, 51, 52]⟩, .string ⟨#[53, 54, 55, 56, 57]⟩] 9)) rfl (by omega)
    (fun k hk => ⟨⟨W.heap.size, 0, none⟩, rfl, by
      rw [add_lit, World.cell?_alloc_new]
      rcases (show k = 0 ∨ k = 1 by omega) with rfl | rfl <;> rfl⟩)
    (by decide)
  refine h.mono ?_
  rintro e w' ⟨he, hb⟩
  refine ⟨?_, hb⟩
  rw [he]
  exact ret_int (by decide +kernel)
theorem al_digits (W : World) : Calls Try.prog 30 #[.int .i64 (-7)] W fun e w' => e = .returned (.string ⟨#[45, 55]⟩) ∧ Below W.heap.size W w' :=
  (digits_any (-7) W (by omega) (by omega)).mono fun _ _ ⟨he, hb⟩ => ⟨by rw [he]; exact ret_str (by decide), hb⟩
set_option maxHeartbeats 1000000 in
theorem alive_any (w : World) :
    Calls Try.prog 15 #[] w fun e w' => e = .returned (.bool true) ∧ Below w.heap.size w w' := by
  go_enter Try.func15, Try.ntmps15
  go_wp2_with fail
  refine (al_fix _).mono ?_
  rintro e w1 ⟨rfl, hb1⟩
  go_wp2_with fail
  refine (al_unfix _).mono ?_
  rintro e w2 ⟨rfl, rfl⟩
  go_wp2_with fail
  refine (newReader_any ⟨#[128, 1]⟩ _ (by decide)).mono ?_
  rintro e w2 ⟨b, rfl, hbb, hr2, hb2⟩
  have hrd : Rdr w2 b ([128, 1], 0) := ⟨⟨#[128, 1]⟩, rfl, by decide, hr2⟩
  clear hr2
  have hbw2 : Below w.heap.size w w2 := hb1.trans (hb2.mono hb1.size)
  have hbw : b < w2.heap.size := hrd.lt
  have hbb0 : w.heap.size ≤ b := Nat.le_trans hb1.size hbb
  clear hb1 hb2 hbb
  go_wp2_with fail
  refine (al_var _).mono ?_
  rintro e w3 ⟨rfl, hb3⟩
  have hrd3 : Rdr w3 b ([128, 1], 0) := (hrd.alloc _).below hb3 (by omega)
  have hbw3 : Below w.heap.size w w3 := (hbw2.alloc hbw2.size _).trans (hb3.mono (by have := hbw2.size; omega))
  clear hb3 hrd hbw2 hbw
  go_wp2_with fail
  refine (al_crc _).mono ?_
  rintro e w4 ⟨rfl, rfl⟩
  have hrd4 := hrd3.alloc (.cells #[.string ⟨#[49, 50, 51, 52]⟩, .string ⟨#[53, 54, 55, 56, 57]⟩] 9)
  have hbw4 := hbw3.alloc hbw3.size (.cells #[.string ⟨#[49, 50, 51, 52]⟩, .string ⟨#[53, 54, 55, 56, 57]⟩] 9)
  have hb0 : w.heap.size ≤ b := hbb0
  clear hrd3 hbw3
  go_wp2_with fail
  refine (rvar_any hrd4).mono ?_
  rintro e w5 ⟨rfl, hrd5, hg5⟩
  rw [show rVar ([128, 1], 0) = (64, ([], 0)) from by decide] at hrd5 ⊢
  have hbw5 : Below w.heap.size w w5 := hbw4.grown hg5 hbw4.size (fun k hk => by injection hk with hk; omega)
  clear hrd4 hbw4 hg5
  go_wp2_with fail
  refine (end_any hrd5).mono ?_
  rintro e w6 ⟨rfl, rfl⟩
  rw [show rEnd ([], 0) = 0 from by decide]
  go_wp2_with fail
  refine (al_digits _).mono ?_
  rintro e w6 ⟨rfl, hb6⟩
  have hbw6 : Below w.heap.size w w6 := hbw5.trans (hb6.mono hbw5.size)
  clear hbw5 hb6
  go_wp2_with fail
  go_ret
  exact ⟨rfl, hbw6⟩
end Go.Proofs.Ytegiibpdkioocaa
