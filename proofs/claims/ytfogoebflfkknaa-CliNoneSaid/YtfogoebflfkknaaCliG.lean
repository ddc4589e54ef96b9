/- The walks of a client's Ask. -/
import Derived.Test.YtfogoebflfkknaaCliF
namespace Go.Proofs.Ytfogoebflfkknaa
open Go.Conc Go.RowKit
set_option linter.unusedVariables false
variable {w0 W : World} {B b gn ch cap : Nat} {v : CliV} {q : List (Int × RepV)}
theorem asks_busy (h : Cli w0 W B b gn ch cap v q) (hb : (v.asked || !q.isEmpty) = true) (k : Int) (key val old : ByteArray) :
    Calls Try.prog 37 #[.pointer (some ⟨b, 0, none⟩), .int .i64 k, .string key, .string val, .string old] W fun e w' => e = .returned (.tuple #[.int .i64 0, .int .i64 22]) ∧ W = w' := by
  have HN := Lib.hid (none_yes h)
  have HB := Lib.hid (busy_any h)
  rw [hb] at HB
  clear h hb
  go_enter Try.func37, Try.ntmps37
  go_wp2_with fail
  refine HN.out.mono ?_
  rintro e w1 ⟨rfl, rfl⟩
  go_wp2_with fail
  refine HB.out.mono ?_
  rintro e w1 ⟨rfl, rfl⟩
  go_wp2_with fail
  go_ret2
  exact ⟨rfl, rfl⟩
def askedV (v : CliV) (k : Int) (key val old : ByteArray) : CliV := { v with number := v.number + 1, asked := true, op := ⟨k, 0, 0, key, val, old⟩ }
set_option maxRecDepth 20000 in
set_option maxHeartbeats 2000000 in
theorem asks_get (h : Cli w0 W B b gn ch cap v []) (ha : v.asked = false) (hnum : v.number ≤ 1000000) (key val old : ByteArray) (hs1 : key.size ≤ 281474976710656) (hs2 : val.size ≤ 281474976710656) (hs3 : old.size ≤ 281474976710656) (hv : validV ⟨4, 0, 0, key, val, old⟩ = 0) :
    Calls Try.prog 37 #[.pointer (some ⟨b, 0, none⟩), .int .i64 4, .string key, .string val, .string old] W fun e w' => e = .returned (.tuple #[.int .i64 (v.number + 1 : Nat), .int .i64 0]) ∧ Cli w0 w' B b gn ch cap (askedV v 4 key val old) [] ∧ FarC W w' b ch := by
  have HH := Lib.hid h
  have HN := Lib.hid (none_yes h)
  have HB := Lib.hid (busy_any h)
  rw [ha] at HB
  have HC1 := Lib.hid (fun W => clone_any key W hs1)
  have HC2 := Lib.hid (fun W => clone_any val W hs2)
  have HC3 := Lib.hid (fun W => clone_any old W hs3)
  have HV := Lib.hid (fun W => valid_any ⟨4, 0, 0, key, val, old⟩ W)
  rw [hv] at HV
  unfold OpV.agg at HV
  clear h ha hs1 hs2 hs3 hv
  go_enter Try.func37, Try.ntmps37
  go_wp2_with fail
  refine HN.out.mono ?_
  rintro e w1 ⟨rfl, rfl⟩
  go_wp2_with fail
  refine HB.out.mono ?_
  rintro e w1 ⟨rfl, rfl⟩
  clear HN HB
  go_wp2_with fail
  refine (HC1.out _).mono ?_
  rintro e w1 ⟨rfl, hb1⟩
  go_wp2_with fail
  refine (HC2.out _).mono ?_
  rintro e w2 ⟨rfl, hb2⟩
  go_wp2_with fail
  refine (HC3.out _).mono ?_
  rintro e w3 ⟨rfl, hb3⟩
  have hb0 : Below W.heap.size W w3 := (hb1.trans (hb2.mono hb1.size)).trans (hb3.mono (Nat.le_trans hb1.size hb2.size))
  have HB0 := Lib.hid hb0
  clear hb1 hb2 hb3 HC1 HC2 HC3 hb0
  go_wp2_with fail
  refine (HV.out _).mono ?_
  rintro e w4 ⟨rfl, hb4⟩
  have hA : Below W.heap.size W w4 := ((HB0.out.alloc HB0.out.size _).alloc (by have := HB0.out.size; simp; omega) _).trans (hb4.mono (by have := HB0.out.size; simp; omega))
  have hO : OpBlk w4 w3.heap.size ⟨4, 0, 0, key, val, old⟩ := (hb4.block _ (by simp; omega)).trans (old_at _ _ _ _ (heap_alloc_new w3 _))
  have h4 := HH.out.step hA
  have hF := FarC.below (b := b) (ch := ch) hA
  have hlt : b < w3.heap.size := Nat.lt_of_lt_of_le HH.out.blt HB0.out.size
  have hlt4 : w3.heap.size < w4.heap.size := blk_lt hO
  obtain ⟨⟨x0, x1, x2⟩, ⟨x3, x4, x5⟩, xf⟩ := hO.facts
  have xf0 := xf 0
  generalize w3.heap.size = g at hlt hlt4 x0 x1 x2 x3 x4 x5 xf0 ⊢
  clear hb4 hA hO HB0 HH HV xf
  have HH := Lib.hid h4
  have HF := Lib.hid hF
  have c5 : w4.cell? ⟨b, 5, none⟩ = some (.int .i64 v.number) := h4.cell 5
  have c6 : w4.cell? ⟨b, 6, none⟩ = some (.bool v.asked) := h4.cell 6
  have c7 : w4.cell? ⟨b, 7, none⟩ = some (.int .i64 v.op.kd) := h4.cell 7
  have c8 : w4.cell? ⟨b, 8, none⟩ = some (.int .i64 v.op.ss) := h4.cell 8
  have c9 : w4.cell? ⟨b, 9, none⟩ = some (.int .i64 v.op.sq) := h4.cell 9
  have c10 : w4.cell? ⟨b, 10, none⟩ = some (.string v.op.key) := h4.cell 10
  have c11 : w4.cell? ⟨b, 11, none⟩ = some (.string v.op.val) := h4.cell 11
  have c12 : w4.cell? ⟨b, 12, none⟩ = some (.string v.op.old) := h4.cell 12
  have fr := h4.fr
  clear h4 hF
  dsimp only at x0 x1 x2 x3 x4 x5
  go_wp2_with fail
  go_region
  all_goals
    go_wp2_with fail
    go_ret2
    refine ⟨by rw [Int.natCast_add]; rfl, ?_⟩
    refine HH.out.upd3 HF.out (askedV v 4 key val old) (by ((repeat (with_reducible (first | exact HH.out.blk | apply blk_set | refine at_far ?_ (by simp; omega) | apply old_at | apply at_drew))))) (by ((repeat (with_reducible (first | exact grown_refl _ _ | refine g_set ?_ | refine g_new ?_ (by simp) | refine g_alloc ?_ | refine g_drew ?_))))) (by ((repeat (with_reducible (first | exact HH.out.below | refine Below.setCell ?_ ?_ _ | refine Below.drew ?_ | refine Below.alloc ?_ ?_ _))); all_goals (have hq1 := HH.out.hb; have hq2 := HH.out.size; simp <;> omega))) (by simp [cliCells, askedV]) rfl HH.out.curlt
set_option maxRecDepth 20000 in
set_option maxHeartbeats 2000000 in
theorem asks_put (h : Cli w0 W B b gn ch cap v []) (ha : v.asked = false) (hnum : v.number ≤ 1000000) (key val old : ByteArray) (hs1 : key.size ≤ 281474976710656) (hs2 : val.size ≤ 281474976710656) (hs3 : old.size ≤ 281474976710656) (hv : validV ⟨1, 1, 1, key, val, old⟩ = 0) :
    Calls Try.prog 37 #[.pointer (some ⟨b, 0, none⟩), .int .i64 1, .string key, .string val, .string old] W fun e w' => e = .returned (.tuple #[.int .i64 (v.number + 1 : Nat), .int .i64 0]) ∧ Cli w0 w' B b gn ch cap (askedV v 1 key val old) [] ∧ FarC W w' b ch := by
  have HH := Lib.hid h
  have HN := Lib.hid (none_yes h)
  have HB := Lib.hid (busy_any h)
  rw [ha] at HB
  have HC1 := Lib.hid (fun W => clone_any key W hs1)
  have HC2 := Lib.hid (fun W => clone_any val W hs2)
  have HC3 := Lib.hid (fun W => clone_any old W hs3)
  have HV := Lib.hid (fun W => valid_any ⟨1, 1, 1, key, val, old⟩ W)
  rw [hv] at HV
  unfold OpV.agg at HV
  clear h ha hs1 hs2 hs3 hv
  go_enter Try.func37, Try.ntmps37
  go_wp2_with fail
  refine HN.out.mono ?_
  rintro e w1 ⟨rfl, rfl⟩
  go_wp2_with fail
  refine HB.out.mono ?_
  rintro e w1 ⟨rfl, rfl⟩
  clear HN HB
  go_wp2_with fail
  refine (HC1.out _).mono ?_
  rintro e w1 ⟨rfl, hb1⟩
  go_wp2_with fail
  refine (HC2.out _).mono ?_
  rintro e w2 ⟨rfl, hb2⟩
  go_wp2_with fail
  refine (HC3.out _).mono ?_
  rintro e w3 ⟨rfl, hb3⟩
  have hb0 : Below W.heap.size W w3 := (hb1.trans (hb2.mono hb1.size)).trans (hb3.mono (Nat.le_trans hb1.size hb2.size))
  have HB0 := Lib.hid hb0
  clear hb1 hb2 hb3 HC1 HC2 HC3 hb0
  go_wp2_with fail
  refine (HV.out _).mono ?_
  rintro e w4 ⟨rfl, hb4⟩
  have hA : Below W.heap.size W w4 := ((HB0.out.alloc HB0.out.size _).alloc (by have := HB0.out.size; simp; omega) _).trans (hb4.mono (by have := HB0.out.size; simp; omega))
  have hO : OpBlk w4 w3.heap.size ⟨1, 0, 0, key, val, old⟩ := (hb4.block _ (by simp; omega)).trans (old_at _ _ _ _ (heap_alloc_new w3 _))
  have h4 := HH.out.step hA
  have hF := FarC.below (b := b) (ch := ch) hA
  have hlt : b < w3.heap.size := Nat.lt_of_lt_of_le HH.out.blt HB0.out.size
  have hlt4 : w3.heap.size < w4.heap.size := blk_lt hO
  obtain ⟨⟨x0, x1, x2⟩, ⟨x3, x4, x5⟩, xf⟩ := hO.facts
  have xf0 := xf 0
  generalize w3.heap.size = g at hlt hlt4 x0 x1 x2 x3 x4 x5 xf0 ⊢
  clear hb4 hA hO HB0 HH HV xf
  have HH := Lib.hid h4
  have HF := Lib.hid hF
  have c5 : w4.cell? ⟨b, 5, none⟩ = some (.int .i64 v.number) := h4.cell 5
  have c6 : w4.cell? ⟨b, 6, none⟩ = some (.bool v.asked) := h4.cell 6
  have c7 : w4.cell? ⟨b, 7, none⟩ = some (.int .i64 v.op.kd) := h4.cell 7
  have c8 : w4.cell? ⟨b, 8, none⟩ = some (.int .i64 v.op.ss) := h4.cell 8
  have c9 : w4.cell? ⟨b, 9, none⟩ = some (.int .i64 v.op.sq) := h4.cell 9
  have c10 : w4.cell? ⟨b, 10, none⟩ = some (.string v.op.key) := h4.cell 10
  have c11 : w4.cell? ⟨b, 11, none⟩ = some (.string v.op.val) := h4.cell 11
  have c12 : w4.cell? ⟨b, 12, none⟩ = some (.string v.op.old) := h4.cell 12
  have fr := h4.fr
  clear h4 hF
  dsimp only at x0 x1 x2 x3 x4 x5
  go_wp2_with fail
  go_region
  all_goals
    go_wp2_with fail
    go_ret2
    refine ⟨by rw [Int.natCast_add]; rfl, ?_⟩
    refine HH.out.upd3 HF.out (askedV v 1 key val old) (by ((repeat (with_reducible (first | exact HH.out.blk | apply blk_set | refine at_far ?_ (by simp; omega) | apply old_at | apply at_drew))))) (by ((repeat (with_reducible (first | exact grown_refl _ _ | refine g_set ?_ | refine g_new ?_ (by simp) | refine g_alloc ?_ | refine g_drew ?_))))) (by ((repeat (with_reducible (first | exact HH.out.below | refine Below.setCell ?_ ?_ _ | refine Below.drew ?_ | refine Below.alloc ?_ ?_ _))); all_goals (have hq1 := HH.out.hb; have hq2 := HH.out.size; simp <;> omega))) (by simp [cliCells, askedV]) rfl HH.out.curlt
end Go.Proofs.Ytfogoebflfkknaa
