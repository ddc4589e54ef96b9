/- The walks of a client's Ask. -/
import Derived.Test.YtfogoebflfkknaaCliB
import Derived.Deep.QuietTactic
import Derived.BigQuiet
import Derived.Test.YtfogoebflfkknaaCliNil
namespace Go.Proofs.Ytfogoebflfkknaa
/-! ### The walks of a client's Ask. -/
section
open Go.Conc Go.RowKit
set_option linter.unusedVariables false
variable {w0 W : World} {B b gn ch cap : Nat} {v : CliV} {q : List (Int × RepV)}
theorem asks_busy (h : Cli w0 W B b gn ch cap v q) (hb : (v.asked || !q.isEmpty) = true) (k : Int) (key val old : ByteArray) :
    Calls Try.prog 37 #[.pointer (some ⟨b, 0, none⟩), .int .i64 k, .string key, .string val, .string old] W fun e w' => e = .returned (.tuple #[.int .i64 0, .int .i64 22]) ∧ W = w' := by
  have HN := Lib.hid (none_yes h)
  have HB := Lib.hid (busy_any h)
  rw [hb] at HB
  clear h hb
  go_enter Try.func37, Try.ntmps37
  go_wp2_with fail
  refine HN.out.mono ?_
  rintro e w1 ⟨rfl, rfl⟩
  go_wp2_with fail
  refine HB.out.mono ?_
  rintro e w1 ⟨rfl, rfl⟩
  go_wp2_with fail
  go_ret2
  exact ⟨rfl, rfl⟩
def askedV (v : CliV) (k : Int) (key val old : ByteArray) : CliV := { v with number := v.number + 1, asked := true, op := ⟨k, 0, 0, key, val, old⟩ }
set_option maxRecDepth 20000 in
set_option maxHeartbeats 2000000 in
theorem asks_get (h : Cli w0 W B b gn ch cap v []) (ha : v.asked = false) (hnum : v.number ≤ 1000000) (key val old : ByteArray) (hs1 : key.size ≤ 281474976710656) (hs2 : val.size ≤ 281474976710656) (hs3 : old.size ≤ 281474976710656) (hv : validV ⟨4, 0, 0, key, val, old⟩ = 0) :
    Calls Try.prog 37 #[.pointer (some ⟨b, 0, none⟩), .int .i64 4, .string key, .string val, .string old] W fun e w' => e = .returned (.tuple #[.int .i64 (v.number + 1 : Nat), .int .i64 0]) ∧ Cli w0 w' B b gn ch cap (askedV v 4 key val old) [] ∧ FarC W w' b ch := by
  have HH := Lib.hid h
  have HN := Lib.hid (none_yes h)
  have HB := Lib.hid (busy_any h)
  rw [ha] at HB
  have HC1 := Lib.hid (fun W => clone_any key W hs1)
  have HC2 := Lib.hid (fun W => clone_any val W hs2)
  have HC3 := Lib.hid (fun W => clone_any old W hs3)
  have HV := Lib.hid (fun W => valid_any ⟨4, 0, 0, key, val, old⟩ W)
  rw [hv] at HV
  unfold OpV.agg at HV
  clear h ha hs1 hs2 hs3 hv
  go_enter Try.func37, Try.ntmps37
  go_wp2_with fail
  refine HN.out.mono ?_
  rintro e w1 ⟨rfl, rfl⟩
  go_wp2_with fail
  refine HB.out.mono ?_
  rintro e w1 ⟨rfl, rfl⟩
  clear HN HB
  go_wp2_with fail
  refine (HC1.out _).mono ?_
  rintro e w1 ⟨rfl, hb1⟩
  go_wp2_with fail
  refine (HC2.out _).mono ?_
  rintro e w2 ⟨rfl, hb2⟩
  go_wp2_with fail
  refine (HC3.out _).mono ?_
  rintro e w3 ⟨rfl, hb3⟩
  have hb0 : Below W.heap.size W w3 := (hb1.trans (hb2.mono hb1.size)).trans (hb3.mono (Nat.le_trans hb1.size hb2.size))
  have HB0 := Lib.hid hb0
  clear hb1 hb2 hb3 HC1 HC2 HC3 hb0
  go_wp2_with fail
  refine (HV.out _).mono ?_
  rintro e w4 ⟨rfl, hb4⟩
  have hA : Below W.heap.size W w4 := ((HB0.out.alloc HB0.out.size _).alloc (by have := HB0.out.size; simp; omega) _).trans (hb4.mono (by have := HB0.out.size; simp; omega))
  have hO : OpBlk w4 w3.heap.size ⟨4, 0, 0, key, val, old⟩ := (hb4.block _ (by simp; omega)).trans (old_at _ _ _ _ (heap_alloc_new w3 _))
  have h4 := HH.out.step hA
  have hF := FarC.below (b := b) (ch := ch) hA
  have hlt : b < w3.heap.size := Nat.lt_of_lt_of_le HH.out.blt HB0.out.size
  have hlt4 : w3.heap.size < w4.heap.size := blk_lt hO
  obtain ⟨⟨x0, x1, x2⟩, ⟨x3, x4, x5⟩, xf⟩ := hO.facts
  have xf0 := xf 0
  generalize w3.heap.size = g at hlt hlt4 x0 x1 x2 x3 x4 x5 xf0 ⊢
  clear hb4 hA hO HB0 HH HV xf
  have HH := Lib.hid h4
  have HF := Lib.hid hF
  have c5 : w4.cell? ⟨b, 5, none⟩ = some (.int .i64 v.number) := h4.cell 5
  have c6 : w4.cell? ⟨b, 6, none⟩ = some (.bool v.asked) := h4.cell 6
  have c7 : w4.cell? ⟨b, 7, none⟩ = some (.int .i64 v.op.kd) := h4.cell 7
  have c8 : w4.cell? ⟨b, 8, none⟩ = some (.int .i64 v.op.ss) := h4.cell 8
  have c9 : w4.cell? ⟨b, 9, none⟩ = some (.int .i64 v.op.sq) := h4.cell 9
  have c10 : w4.cell? ⟨b, 10, none⟩ = some (.string v.op.key) := h4.cell 10
  have c11 : w4.cell? ⟨b, 11, none⟩ = some (.string v.op.val) := h4.cell 11
  have c12 : w4.cell? ⟨b, 12, none⟩ = some (.string v.op.old) := h4.cell 12
  have fr := h4.fr
  clear h4 hF
  dsimp only at x0 x1 x2 x3 x4 x5
  go_wp2_with fail
  go_region
  all_goals
    go_wp2_with fail
    go_ret2
    refine ⟨by rw [Int.natCast_add]; rfl, ?_⟩
    refine HH.out.upd3 HF.out (askedV v 4 key val old) (by ((repeat (with_reducible (first | exact HH.out.blk | apply blk_set | refine at_far ?_ (by simp; omega) | apply old_at | apply at_drew))))) (by ((repeat (with_reducible (first | exact grown_refl _ _ | refine g_set ?_ | refine g_new ?_ (by simp) | refine g_alloc ?_ | refine g_drew ?_))))) (by ((repeat (with_reducible (first | exact HH.out.below | refine Below.setCell ?_ ?_ _ | refine Below.drew ?_ | refine Below.alloc ?_ ?_ _))); all_goals (have hq1 := HH.out.hb; have hq2 := HH.out.size; simp <;> omega))) (by simp [cliCells, askedV]) rfl HH.out.curlt
set_option maxRecDepth 20000 in
set_option maxHeartbeats 2000000 in
theorem asks_put (h : Cli w0 W B b gn ch cap v []) (ha : v.asked = false) (hnum : v.number ≤ 1000000) (key val old : ByteArray) (hs1 : key.size ≤ 281474976710656) (hs2 : val.size ≤ 281474976710656) (hs3 : old.size ≤ 281474976710656) (hv : validV ⟨1, 1, 1, key, val, old⟩ = 0) :
    Calls Try.prog 37 #[.pointer (some ⟨b, 0, none⟩), .int .i64 1, .string key, .string val, .string old] W fun e w' => e = .returned (.tuple #[.int .i64 (v.number + 1 : Nat), .int .i64 0]) ∧ Cli w0 w' B b gn ch cap (askedV v 1 key val old) [] ∧ FarC W w' b ch := by
  have HH := Lib.hid h
  have HN := Lib.hid (none_yes h)
  have HB := Lib.hid (busy_any h)
  rw [ha] at HB
  have HC1 := Lib.hid (fun W => clone_any key W hs1)
  have HC2 := Lib.hid (fun W => clone_any val W hs2)
  have HC3 := Lib.hid (fun W => clone_any old W hs3)
  have HV := Lib.hid (fun W => valid_any ⟨1, 1, 1, key, val, old⟩ W)
  rw [hv] at HV
  unfold OpV.agg at HV
  clear h ha hs1 hs2 hs3 hv
  go_enter Try.func37, Try.ntmps37
  go_wp2_with fail
  refine HN.out.mono ?_
  rintro e w1 ⟨rfl, rfl⟩
  go_wp2_with fail
  refine HB.out.mono ?_
  rintro e w1 ⟨rfl, rfl⟩
  clear HN HB
  go_wp2_with fail
  refine (HC1.out _).mono ?_
  rintro e w1 ⟨rfl, hb1⟩
  go_wp2_with fail
  refine (HC2.out _).mono ?_
  rintro e w2 ⟨rfl, hb2⟩
  go_wp2_with fail
  refine (HC3.out _).mono ?_
  rintro e w3 ⟨rfl, hb3⟩
  have hb0 : Below W.heap.size W w3 := (hb1.trans (hb2.mono hb1.size)).trans (hb3.mono (Nat.le_trans hb1.size hb2.size))
  have HB0 := Lib.hid hb0
  clear hb1 hb2 hb3 HC1 HC2 HC3 hb0
  go_wp2_with fail
  refine (HV.out _).mono ?_
  rintro e w4 ⟨rfl, hb4⟩
  have hA : Below W.heap.size W w4 := ((HB0.out.alloc HB0.out.size _).alloc (by have := HB0.out.size; simp; omega) _).trans (hb4.mono (by have := HB0.out.size; simp; omega))
  have hO : OpBlk w4 w3.heap.size ⟨1, 0, 0, key, val, old⟩ := (hb4.block _ (by simp; omega)).trans (old_at _ _ _ _ (heap_alloc_new w3 _))
  have h4 := HH.out.step hA
  have hF := FarC.below (b := b) (ch := ch) hA
  have hlt : b < w3.heap.size := Nat.lt_of_lt_of_le HH.out.blt HB0.out.size
  have hlt4 : w3.heap.size < w4.heap.size := blk_lt hO
  obtain ⟨⟨x0, x1, x2⟩, ⟨x3, x4, x5⟩, xf⟩ := hO.facts
  have xf0 := xf 0
  generalize w3.heap.size = g at hlt hlt4 x0 x1 x2 x3 x4 x5 xf0 ⊢
  clear hb4 hA hO HB0 HH HV xf
  have HH := Lib.hid h4
  have HF := Lib.hid hF
  have c5 : w4.cell? ⟨b, 5, none⟩ = some (.int .i64 v.number) := h4.cell 5
  have c6 : w4.cell? ⟨b, 6, none⟩ = some (.bool v.asked) := h4.cell 6
  have c7 : w4.cell? ⟨b, 7, none⟩ = some (.int .i64 v.op.kd) := h4.cell 7
  have c8 : w4.cell? ⟨b, 8, none⟩ = some (.int .i64 v.op.ss) := h4.cell 8
  have c9 : w4.cell? ⟨b, 9, none⟩ = some (.int .i64 v.op.sq) := h4.cell 9
  have c10 : w4.cell? ⟨b, 10, none⟩ = some (.string v.op.key) := h4.cell 10
  have c11 : w4.cell? ⟨b, 11, none⟩ = some (.string v.op.val) := h4.cell 11
  have c12 : w4.cell? ⟨b, 12, none⟩ = some (.string v.op.old) := h4.cell 12
  have fr := h4.fr
  clear h4 hF
  dsimp only at x0 x1 x2 x3 x4 x5
  go_wp2_with fail
  go_region
  all_goals
    go_wp2_with fail
    go_ret2
    refine ⟨by rw [Int.natCast_add]; rfl, ?_⟩
    refine HH.out.upd3 HF.out (askedV v 1 key val old) (by ((repeat (with_reducible (first | exact HH.out.blk | apply blk_set | refine at_far ?_ (by simp; omega) | apply old_at | apply at_drew))))) (by ((repeat (with_reducible (first | exact grown_refl _ _ | refine g_set ?_ | refine g_new ?_ (by simp) | refine g_alloc ?_ | refine g_drew ?_))))) (by ((repeat (with_reducible (first | exact HH.out.below | refine Below.setCell ?_ ?_ _ | refine Below.drew ?_ | refine Below.alloc ?_ ?_ _))); all_goals (have hq1 := HH.out.hb; have hq2 := HH.out.size; simp <;> omega))) (by simp [cliCells, askedV]) rfl HH.out.curlt
end
/-! ### The walk of a client's answered (printed by wip/gen_clih.py). -/
section
open Go.Conc Go.RowKit
set_option linter.unusedVariables false
variable {w0 W : World} {B b gn ch cap : Nat} {v : CliV} {q : List (Int × RepV)}

set_option maxRecDepth 20000 in
set_option maxHeartbeats 2000000 in
theorem ans_reg_ok (h : Cli w0 W B b gn ch cap v q) (r : RepV) (hk : v.qu.kd = 5) (he : r.err = 0) : Calls Try.prog 80 #[.pointer (some ⟨b, 0, none⟩), r.agg] W fun e w' => e = .returned (.tuple #[]) ∧ Cli w0 w' B b gn ch cap { v with opn := false, ss := r.num, sq := 0 } q ∧ FarC W w' b ch := by
  have HH := Lib.hid h
  have c3 : W.cell? ⟨b, 3, none⟩ = some (.int .i64 v.ss) := h.cell 3
  have c4 : W.cell? ⟨b, 4, none⟩ = some (.int .i64 v.sq) := h.cell 4
  have c5 : W.cell? ⟨b, 5, none⟩ = some (.int .i64 v.number) := h.cell 5
  have c6 : W.cell? ⟨b, 6, none⟩ = some (.bool v.asked) := h.cell 6
  have c14 : W.cell? ⟨b, 14, none⟩ = some (.bool v.opn) := h.cell 14
  have c15 : W.cell? ⟨b, 15, none⟩ = some (.int .i64 v.qu.kd) := h.cell 15
  have c17 : W.cell? ⟨b, 17, none⟩ = some (.int .i64 v.qu.sq) := h.cell 17
  have c23 : W.cell? ⟨b, 23, none⟩ = some (.chan (some ch)) := h.cell 23
  have fr := h.fr
  have hlt := h.blt
  have hrk : r.agg = .agg #[.int .i64 r.err, .string r.val, .int .i64 r.num] := rfl
  rw [hrk]
  have d0 : (v.qu.kd == 5) = true := by simpa using hk
  have d1 : (r.err == 0) = true := by simpa using he
  clear h hk hrk he
  go_enter Try.func80, Try.ntmps80
  go_wp2_with fail
  first | go_end0 | refine bodyPost_ret (results_none rfl _ _ _) rfl ?_
  refine ⟨rfl, ?_⟩
  refine HH.out.upd2 _ (by ((repeat (with_reducible (first | exact HH.out.blk | apply blk_set | refine at_far ?_ (by simp; omega) | apply old_at | apply at_drew | apply at_drewN))))) (by ((repeat (with_reducible (first | exact grown_refl _ _ | refine g_set ?_ | refine g_new ?_ (by simp) | refine g_alloc ?_ | refine g_drew ?_ | refine g_drewN ?_))))) (by ((repeat (with_reducible (first | exact HH.out.below | refine Below.setCell ?_ ?_ _ | refine Below.drew ?_ | refine below_drewN ?_ _ | refine Below.alloc ?_ ?_ _))); all_goals (have hq1 := HH.out.hb; have hq2 := HH.out.size; simp <;> omega))) (by simp [cliCells]) rfl HH.out.curlt

set_option maxRecDepth 20000 in
set_option maxHeartbeats 2000000 in
theorem ans_reg_no (h : Cli w0 W B b gn ch cap v q) (r : RepV) (hk : v.qu.kd = 5) (he : r.err ≠ 0) : Calls Try.prog 80 #[.pointer (some ⟨b, 0, none⟩), r.agg] W fun e w' => e = .returned (.tuple #[]) ∧ Cli w0 w' B b gn ch cap { v with opn := false } q ∧ FarC W w' b ch := by
  have HH := Lib.hid h
  have c3 : W.cell? ⟨b, 3, none⟩ = some (.int .i64 v.ss) := h.cell 3
  have c4 : W.cell? ⟨b, 4, none⟩ = some (.int .i64 v.sq) := h.cell 4
  have c5 : W.cell? ⟨b, 5, none⟩ = some (.int .i64 v.number) := h.cell 5
  have c6 : W.cell? ⟨b, 6, none⟩ = some (.bool v.asked) := h.cell 6
  have c14 : W.cell? ⟨b, 14, none⟩ = some (.bool v.opn) := h.cell 14
  have c15 : W.cell? ⟨b, 15, none⟩ = some (.int .i64 v.qu.kd) := h.cell 15
  have c17 : W.cell? ⟨b, 17, none⟩ = some (.int .i64 v.qu.sq) := h.cell 17
  have c23 : W.cell? ⟨b, 23, none⟩ = some (.chan (some ch)) := h.cell 23
  have fr := h.fr
  have hlt := h.blt
  have hrk : r.agg = .agg #[.int .i64 r.err, .string r.val, .int .i64 r.num] := rfl
  rw [hrk]
  have d0 : (v.qu.kd == 5) = true := by simpa using hk
  have d1 : (r.err == 0) = false := by simpa using he
  clear h hk hrk he
  go_enter Try.func80, Try.ntmps80
  go_wp2_with fail
  first | go_end0 | refine bodyPost_ret (results_none rfl _ _ _) rfl ?_
  refine ⟨rfl, ?_⟩
  refine HH.out.upd2 _ (by ((repeat (with_reducible (first | exact HH.out.blk | apply blk_set | refine at_far ?_ (by simp; omega) | apply old_at | apply at_drew | apply at_drewN))))) (by ((repeat (with_reducible (first | exact grown_refl _ _ | refine g_set ?_ | refine g_new ?_ (by simp) | refine g_alloc ?_ | refine g_drew ?_ | refine g_drewN ?_))))) (by ((repeat (with_reducible (first | exact HH.out.below | refine Below.setCell ?_ ?_ _ | refine Below.drew ?_ | refine below_drewN ?_ _ | refine Below.alloc ?_ ?_ _))); all_goals (have hq1 := HH.out.hb; have hq2 := HH.out.size; simp <;> omega))) (by simp [cliCells]) rfl HH.out.curlt

set_option maxRecDepth 20000 in
set_option maxHeartbeats 2000000 in
theorem ans_get (h : Cli w0 W B b gn ch cap v []) (r : RepV) (hk : v.qu.kd ≠ 5) (hk4 : v.qu.kd = 4) (he : r.err ≠ 24) : Calls Try.prog 80 #[.pointer (some ⟨b, 0, none⟩), r.agg] W fun e w' => e = .returned (.tuple #[]) ∧ Cli w0 w' B b gn ch cap { v with opn := false, asked := false } [((v.number : Int), r)] ∧ FarC W w' b ch := by
  have HH := Lib.hid h
  have c3 : W.cell? ⟨b, 3, none⟩ = some (.int .i64 v.ss) := h.cell 3
  have c4 : W.cell? ⟨b, 4, none⟩ = some (.int .i64 v.sq) := h.cell 4
  have c5 : W.cell? ⟨b, 5, none⟩ = some (.int .i64 v.number) := h.cell 5
  have c6 : W.cell? ⟨b, 6, none⟩ = some (.bool v.asked) := h.cell 6
  have c14 : W.cell? ⟨b, 14, none⟩ = some (.bool v.opn) := h.cell 14
  have c15 : W.cell? ⟨b, 15, none⟩ = some (.int .i64 v.qu.kd) := h.cell 15
  have c17 : W.cell? ⟨b, 17, none⟩ = some (.int .i64 v.qu.sq) := h.cell 17
  have c23 : W.cell? ⟨b, 23, none⟩ = some (.chan (some ch)) := h.cell 23
  have fr := h.fr
  have hlt := h.blt
  have hrk : r.agg = .agg #[.int .i64 r.err, .string r.val, .int .i64 r.num] := rfl
  rw [hrk]
  have d0 : (v.qu.kd == 5) = false := by simpa using hk
  have d1 : (v.qu.kd != 4) = false := by simpa using hk4
  have d2 : (r.err == 24) = false := by simpa using he
  have hnc := h.nebc
  clear h hk hrk hk4 he
  go_enter Try.func80, Try.ntmps80
  go_wp2_with fail
  go_quiet (fail)
  go_upto_region 12 with fail
  have h1 : Cli w0 ((((W.setCell ⟨b, 14, none⟩ (.bool false)).setCell ⟨b, 6, none⟩ (.bool false)).alloc (.cells #[.int .i64 r.err, .string r.val, .int .i64 r.num] 26)).drewN nq) B b gn ch cap { v with opn := false, asked := false } [] ∧ FarC W ((((W.setCell ⟨b, 14, none⟩ (.bool false)).setCell ⟨b, 6, none⟩ (.bool false)).alloc (.cells #[.int .i64 r.err, .string r.val, .int .i64 r.num] 26)).drewN nq) b ch :=
    HH.out.upd2 _ (by ((repeat (with_reducible (first | exact HH.out.blk | apply blk_set | refine at_far ?_ (by simp; omega) | apply old_at | apply at_drew | apply at_drewN))))) (by ((repeat (with_reducible (first | exact grown_refl _ _ | refine g_set ?_ | refine g_new ?_ (by simp) | refine g_alloc ?_ | refine g_drew ?_ | refine g_drewN ?_))))) (by ((repeat (with_reducible (first | exact HH.out.below | refine Below.setCell ?_ ?_ _ | refine Below.drew ?_ | refine below_drewN ?_ _ | refine Below.alloc ?_ ?_ _))); all_goals (have hq1 := HH.out.hb; have hq2 := HH.out.size; simp <;> omega))) (by simp [cliCells]) rfl HH.out.curlt
  generalize ((((W.setCell ⟨b, 14, none⟩ (.bool false)).setCell ⟨b, 6, none⟩ (.bool false)).alloc (.cells #[.int .i64 r.err, .string r.val, .int .i64 r.num] 26)).drewN nq) = W1 at h1 ⊢
  have HH := Lib.hid h1
  obtain ⟨s, r0, hc⟩ := h1.1.chn
  clear c3 c4 c5 c6 c14 c15 c17 c23 fr hlt hnc h1
  refine wp_region_send (c := ch) (v := resAgg ((v.number : Int), r)) (z := .agg #[.int .i64 0, .int .i64 0, .string ⟨#[]⟩, .int .i64 0]) rfl (by simp [go_sem, execOp, scase, Act.eval, resAgg]) hc (by simp) ?_
  clear hc
  go_wp2_with fail
  first | go_end0 | refine bodyPost_ret (results_none rfl _ _ _) rfl ?_
  exact ⟨rfl, HH.out.1.chan [((v.number : Int), r)] (s + 1) r0, HH.out.2.trans (FarC.chan _ _ _ _ _ _ _)⟩

set_option maxRecDepth 20000 in
set_option maxHeartbeats 2000000 in
theorem ans_get_s (h : Cli w0 W B b gn ch cap v []) (r : RepV) (hk : v.qu.kd ≠ 5) (hk4 : v.qu.kd = 4) (he : r.err = 24) : Calls Try.prog 80 #[.pointer (some ⟨b, 0, none⟩), r.agg] W fun e w' => e = .returned (.tuple #[]) ∧ Cli w0 w' B b gn ch cap { v with opn := false, asked := false, ss := 0 } [((v.number : Int), r)] ∧ FarC W w' b ch := by
  have HH := Lib.hid h
  have c3 : W.cell? ⟨b, 3, none⟩ = some (.int .i64 v.ss) := h.cell 3
  have c4 : W.cell? ⟨b, 4, none⟩ = some (.int .i64 v.sq) := h.cell 4
  have c5 : W.cell? ⟨b, 5, none⟩ = some (.int .i64 v.number) := h.cell 5
  have c6 : W.cell? ⟨b, 6, none⟩ = some (.bool v.asked) := h.cell 6
  have c14 : W.cell? ⟨b, 14, none⟩ = some (.bool v.opn) := h.cell 14
  have c15 : W.cell? ⟨b, 15, none⟩ = some (.int .i64 v.qu.kd) := h.cell 15
  have c17 : W.cell? ⟨b, 17, none⟩ = some (.int .i64 v.qu.sq) := h.cell 17
  have c23 : W.cell? ⟨b, 23, none⟩ = some (.chan (some ch)) := h.cell 23
  have fr := h.fr
  have hlt := h.blt
  have hrk : r.agg = .agg #[.int .i64 r.err, .string r.val, .int .i64 r.num] := rfl
  rw [hrk]
  have d0 : (v.qu.kd == 5) = false := by simpa using hk
  have d1 : (v.qu.kd != 4) = false := by simpa using hk4
  have d2 : (r.err == 24) = true := by simpa using he
  have hnc := h.nebc
  clear h hk hrk hk4 he
  go_enter Try.func80, Try.ntmps80
  go_wp2_with fail
  go_quiet (fail)
  go_upto_region 12 with fail
  have h1 : Cli w0 (((((W.setCell ⟨b, 14, none⟩ (.bool false)).setCell ⟨b, 3, none⟩ (.int .i64 0)).setCell ⟨b, 6, none⟩ (.bool false)).alloc (.cells #[.int .i64 r.err, .string r.val, .int .i64 r.num] 26)).drewN nq) B b gn ch cap { v with opn := false, asked := false, ss := 0 } [] ∧ FarC W (((((W.setCell ⟨b, 14, none⟩ (.bool false)).setCell ⟨b, 3, none⟩ (.int .i64 0)).setCell ⟨b, 6, none⟩ (.bool false)).alloc (.cells #[.int .i64 r.err, .string r.val, .int .i64 r.num] 26)).drewN nq) b ch :=
    HH.out.upd2 _ (by ((repeat (with_reducible (first | exact HH.out.blk | apply blk_set | refine at_far ?_ (by simp; omega) | apply old_at | apply at_drew | apply at_drewN))))) (by ((repeat (with_reducible (first | exact grown_refl _ _ | refine g_set ?_ | refine g_new ?_ (by simp) | refine g_alloc ?_ | refine g_drew ?_ | refine g_drewN ?_))))) (by ((repeat (with_reducible (first | exact HH.out.below | refine Below.setCell ?_ ?_ _ | refine Below.drew ?_ | refine below_drewN ?_ _ | refine Below.alloc ?_ ?_ _))); all_goals (have hq1 := HH.out.hb; have hq2 := HH.out.size; simp <;> omega))) (by simp [cliCells]) rfl HH.out.curlt
  generalize (((((W.setCell ⟨b, 14, none⟩ (.bool false)).setCell ⟨b, 3, none⟩ (.int .i64 0)).setCell ⟨b, 6, none⟩ (.bool false)).alloc (.cells #[.int .i64 r.err, .string r.val, .int .i64 r.num] 26)).drewN nq) = W1 at h1 ⊢
  have HH := Lib.hid h1
  obtain ⟨s, r0, hc⟩ := h1.1.chn
  clear c3 c4 c5 c6 c14 c15 c17 c23 fr hlt hnc h1
  refine wp_region_send (c := ch) (v := resAgg ((v.number : Int), r)) (z := .agg #[.int .i64 0, .int .i64 0, .string ⟨#[]⟩, .int .i64 0]) rfl (by simp [go_sem, execOp, scase, Act.eval, resAgg]) hc (by simp) ?_
  clear hc
  go_wp2_with fail
  first | go_end0 | refine bodyPost_ret (results_none rfl _ _ _) rfl ?_
  exact ⟨rfl, HH.out.1.chan [((v.number : Int), r)] (s + 1) r0, HH.out.2.trans (FarC.chan _ _ _ _ _ _ _)⟩

set_option maxRecDepth 20000 in
set_option maxHeartbeats 2000000 in
theorem ans_op (h : Cli w0 W B b gn ch cap v []) (r : RepV) (hk : v.qu.kd ≠ 5) (hk4 : v.qu.kd ≠ 4) (he : r.err ≠ 24) : Calls Try.prog 80 #[.pointer (some ⟨b, 0, none⟩), r.agg] W fun e w' => e = .returned (.tuple #[]) ∧ Cli w0 w' B b gn ch cap { v with opn := false, asked := false, sq := v.qu.sq } [((v.number : Int), r)] ∧ FarC W w' b ch := by
  have HH := Lib.hid h
  have c3 : W.cell? ⟨b, 3, none⟩ = some (.int .i64 v.ss) := h.cell 3
  have c4 : W.cell? ⟨b, 4, none⟩ = some (.int .i64 v.sq) := h.cell 4
  have c5 : W.cell? ⟨b, 5, none⟩ = some (.int .i64 v.number) := h.cell 5
  have c6 : W.cell? ⟨b, 6, none⟩ = some (.bool v.asked) := h.cell 6
  have c14 : W.cell? ⟨b, 14, none⟩ = some (.bool v.opn) := h.cell 14
  have c15 : W.cell? ⟨b, 15, none⟩ = some (.int .i64 v.qu.kd) := h.cell 15
  have c17 : W.cell? ⟨b, 17, none⟩ = some (.int .i64 v.qu.sq) := h.cell 17
  have c23 : W.cell? ⟨b, 23, none⟩ = some (.chan (some ch)) := h.cell 23
  have fr := h.fr
  have hlt := h.blt
  have hrk : r.agg = .agg #[.int .i64 r.err, .string r.val, .int .i64 r.num] := rfl
  rw [hrk]
  have d0 : (v.qu.kd == 5) = false := by simpa using hk
  have d1 : (v.qu.kd != 4) = true := by simpa using hk4
  have d2 : (r.err == 24) = false := by simpa using he
  have hnc := h.nebc
  clear h hk hrk hk4 he
  go_enter Try.func80, Try.ntmps80
  go_wp2_with fail
  go_quiet (fail)
  go_upto_region 12 with fail
  have h1 : Cli w0 (((((W.setCell ⟨b, 14, none⟩ (.bool false)).setCell ⟨b, 4, none⟩ (.int .i64 v.qu.sq)).setCell ⟨b, 6, none⟩ (.bool false)).alloc (.cells #[.int .i64 r.err, .string r.val, .int .i64 r.num] 26)).drewN nq) B b gn ch cap { v with opn := false, asked := false, sq := v.qu.sq } [] ∧ FarC W (((((W.setCell ⟨b, 14, none⟩ (.bool false)).setCell ⟨b, 4, none⟩ (.int .i64 v.qu.sq)).setCell ⟨b, 6, none⟩ (.bool false)).alloc (.cells #[.int .i64 r.err, .string r.val, .int .i64 r.num] 26)).drewN nq) b ch :=
    HH.out.upd2 _ (by ((repeat (with_reducible (first | exact HH.out.blk | apply blk_set | refine at_far ?_ (by simp; omega) | apply old_at | apply at_drew | apply at_drewN))))) (by ((repeat (with_reducible (first | exact grown_refl _ _ | refine g_set ?_ | refine g_new ?_ (by simp) | refine g_alloc ?_ | refine g_drew ?_ | refine g_drewN ?_))))) (by ((repeat (with_reducible (first | exact HH.out.below | refine Below.setCell ?_ ?_ _ | refine Below.drew ?_ | refine below_drewN ?_ _ | refine Below.alloc ?_ ?_ _))); all_goals (have hq1 := HH.out.hb; have hq2 := HH.out.size; simp <;> omega))) (by simp [cliCells]) rfl HH.out.curlt
  generalize (((((W.setCell ⟨b, 14, none⟩ (.bool false)).setCell ⟨b, 4, none⟩ (.int .i64 v.qu.sq)).setCell ⟨b, 6, none⟩ (.bool false)).alloc (.cells #[.int .i64 r.err, .string r.val, .int .i64 r.num] 26)).drewN nq) = W1 at h1 ⊢
  have HH := Lib.hid h1
  obtain ⟨s, r0, hc⟩ := h1.1.chn
  clear c3 c4 c5 c6 c14 c15 c17 c23 fr hlt hnc h1
  refine wp_region_send (c := ch) (v := resAgg ((v.number : Int), r)) (z := .agg #[.int .i64 0, .int .i64 0, .string ⟨#[]⟩, .int .i64 0]) rfl (by simp [go_sem, execOp, scase, Act.eval, resAgg]) hc (by simp) ?_
  clear hc
  go_wp2_with fail
  first | go_end0 | refine bodyPost_ret (results_none rfl _ _ _) rfl ?_
  exact ⟨rfl, HH.out.1.chan [((v.number : Int), r)] (s + 1) r0, HH.out.2.trans (FarC.chan _ _ _ _ _ _ _)⟩

set_option maxRecDepth 20000 in
set_option maxHeartbeats 2000000 in
theorem ans_op_s (h : Cli w0 W B b gn ch cap v []) (r : RepV) (hk : v.qu.kd ≠ 5) (hk4 : v.qu.kd ≠ 4) (he : r.err = 24) : Calls Try.prog 80 #[.pointer (some ⟨b, 0, none⟩), r.agg] W fun e w' => e = .returned (.tuple #[]) ∧ Cli w0 w' B b gn ch cap { v with opn := false, asked := false, sq := v.qu.sq, ss := 0 } [((v.number : Int), r)] ∧ FarC W w' b ch := by
  have HH := Lib.hid h
  have c3 : W.cell? ⟨b, 3, none⟩ = some (.int .i64 v.ss) := h.cell 3
  have c4 : W.cell? ⟨b, 4, none⟩ = some (.int .i64 v.sq) := h.cell 4
  have c5 : W.cell? ⟨b, 5, none⟩ = some (.int .i64 v.number) := h.cell 5
  have c6 : W.cell? ⟨b, 6, none⟩ = some (.bool v.asked) := h.cell 6
  have c14 : W.cell? ⟨b, 14, none⟩ = some (.bool v.opn) := h.cell 14
  have c15 : W.cell? ⟨b, 15, none⟩ = some (.int .i64 v.qu.kd) := h.cell 15
  have c17 : W.cell? ⟨b, 17, none⟩ = some (.int .i64 v.qu.sq) := h.cell 17
  have c23 : W.cell? ⟨b, 23, none⟩ = some (.chan (some ch)) := h.cell 23
  have fr := h.fr
  have hlt := h.blt
  have hrk : r.agg = .agg #[.int .i64 r.err, .string r.val, .int .i64 r.num] := rfl
  rw [hrk]
  have d0 : (v.qu.kd == 5) = false := by simpa using hk
  have d1 : (v.qu.kd != 4) = true := by simpa using hk4
  have d2 : (r.err == 24) = true := by simpa using he
  have hnc := h.nebc
  clear h hk hrk hk4 he
  go_enter Try.func80, Try.ntmps80
  go_wp2_with fail
  go_quiet (fail)
  go_upto_region 12 with fail
  have h1 : Cli w0 ((((((W.setCell ⟨b, 14, none⟩ (.bool false)).setCell ⟨b, 4, none⟩ (.int .i64 v.qu.sq)).setCell ⟨b, 3, none⟩ (.int .i64 0)).setCell ⟨b, 6, none⟩ (.bool false)).alloc (.cells #[.int .i64 r.err, .string r.val, .int .i64 r.num] 26)).drewN nq) B b gn ch cap { v with opn := false, asked := false, sq := v.qu.sq, ss := 0 } [] ∧ FarC W ((((((W.setCell ⟨b, 14, none⟩ (.bool false)).setCell ⟨b, 4, none⟩ (.int .i64 v.qu.sq)).setCell ⟨b, 3, none⟩ (.int .i64 0)).setCell ⟨b, 6, none⟩ (.bool false)).alloc (.cells #[.int .i64 r.err, .string r.val, .int .i64 r.num] 26)).drewN nq) b ch :=
    HH.out.upd2 _ (by ((repeat (with_reducible (first | exact HH.out.blk | apply blk_set | refine at_far ?_ (by simp; omega) | apply old_at | apply at_drew | apply at_drewN))))) (by ((repeat (with_reducible (first | exact grown_refl _ _ | refine g_set ?_ | refine g_new ?_ (by simp) | refine g_alloc ?_ | refine g_drew ?_ | refine g_drewN ?_))))) (by ((repeat (with_reducible (first | exact HH.out.below | refine Below.setCell ?_ ?_ _ | refine Below.drew ?_ | refine below_drewN ?_ _ | refine Below.alloc ?_ ?_ _))); all_goals (have hq1 := HH.out.hb; have hq2 := HH.out.size; simp <;> omega))) (by simp [cliCells]) rfl HH.out.curlt
  generalize ((((((W.setCell ⟨b, 14, none⟩ (.bool false)).setCell ⟨b, 4, none⟩ (.int .i64 v.qu.sq)).setCell ⟨b, 3, none⟩ (.int .i64 0)).setCell ⟨b, 6, none⟩ (.bool false)).alloc (.cells #[.int .i64 r.err, .string r.val, .int .i64 r.num] 26)).drewN nq) = W1 at h1 ⊢
  have HH := Lib.hid h1
  obtain ⟨s, r0, hc⟩ := h1.1.chn
  clear c3 c4 c5 c6 c14 c15 c17 c23 fr hlt hnc h1
  refine wp_region_send (c := ch) (v := resAgg ((v.number : Int), r)) (z := .agg #[.int .i64 0, .int .i64 0, .string ⟨#[]⟩, .int .i64 0]) rfl (by simp [go_sem, execOp, scase, Act.eval, resAgg]) hc (by simp) ?_
  clear hc
  go_wp2_with fail
  first | go_end0 | refine bodyPost_ret (results_none rfl _ _ _) rfl ?_
  exact ⟨rfl, HH.out.1.chan [((v.number : Int), r)] (s + 1) r0, HH.out.2.trans (FarC.chan _ _ _ _ _ _ _)⟩

end
/-! ### The walks of slices.Index (of ints) and of a client's Take and Result (printed by wip/gen_clii.py). -/
section
open Go.Conc Go.RowKit
set_option linter.unusedVariables false
/-- The first place at which x stands, or -1. -/
def idxI (l : List Int) (x : Int) : Int := match l with | [] => -1 | y :: t => if x = y then 0 else if idxI t x < 0 then -1 else idxI t x + 1
theorem idxI_range (l : List Int) (x : Int) : -1 ≤ idxI l x ∧ idxI l x < l.length := by
  induction l with
  | nil => simp [idxI]
  | cons y t ih =>
    unfold idxI
    by_cases h : x = y
    · rw [if_pos h]; simp
    · rw [if_neg h]
      by_cases h2 : idxI t x < 0
      · rw [if_pos h2]; simp; omega
      · rw [if_neg h2]; simp; omega
theorem idxI_none {l : List Int} {x : Int} (h : ∀ y ∈ l, y ≠ x) : idxI l x = -1 := by
  induction l with
  | nil => rfl
  | cons y t ih =>
    unfold idxI
    rw [if_neg (fun e => h y (by simp) e.symm), ih (fun z hz => h z (by simp [hz]))]
    rfl
theorem idxI_at {l : List Int} {x : Int} (k : Nat) (h : l[k]? = some x) (hn : ∀ j y, j < k → l[j]? = some y → y ≠ x) : idxI l x = k := by
  induction l generalizing k with
  | nil => simp at h
  | cons y t ih =>
    unfold idxI
    cases k with
    | zero =>
      have : y = x := by simpa using h
      rw [if_pos this.symm]; rfl
    | succ k =>
      have h0 : y ≠ x := hn 0 y (by omega) (by simp)
      have := ih k (by simpa using h) (fun j z hj hz => hn (j + 1) z (by omega) (by simpa using hz))
      rw [if_neg (fun e => h0 e.symm), this, if_neg (by omega)]
      omega
theorem idxI_stop (l : List Int) (x : Int) : (0 ≤ idxI l x → l[(idxI l x).toNat]? = some x ∧ ∀ j y, j < (idxI l x).toNat → l[j]? = some y → y ≠ x) ∧ (idxI l x < 0 → ∀ y ∈ l, y ≠ x) := by
  induction l with
  | nil => simp [idxI]
  | cons z t ih =>
    unfold idxI
    by_cases h : x = z
    · rw [if_pos h]
      refine ⟨fun _ => ⟨by simp [h], fun j y hj _ => by simp at hj⟩, fun hh => by omega⟩
    · rw [if_neg h]
      by_cases h2 : idxI t x < 0
      · rw [if_pos h2]
        refine ⟨fun hh => by omega, fun _ y hy => ?_⟩
        rcases List.mem_cons.1 hy with rfl | hy
        · exact fun e => h e.symm
        · exact ih.2 h2 y hy
      · rw [if_neg h2]
        obtain ⟨a, b⟩ := ih.1 (by omega)
        have e : (idxI t x + 1).toNat = (idxI t x).toNat + 1 := by omega
        refine ⟨fun _ => ⟨by rw [e]; simpa using a, fun j y hj hy => ?_⟩, fun hh => by omega⟩
        rw [e] at hj
        cases j with
        | zero => have : z = y := by simpa using hy
                  exact fun e => h (by rw [← e, this])
        | succ j => exact b j y (by omega) (by simpa using hy)
/-- The index is what a walk from the front finds. -/
theorem idxI_found {l : List Int} {x : Int} (k : Nat) (h : l[k]? = some x) (hn : ∀ j y, j < k → l[j]? = some y → y ≠ x) : Ending.returned (.int .i64 (k : Int)) = .returned (.int .i64 (idxI l x)) := by rw [idxI_at k h hn]
def Seen (l : List Int) (x : Int) (k : Nat) : Prop := ∀ j y, j < k → l[j]? = some y → y ≠ x
set_option maxHeartbeats 400000 in
theorem index_any (gn : Nat) (cap : Nat) (l : List Int) (x : Int) (w : World) (hl : l.length ≤ 100) (hc : ∀ i n, l[i]? = some n → w.cell? ⟨gn, i, none⟩ = some (.int .i64 n)) :
    Calls Try.prog 78 #[.slice (some ⟨gn, 0, none⟩) l.length cap, .int .i64 x] w fun e w' => e = .returned (.int .i64 (idxI l x)) ∧ w = w' := by
  have HC := Lib.hid hc
  clear hc
  go_enter Try.func78, Try.ntmps78
  go_wp2_with fail
  go_loop [8] (fun i => ∃ k : Nat, k ≤ l.length ∧ i = .int .i64 k ∧ Seen l x k) (fun i => l.length - (intOf i).toNat)
  case atStart => exact ⟨0, Nat.zero_le _, rfl, fun j y hj => by omega⟩
  case round =>
    obtain ⟨k, hk, rfl, hs⟩ := hrel
    have HS := Lib.hid hs
    clear hs
    by_cases hlt : k < l.length
    · obtain ⟨n, hn⟩ : ∃ n, l[k]? = some n := ⟨l[k], List.getElem?_eq_getElem hlt⟩
      have c0 := HC.out k n hn
      have HN := Lib.hid hn
      clear hn
      by_cases he : x = n
      · have d1 : (x == n) = true := by simpa using he
        have HE := Lib.hid he
        clear he
        go_wp2_with fail
        go_ret
        exact ⟨idxI_found k (by rw [HN.out, HE.out]) HS.out, rfl⟩
      · have d1 : (x == n) = false := by simpa using he
        have HE := Lib.hid he
        clear he
        go_wp2_with fail
        go_round
        case rel =>
          refine ⟨k + 1, by omega, by go_num, fun j y hj hy => ?_⟩
          rcases Nat.lt_or_ge j k with h | h
          · exact HS.out j y h hy
          · have : j = k := by omega
            rw [this, HN.out] at hy
            injection hy with hy
            rw [← hy]; exact fun e => HE.out e.symm
        case measure => simp [intOf]; omega
    · go_wp2_with fail
      go_ret
      refine ⟨ret_int (idxI_none fun y hy => ?_).symm, rfl⟩
      obtain ⟨j, hj, rfl⟩ := List.getElem_of_mem hy
      exact HS.out j _ (by omega) (List.getElem?_eq_getElem hj)
variable {w0 W : World} {B b gn ch cap : Nat} {v : CliV} {q : List (Int × RepV)}
def pkAgg (fr dst : Int) (d : ByteArray) : Value := .agg #[.int .i64 fr, .int .i64 dst, .string d]

set_option maxRecDepth 20000 in
set_option maxHeartbeats 2000000 in
theorem take_shut (h : Cli w0 W B b gn ch cap v q) (ho : v.opn = false) (fr : Int) (d : ByteArray) : Calls Try.prog 39 #[.pointer (some ⟨b, 0, none⟩), .agg #[.int .i64 fr, .int .i64 v.id, .string d]] W fun e w' => e = .returned (.slice none 0 0) ∧ Cli w0 w' B b gn ch cap v q ∧ FarC W w' b ch := by
  have HH := Lib.hid h
  have hP : OnePk (W.alloc (.cells #[.int .i64 fr, .int .i64 v.id, .string d] 65)) W.heap.size fr v.id d := heap_alloc_new W _
  have hF := FarC.below (b := b) (ch := ch) ((Below.refl W.heap.size W).alloc (Nat.le_refl _) (.cells #[.int .i64 fr, .int .i64 v.id, .string d] 65))
  have hH := h.step ((Below.refl W.heap.size W).alloc (Nat.le_refl _) (.cells #[.int .i64 fr, .int .i64 v.id, .string d] 65))
  have HP := Lib.hid hP
  have HF := Lib.hid hF
  have HH := Lib.hid hH
  clear h hP hF hH
  have HO := Lib.hid ho

  clear ho
  go_enter Try.func39, Try.ntmps39
  go_wp2_with fail
  generalize hg : W.heap.size = g at HP ⊢
  generalize W.alloc (.cells #[.int .i64 fr, .int .i64 v.id, .string d] 65) = W1 at HP HF HH ⊢
  clear hg
  have hq : ∀ p : SinceW W1.heap.size W1, Cli w0 p.w B b gn ch cap v q ∧ OnePk p.w g fr v.id d := fun p => ⟨HH.out.step p.h, (p.h.block g (blk_lt HP.out)).trans HP.out⟩
  have a0 : ∀ p : SinceW W1.heap.size W1, p.w.cell? ⟨b, 0, none⟩ = some (.int .i64 v.id) := fun p => (hq p).1.cell 0
  have a14 : ∀ p : SinceW W1.heap.size W1, p.w.cell? ⟨b, 14, none⟩ = some (.bool false) := fun p => by rw [(hq p).1.cell 14]; show some (Value.bool v.opn) = _; rw [HO.out]
  have a1 : ∀ p : SinceW W1.heap.size W1, p.w.cell? ⟨g, 1, none⟩ = some (.int .i64 v.id) := fun p => blk_cell (hq p).2 1
  have HN := Lib.hid (fun p : SinceW W1.heap.size W1 => none_yes (hq p).1)
  have dd : (v.id != v.id) = false := by simp
  clear hq
  refine wp_region_since (B := W1.heap.size) (W0 := W1) (by kernel_rfl) (by kernel_rfl) (Below.refl _ _) ?_
  repeat (go_big_quiet_step ((go_at_call 73; exact since_same (HN.out _))))
  refine wpQuiet_nil ?_
  intro w5 hw'
  have hv5 : Below W1.heap.size W1 w5 := by obtain ⟨p, rfl⟩ := hw'; exact p.h
  clear hw' a0 a14 a1 HN dd
  have h5 := HH.out.step hv5
  have hP5 : OnePk w5 g fr v.id d := (hv5.block g (blk_lt HP.out)).trans HP.out
  have hF5 := HF.out.trans (FarC.below (b := b) (ch := ch) hv5)
  clear HH HP HF hv5
  have HX := Lib.hid (And.intro h5 hF5)
  clear h5 hP5 hF5
  go_wp2_with fail
  go_ret
  exact ⟨rfl, HX.out⟩

set_option maxRecDepth 20000 in
set_option maxHeartbeats 2000000 in
theorem take_bad (h : Cli w0 W B b gn ch cap v q) (ho : v.opn = true) (fr : Int) (d : ByteArray) (n l : Int) (r : RepV) (ge : Int) (ht : ∀ W, Calls Try.prog 27 #[.string d] W fun e w' => e = .returned (.tuple #[.int .i64 n, .int .i64 l, r.agg, .int .i64 ge]) ∧ Below W.heap.size W w') (hbad : ge ≠ 0 ∨ (ge = 0 ∧ n ≠ v.num)) : Calls Try.prog 39 #[.pointer (some ⟨b, 0, none⟩), .agg #[.int .i64 fr, .int .i64 v.id, .string d]] W fun e w' => e = .returned (.slice none 0 0) ∧ Cli w0 w' B b gn ch cap v q ∧ FarC W w' b ch := by
  have hrk : r.agg = .agg #[.int .i64 r.err, .string r.val, .int .i64 r.num] := rfl
  rw [hrk] at ht
  clear hrk
  have HH := Lib.hid h
  have hP : OnePk (W.alloc (.cells #[.int .i64 fr, .int .i64 v.id, .string d] 65)) W.heap.size fr v.id d := heap_alloc_new W _
  have hF := FarC.below (b := b) (ch := ch) ((Below.refl W.heap.size W).alloc (Nat.le_refl _) (.cells #[.int .i64 fr, .int .i64 v.id, .string d] 65))
  have hH := h.step ((Below.refl W.heap.size W).alloc (Nat.le_refl _) (.cells #[.int .i64 fr, .int .i64 v.id, .string d] 65))
  have HP := Lib.hid hP
  have HF := Lib.hid hF
  have HH := Lib.hid hH
  clear h hP hF hH
  have HO := Lib.hid ho

  clear ho
  go_enter Try.func39, Try.ntmps39
  go_wp2_with fail
  generalize hg : W.heap.size = g at HP ⊢
  generalize W.alloc (.cells #[.int .i64 fr, .int .i64 v.id, .string d] 65) = W1 at HP HF HH ⊢
  clear hg
  have hq : ∀ p : SinceW W1.heap.size W1, Cli w0 p.w B b gn ch cap v q ∧ OnePk p.w g fr v.id d := fun p => ⟨HH.out.step p.h, (p.h.block g (blk_lt HP.out)).trans HP.out⟩
  have a0 : ∀ p : SinceW W1.heap.size W1, p.w.cell? ⟨b, 0, none⟩ = some (.int .i64 v.id) := fun p => (hq p).1.cell 0
  have a14 : ∀ p : SinceW W1.heap.size W1, p.w.cell? ⟨b, 14, none⟩ = some (.bool true) := fun p => by rw [(hq p).1.cell 14]; show some (Value.bool v.opn) = _; rw [HO.out]
  have a1 : ∀ p : SinceW W1.heap.size W1, p.w.cell? ⟨g, 1, none⟩ = some (.int .i64 v.id) := fun p => blk_cell (hq p).2 1
  have HN := Lib.hid (fun p : SinceW W1.heap.size W1 => none_yes (hq p).1)
  have dd : (v.id != v.id) = false := by simp
  clear hq
  refine wp_region_since (B := W1.heap.size) (W0 := W1) (by kernel_rfl) (by kernel_rfl) (Below.refl _ _) ?_
  repeat (go_big_quiet_step ((go_at_call 73; exact since_same (HN.out _))))
  refine wpQuiet_nil ?_
  intro w5 hw'
  have hv5 : Below W1.heap.size W1 w5 := by obtain ⟨p, rfl⟩ := hw'; exact p.h
  clear hw' a0 a14 a1 HN dd
  have h5 := HH.out.step hv5
  have hP5 : OnePk w5 g fr v.id d := (hv5.block g (blk_lt HP.out)).trans HP.out
  have hF5 := HF.out.trans (FarC.below (b := b) (ch := ch) hv5)
  clear HH HP HF hv5
  have HT := Lib.hid ht
  clear ht
  have x2 : w5.cell? ⟨g, 2, none⟩ = some (.string d) := blk_cell hP5 2
  have HX := Lib.hid (And.intro h5 hF5)
  have hlt : b < w5.heap.size := h5.blt
  clear h5 hP5 hF5
  go_wp2_with fail
  refine (HT.out _).mono ?_
  rintro e w6 ⟨rfl, hb6⟩
  have h6 := HX.out.1.step hb6
  have hF6 := HX.out.2.trans (FarC.below (b := b) (ch := ch) hb6)
  clear HX HT x2 hb6 hlt
  have hA : Below w6.heap.size w6 (w6.alloc (.cells #[.int .i64 r.err, .string r.val, .int .i64 r.num] 26)) := (Below.refl _ _).alloc (Nat.le_refl _) _
  have h7 := h6.step hA
  have hF7 := hF6.trans (FarC.below (b := b) (ch := ch) hA)
  have hR : RepBlk (w6.alloc (.cells #[.int .i64 r.err, .string r.val, .int .i64 r.num] 26)) w6.heap.size r := heap_alloc_new w6 _
  have HX := Lib.hid (And.intro h7 hF7)
  have c8 : w6.cell? ⟨b, 13, none⟩ = some (.int .i64 v.num) := h6.cell 13
  have hb7 : b < w6.heap.size := h6.blt
  clear h6 hF6 hA h7 hF7 hR
  rcases hbad with hd | ⟨rfl, hd⟩
  · have d1 : (ge != 0) = true := by simpa using hd
    clear hd
    go_wp2_with fail
    go_ret
    exact ⟨rfl, HX.out⟩
  · have d1 : (n != (v.num : Int)) = true := by simpa using hd
    clear hd
    go_wp2_with fail
    go_ret
    exact ⟨rfl, HX.out⟩

set_option maxRecDepth 20000 in
set_option maxHeartbeats 2000000 in
theorem take_busy (h : Cli w0 W B b gn ch cap v q) (ho : v.opn = true) (fr : Int) (d : ByteArray) (l : Int) (r : RepV) (ht : ∀ W, Calls Try.prog 27 #[.string d] W fun e w' => e = .returned (.tuple #[.int .i64 v.num, .int .i64 l, r.agg, .int .i64 0]) ∧ Below W.heap.size W w') (he : r.err = 22) : Calls Try.prog 39 #[.pointer (some ⟨b, 0, none⟩), .agg #[.int .i64 fr, .int .i64 v.id, .string d]] W fun e w' => e = .returned (.slice none 0 0) ∧ Cli w0 w' B b gn ch cap { v with wait := 4, stays := true } q ∧ FarC W w' b ch := by
  have hrk : r.agg = .agg #[.int .i64 r.err, .string r.val, .int .i64 r.num] := rfl
  rw [hrk] at ht
  clear hrk
  have HH := Lib.hid h
  have hP : OnePk (W.alloc (.cells #[.int .i64 fr, .int .i64 v.id, .string d] 65)) W.heap.size fr v.id d := heap_alloc_new W _
  have hF := FarC.below (b := b) (ch := ch) ((Below.refl W.heap.size W).alloc (Nat.le_refl _) (.cells #[.int .i64 fr, .int .i64 v.id, .string d] 65))
  have hH := h.step ((Below.refl W.heap.size W).alloc (Nat.le_refl _) (.cells #[.int .i64 fr, .int .i64 v.id, .string d] 65))
  have HP := Lib.hid hP
  have HF := Lib.hid hF
  have HH := Lib.hid hH
  clear h hP hF hH
  have HO := Lib.hid ho
  have d1 : (r.err == 21) = false := by rw [he]; rfl
  have d2 : (r.err == 22) = true := by rw [he]; rfl
  clear he
  clear ho
  go_enter Try.func39, Try.ntmps39
  go_wp2_with fail
  generalize hg : W.heap.size = g at HP ⊢
  generalize W.alloc (.cells #[.int .i64 fr, .int .i64 v.id, .string d] 65) = W1 at HP HF HH ⊢
  clear hg
  have hq : ∀ p : SinceW W1.heap.size W1, Cli w0 p.w B b gn ch cap v q ∧ OnePk p.w g fr v.id d := fun p => ⟨HH.out.step p.h, (p.h.block g (blk_lt HP.out)).trans HP.out⟩
  have a0 : ∀ p : SinceW W1.heap.size W1, p.w.cell? ⟨b, 0, none⟩ = some (.int .i64 v.id) := fun p => (hq p).1.cell 0
  have a14 : ∀ p : SinceW W1.heap.size W1, p.w.cell? ⟨b, 14, none⟩ = some (.bool true) := fun p => by rw [(hq p).1.cell 14]; show some (Value.bool v.opn) = _; rw [HO.out]
  have a1 : ∀ p : SinceW W1.heap.size W1, p.w.cell? ⟨g, 1, none⟩ = some (.int .i64 v.id) := fun p => blk_cell (hq p).2 1
  have HN := Lib.hid (fun p : SinceW W1.heap.size W1 => none_yes (hq p).1)
  have dd : (v.id != v.id) = false := by simp
  clear hq
  refine wp_region_since (B := W1.heap.size) (W0 := W1) (by kernel_rfl) (by kernel_rfl) (Below.refl _ _) ?_
  repeat (go_big_quiet_step ((go_at_call 73; exact since_same (HN.out _))))
  refine wpQuiet_nil ?_
  intro w5 hw'
  have hv5 : Below W1.heap.size W1 w5 := by obtain ⟨p, rfl⟩ := hw'; exact p.h
  clear hw' a0 a14 a1 HN dd
  have h5 := HH.out.step hv5
  have hP5 : OnePk w5 g fr v.id d := (hv5.block g (blk_lt HP.out)).trans HP.out
  have hF5 := HF.out.trans (FarC.below (b := b) (ch := ch) hv5)
  clear HH HP HF hv5
  have HT := Lib.hid ht
  clear ht
  have x2 : w5.cell? ⟨g, 2, none⟩ = some (.string d) := blk_cell hP5 2
  have HX := Lib.hid (And.intro h5 hF5)
  have hlt : b < w5.heap.size := h5.blt
  clear h5 hP5 hF5
  go_wp2_with fail
  refine (HT.out _).mono ?_
  rintro e w6 ⟨rfl, hb6⟩
  have h6 := HX.out.1.step hb6
  have hF6 := HX.out.2.trans (FarC.below (b := b) (ch := ch) hb6)
  clear HX HT x2 hb6 hlt
  have hA : Below w6.heap.size w6 (w6.alloc (.cells #[.int .i64 r.err, .string r.val, .int .i64 r.num] 26)) := (Below.refl _ _).alloc (Nat.le_refl _) _
  have h7 := h6.step hA
  have hF7 := hF6.trans (FarC.below (b := b) (ch := ch) hA)
  have hR : RepBlk (w6.alloc (.cells #[.int .i64 r.err, .string r.val, .int .i64 r.num] 26)) w6.heap.size r := heap_alloc_new w6 _
  have HX := Lib.hid (And.intro h7 hF7)
  have c8 : w6.cell? ⟨b, 13, none⟩ = some (.int .i64 v.num) := h6.cell 13
  have hb7 : b < w6.heap.size := h6.blt
  clear h6 hF6 hA h7 hF7 hR
  have HZ := Lib.hid (pause_any HX.out.1)
  go_wp2_with fail
  refine HZ.out.mono ?_
  rintro e w8 ⟨rfl, h8, hF8⟩
  have HY := Lib.hid (And.intro h8 (HX.out.2.trans hF8))
  clear h8 hF8 HX HZ
  go_wp2_with fail
  go_ret
  exact ⟨rfl, HY.out⟩

set_option maxRecDepth 20000 in
set_option maxHeartbeats 2000000 in
theorem take_full (h : Cli w0 W B b gn ch cap v q) (ho : v.opn = true) (fr : Int) (d : ByteArray) (l : Int) (r : RepV) (ht : ∀ W, Calls Try.prog 27 #[.string d] W fun e w' => e = .returned (.tuple #[.int .i64 v.num, .int .i64 l, r.agg, .int .i64 0]) ∧ Below W.heap.size W w') (he : r.err = 10) : Calls Try.prog 39 #[.pointer (some ⟨b, 0, none⟩), .agg #[.int .i64 fr, .int .i64 v.id, .string d]] W fun e w' => e = .returned (.slice none 0 0) ∧ Cli w0 w' B b gn ch cap { v with wait := 4, stays := true } q ∧ FarC W w' b ch := by
  have hrk : r.agg = .agg #[.int .i64 r.err, .string r.val, .int .i64 r.num] := rfl
  rw [hrk] at ht
  clear hrk
  have HH := Lib.hid h
  have hP : OnePk (W.alloc (.cells #[.int .i64 fr, .int .i64 v.id, .string d] 65)) W.heap.size fr v.id d := heap_alloc_new W _
  have hF := FarC.below (b := b) (ch := ch) ((Below.refl W.heap.size W).alloc (Nat.le_refl _) (.cells #[.int .i64 fr, .int .i64 v.id, .string d] 65))
  have hH := h.step ((Below.refl W.heap.size W).alloc (Nat.le_refl _) (.cells #[.int .i64 fr, .int .i64 v.id, .string d] 65))
  have HP := Lib.hid hP
  have HF := Lib.hid hF
  have HH := Lib.hid hH
  clear h hP hF hH
  have HO := Lib.hid ho
  have d1 : (r.err == 21) = false := by rw [he]; rfl
  have d2 : (r.err == 22) = false := by rw [he]; rfl
  have d3 : (r.err == 10) = true := by rw [he]; rfl
  clear he
  clear ho
  go_enter Try.func39, Try.ntmps39
  go_wp2_with fail
  generalize hg : W.heap.size = g at HP ⊢
  generalize W.alloc (.cells #[.int .i64 fr, .int .i64 v.id, .string d] 65) = W1 at HP HF HH ⊢
  clear hg
  have hq : ∀ p : SinceW W1.heap.size W1, Cli w0 p.w B b gn ch cap v q ∧ OnePk p.w g fr v.id d := fun p => ⟨HH.out.step p.h, (p.h.block g (blk_lt HP.out)).trans HP.out⟩
  have a0 : ∀ p : SinceW W1.heap.size W1, p.w.cell? ⟨b, 0, none⟩ = some (.int .i64 v.id) := fun p => (hq p).1.cell 0
  have a14 : ∀ p : SinceW W1.heap.size W1, p.w.cell? ⟨b, 14, none⟩ = some (.bool true) := fun p => by rw [(hq p).1.cell 14]; show some (Value.bool v.opn) = _; rw [HO.out]
  have a1 : ∀ p : SinceW W1.heap.size W1, p.w.cell? ⟨g, 1, none⟩ = some (.int .i64 v.id) := fun p => blk_cell (hq p).2 1
  have HN := Lib.hid (fun p : SinceW W1.heap.size W1 => none_yes (hq p).1)
  have dd : (v.id != v.id) = false := by simp
  clear hq
  refine wp_region_since (B := W1.heap.size) (W0 := W1) (by kernel_rfl) (by kernel_rfl) (Below.refl _ _) ?_
  repeat (go_big_quiet_step ((go_at_call 73; exact since_same (HN.out _))))
  refine wpQuiet_nil ?_
  intro w5 hw'
  have hv5 : Below W1.heap.size W1 w5 := by obtain ⟨p, rfl⟩ := hw'; exact p.h
  clear hw' a0 a14 a1 HN dd
  have h5 := HH.out.step hv5
  have hP5 : OnePk w5 g fr v.id d := (hv5.block g (blk_lt HP.out)).trans HP.out
  have hF5 := HF.out.trans (FarC.below (b := b) (ch := ch) hv5)
  clear HH HP HF hv5
  have HT := Lib.hid ht
  clear ht
  have x2 : w5.cell? ⟨g, 2, none⟩ = some (.string d) := blk_cell hP5 2
  have HX := Lib.hid (And.intro h5 hF5)
  have hlt : b < w5.heap.size := h5.blt
  clear h5 hP5 hF5
  go_wp2_with fail
  refine (HT.out _).mono ?_
  rintro e w6 ⟨rfl, hb6⟩
  have h6 := HX.out.1.step hb6
  have hF6 := HX.out.2.trans (FarC.below (b := b) (ch := ch) hb6)
  clear HX HT x2 hb6 hlt
  have hA : Below w6.heap.size w6 (w6.alloc (.cells #[.int .i64 r.err, .string r.val, .int .i64 r.num] 26)) := (Below.refl _ _).alloc (Nat.le_refl _) _
  have h7 := h6.step hA
  have hF7 := hF6.trans (FarC.below (b := b) (ch := ch) hA)
  have hR : RepBlk (w6.alloc (.cells #[.int .i64 r.err, .string r.val, .int .i64 r.num] 26)) w6.heap.size r := heap_alloc_new w6 _
  have HX := Lib.hid (And.intro h7 hF7)
  have c8 : w6.cell? ⟨b, 13, none⟩ = some (.int .i64 v.num) := h6.cell 13
  have hb7 : b < w6.heap.size := h6.blt
  clear h6 hF6 hA h7 hF7 hR
  have HZ := Lib.hid (pause_any HX.out.1)
  go_wp2_with fail
  refine HZ.out.mono ?_
  rintro e w8 ⟨rfl, h8, hF8⟩
  have HY := Lib.hid (And.intro h8 (HX.out.2.trans hF8))
  clear h8 hF8 HX HZ
  go_wp2_with fail
  go_ret
  exact ⟨rfl, HY.out⟩

set_option maxRecDepth 20000 in
set_option maxHeartbeats 2000000 in
theorem take_lead_in (h : Cli w0 W B b gn ch cap v q) (ho : v.opn = true) (fr : Int) (d : ByteArray) (l : Int) (r : RepV) (ht : ∀ W, Calls Try.prog 27 #[.string d] W fun e w' => e = .returned (.tuple #[.int .i64 v.num, .int .i64 l, r.agg, .int .i64 0]) ∧ Below W.heap.size W w') (he : r.err = 21) (k : Nat) (hi : idxI v.nodes l = k) : Calls Try.prog 39 #[.pointer (some ⟨b, 0, none⟩), .agg #[.int .i64 fr, .int .i64 v.id, .string d]] W fun e w' => e = .returned (.slice none 0 0) ∧ Cli w0 w' B b gn ch cap { v with cur := k, wait := 4, stays := true } q ∧ FarC W w' b ch := by
  have hrk : r.agg = .agg #[.int .i64 r.err, .string r.val, .int .i64 r.num] := rfl
  rw [hrk] at ht
  clear hrk
  have HH := Lib.hid h
  have hP : OnePk (W.alloc (.cells #[.int .i64 fr, .int .i64 v.id, .string d] 65)) W.heap.size fr v.id d := heap_alloc_new W _
  have hF := FarC.below (b := b) (ch := ch) ((Below.refl W.heap.size W).alloc (Nat.le_refl _) (.cells #[.int .i64 fr, .int .i64 v.id, .string d] 65))
  have hH := h.step ((Below.refl W.heap.size W).alloc (Nat.le_refl _) (.cells #[.int .i64 fr, .int .i64 v.id, .string d] 65))
  have HP := Lib.hid hP
  have HF := Lib.hid hF
  have HH := Lib.hid hH
  clear h hP hF hH
  have HO := Lib.hid ho
  have d1 : (r.err == 21) = true := by rw [he]; rfl
  clear he
  clear ho
  go_enter Try.func39, Try.ntmps39
  go_wp2_with fail
  generalize hg : W.heap.size = g at HP ⊢
  generalize W.alloc (.cells #[.int .i64 fr, .int .i64 v.id, .string d] 65) = W1 at HP HF HH ⊢
  clear hg
  have hq : ∀ p : SinceW W1.heap.size W1, Cli w0 p.w B b gn ch cap v q ∧ OnePk p.w g fr v.id d := fun p => ⟨HH.out.step p.h, (p.h.block g (blk_lt HP.out)).trans HP.out⟩
  have a0 : ∀ p : SinceW W1.heap.size W1, p.w.cell? ⟨b, 0, none⟩ = some (.int .i64 v.id) := fun p => (hq p).1.cell 0
  have a14 : ∀ p : SinceW W1.heap.size W1, p.w.cell? ⟨b, 14, none⟩ = some (.bool true) := fun p => by rw [(hq p).1.cell 14]; show some (Value.bool v.opn) = _; rw [HO.out]
  have a1 : ∀ p : SinceW W1.heap.size W1, p.w.cell? ⟨g, 1, none⟩ = some (.int .i64 v.id) := fun p => blk_cell (hq p).2 1
  have HN := Lib.hid (fun p : SinceW W1.heap.size W1 => none_yes (hq p).1)
  have dd : (v.id != v.id) = false := by simp
  clear hq
  refine wp_region_since (B := W1.heap.size) (W0 := W1) (by kernel_rfl) (by kernel_rfl) (Below.refl _ _) ?_
  repeat (go_big_quiet_step ((go_at_call 73; exact since_same (HN.out _))))
  refine wpQuiet_nil ?_
  intro w5 hw'
  have hv5 : Below W1.heap.size W1 w5 := by obtain ⟨p, rfl⟩ := hw'; exact p.h
  clear hw' a0 a14 a1 HN dd
  have h5 := HH.out.step hv5
  have hP5 : OnePk w5 g fr v.id d := (hv5.block g (blk_lt HP.out)).trans HP.out
  have hF5 := HF.out.trans (FarC.below (b := b) (ch := ch) hv5)
  clear HH HP HF hv5
  have HT := Lib.hid ht
  clear ht
  have x2 : w5.cell? ⟨g, 2, none⟩ = some (.string d) := blk_cell hP5 2
  have HX := Lib.hid (And.intro h5 hF5)
  have hlt : b < w5.heap.size := h5.blt
  clear h5 hP5 hF5
  go_wp2_with fail
  refine (HT.out _).mono ?_
  rintro e w6 ⟨rfl, hb6⟩
  have h6 := HX.out.1.step hb6
  have hF6 := HX.out.2.trans (FarC.below (b := b) (ch := ch) hb6)
  clear HX HT x2 hb6 hlt
  have hA : Below w6.heap.size w6 (w6.alloc (.cells #[.int .i64 r.err, .string r.val, .int .i64 r.num] 26)) := (Below.refl _ _).alloc (Nat.le_refl _) _
  have h7 := h6.step hA
  have hF7 := hF6.trans (FarC.below (b := b) (ch := ch) hA)
  have hR : RepBlk (w6.alloc (.cells #[.int .i64 r.err, .string r.val, .int .i64 r.num] 26)) w6.heap.size r := heap_alloc_new w6 _
  have HX := Lib.hid (And.intro h7 hF7)
  have c8 : w6.cell? ⟨b, 13, none⟩ = some (.int .i64 v.num) := h6.cell 13
  have hb7 : b < w6.heap.size := h6.blt
  have H6 := Lib.hid (And.intro h6 hF6)
  have c1 : w6.cell? ⟨b, 1, none⟩ = some (.slice (some ⟨gn, 0, none⟩) v.nodes.length cap) := h6.cell 1
  have c2 : w6.cell? ⟨b, 2, none⟩ = some (.int .i64 v.cur) := h6.cell 2
  have f2 := h6.fr 2
  clear h6 hF6 hA h7 hF7 hR
  have hI := index_any gn cap v.nodes l (w6.alloc (.cells #[.int .i64 r.err, .string r.val, .int .i64 r.num] 26)) HX.out.1.few HX.out.1.nds
  rw [hi] at hI
  have HI := Lib.hid hI
  have hix := idxI_range v.nodes l
  rw [hi] at hix
  have HE := Lib.hid hix
  clear hi hI hix
  go_wp2_with fail
  refine HI.out.mono ?_
  rintro e w7 ⟨rfl, rfl⟩
  have HW := Lib.hid (H6.out.1.upd3 H6.out.2 { v with cur := k } (blk_set H6.out.1.blk 2 (.int .i64 (k : Int))) (grown_set _ _ _ _) (H6.out.1.below.setCell H6.out.1.hb _) (by simp [cliCells]) rfl (by have := HE.out; show k < v.nodes.length; omega))
  have hA : Below (w6.setCell ⟨b, 2, none⟩ (.int .i64 (k : Int))).heap.size (w6.setCell ⟨b, 2, none⟩ (.int .i64 (k : Int))) ((w6.setCell ⟨b, 2, none⟩ (.int .i64 (k : Int))).alloc (.cells #[.int .i64 r.err, .string r.val, .int .i64 r.num] 26)) := (Below.refl _ _).alloc (Nat.le_refl _) _
  have HW := Lib.hid (And.intro (HW.out.1.step hA) (HW.out.2.trans (FarC.below (b := b) (ch := ch) hA)))
  have HZ := Lib.hid (pause_any HW.out.1)
  clear hA HI H6
  go_wp2_with fail
  refine HZ.out.mono ?_
  rintro e w8 ⟨rfl, h8, hF8⟩
  have HY := Lib.hid (And.intro h8 (HW.out.2.trans hF8))
  clear h8 hF8 HX HZ HW
  go_wp2_with fail
  go_ret
  exact ⟨rfl, HY.out⟩

set_option maxRecDepth 20000 in
set_option maxHeartbeats 2000000 in
theorem take_lead_out (h : Cli w0 W B b gn ch cap v q) (ho : v.opn = true) (fr : Int) (d : ByteArray) (l : Int) (r : RepV) (ht : ∀ W, Calls Try.prog 27 #[.string d] W fun e w' => e = .returned (.tuple #[.int .i64 v.num, .int .i64 l, r.agg, .int .i64 0]) ∧ Below W.heap.size W w') (he : r.err = 21) (hi : idxI v.nodes l = -1) : Calls Try.prog 39 #[.pointer (some ⟨b, 0, none⟩), .agg #[.int .i64 fr, .int .i64 v.id, .string d]] W fun e w' => e = .returned (.slice none 0 0) ∧ Cli w0 w' B b gn ch cap { v with cur := (v.cur + 1) % v.nodes.length, wait := 4, stays := true } q ∧ FarC W w' b ch := by
  have hrk : r.agg = .agg #[.int .i64 r.err, .string r.val, .int .i64 r.num] := rfl
  rw [hrk] at ht
  clear hrk
  have HH := Lib.hid h
  have hP : OnePk (W.alloc (.cells #[.int .i64 fr, .int .i64 v.id, .string d] 65)) W.heap.size fr v.id d := heap_alloc_new W _
  have hF := FarC.below (b := b) (ch := ch) ((Below.refl W.heap.size W).alloc (Nat.le_refl _) (.cells #[.int .i64 fr, .int .i64 v.id, .string d] 65))
  have hH := h.step ((Below.refl W.heap.size W).alloc (Nat.le_refl _) (.cells #[.int .i64 fr, .int .i64 v.id, .string d] 65))
  have HP := Lib.hid hP
  have HF := Lib.hid hF
  have HH := Lib.hid hH
  clear h hP hF hH
  have HO := Lib.hid ho
  have d1 : (r.err == 21) = true := by rw [he]; rfl
  clear he
  clear ho
  go_enter Try.func39, Try.ntmps39
  go_wp2_with fail
  generalize hg : W.heap.size = g at HP ⊢
  generalize W.alloc (.cells #[.int .i64 fr, .int .i64 v.id, .string d] 65) = W1 at HP HF HH ⊢
  clear hg
  have hq : ∀ p : SinceW W1.heap.size W1, Cli w0 p.w B b gn ch cap v q ∧ OnePk p.w g fr v.id d := fun p => ⟨HH.out.step p.h, (p.h.block g (blk_lt HP.out)).trans HP.out⟩
  have a0 : ∀ p : SinceW W1.heap.size W1, p.w.cell? ⟨b, 0, none⟩ = some (.int .i64 v.id) := fun p => (hq p).1.cell 0
  have a14 : ∀ p : SinceW W1.heap.size W1, p.w.cell? ⟨b, 14, none⟩ = some (.bool true) := fun p => by rw [(hq p).1.cell 14]; show some (Value.bool v.opn) = _; rw [HO.out]
  have a1 : ∀ p : SinceW W1.heap.size W1, p.w.cell? ⟨g, 1, none⟩ = some (.int .i64 v.id) := fun p => blk_cell (hq p).2 1
  have HN := Lib.hid (fun p : SinceW W1.heap.size W1 => none_yes (hq p).1)
  have dd : (v.id != v.id) = false := by simp
  clear hq
  refine wp_region_since (B := W1.heap.size) (W0 := W1) (by kernel_rfl) (by kernel_rfl) (Below.refl _ _) ?_
  repeat (go_big_quiet_step ((go_at_call 73; exact since_same (HN.out _))))
  refine wpQuiet_nil ?_
  intro w5 hw'
  have hv5 : Below W1.heap.size W1 w5 := by obtain ⟨p, rfl⟩ := hw'; exact p.h
  clear hw' a0 a14 a1 HN dd
  have h5 := HH.out.step hv5
  have hP5 : OnePk w5 g fr v.id d := (hv5.block g (blk_lt HP.out)).trans HP.out
  have hF5 := HF.out.trans (FarC.below (b := b) (ch := ch) hv5)
  clear HH HP HF hv5
  have HT := Lib.hid ht
  clear ht
  have x2 : w5.cell? ⟨g, 2, none⟩ = some (.string d) := blk_cell hP5 2
  have HX := Lib.hid (And.intro h5 hF5)
  have hlt : b < w5.heap.size := h5.blt
  clear h5 hP5 hF5
  go_wp2_with fail
  refine (HT.out _).mono ?_
  rintro e w6 ⟨rfl, hb6⟩
  have h6 := HX.out.1.step hb6
  have hF6 := HX.out.2.trans (FarC.below (b := b) (ch := ch) hb6)
  clear HX HT x2 hb6 hlt
  have hA : Below w6.heap.size w6 (w6.alloc (.cells #[.int .i64 r.err, .string r.val, .int .i64 r.num] 26)) := (Below.refl _ _).alloc (Nat.le_refl _) _
  have h7 := h6.step hA
  have hF7 := hF6.trans (FarC.below (b := b) (ch := ch) hA)
  have hR : RepBlk (w6.alloc (.cells #[.int .i64 r.err, .string r.val, .int .i64 r.num] 26)) w6.heap.size r := heap_alloc_new w6 _
  have HX := Lib.hid (And.intro h7 hF7)
  have c8 : w6.cell? ⟨b, 13, none⟩ = some (.int .i64 v.num) := h6.cell 13
  have hb7 : b < w6.heap.size := h6.blt
  have H6 := Lib.hid (And.intro h6 hF6)
  have c1 : w6.cell? ⟨b, 1, none⟩ = some (.slice (some ⟨gn, 0, none⟩) v.nodes.length cap) := h6.cell 1
  clear h6 hF6 hA h7 hF7 hR
  have hI := index_any gn cap v.nodes l (w6.alloc (.cells #[.int .i64 r.err, .string r.val, .int .i64 r.num] 26)) HX.out.1.few HX.out.1.nds
  rw [hi] at hI
  have HI := Lib.hid hI
  have hix := idxI_range v.nodes l
  rw [hi] at hix
  have HE := Lib.hid hix
  clear hi hI hix
  go_wp2_with fail
  refine HI.out.mono ?_
  rintro e w7 ⟨rfl, rfl⟩
  have HM := Lib.hid (next_any HX.out.1)
  go_wp2_with fail
  refine HM.out.mono ?_
  rintro e w7 ⟨rfl, h7, hF7⟩
  have HW := Lib.hid (And.intro h7 (HX.out.2.trans hF7))
  have HZ := Lib.hid (pause_any HW.out.1)
  clear h7 hF7 HM HI H6
  go_wp2_with fail
  refine HZ.out.mono ?_
  rintro e w8 ⟨rfl, h8, hF8⟩
  have HY := Lib.hid (And.intro h8 (HW.out.2.trans hF8))
  clear h8 hF8 HX HZ HW
  go_wp2_with fail
  go_ret
  exact ⟨rfl, HY.out⟩

set_option maxRecDepth 20000 in
set_option maxHeartbeats 2000000 in
theorem take_reg_ok (h : Cli w0 W B b gn ch cap v q) (ho : v.opn = true) (fr : Int) (d : ByteArray) (l : Int) (r : RepV) (ht : ∀ W, Calls Try.prog 27 #[.string d] W fun e w' => e = .returned (.tuple #[.int .i64 v.num, .int .i64 l, r.agg, .int .i64 0]) ∧ Below W.heap.size W w') (he : r.err = 0) (hk : v.qu.kd = 5) : Calls Try.prog 39 #[.pointer (some ⟨b, 0, none⟩), .agg #[.int .i64 fr, .int .i64 v.id, .string d]] W fun e w' => e = .returned (.slice none 0 0) ∧ Cli w0 w' B b gn ch cap { v with opn := false, ss := r.num, sq := 0 } q ∧ FarC W w' b ch := by
  have hrk : r.agg = .agg #[.int .i64 r.err, .string r.val, .int .i64 r.num] := rfl
  rw [hrk] at ht
  clear hrk
  have HH := Lib.hid h
  have hP : OnePk (W.alloc (.cells #[.int .i64 fr, .int .i64 v.id, .string d] 65)) W.heap.size fr v.id d := heap_alloc_new W _
  have hF := FarC.below (b := b) (ch := ch) ((Below.refl W.heap.size W).alloc (Nat.le_refl _) (.cells #[.int .i64 fr, .int .i64 v.id, .string d] 65))
  have hH := h.step ((Below.refl W.heap.size W).alloc (Nat.le_refl _) (.cells #[.int .i64 fr, .int .i64 v.id, .string d] 65))
  have HP := Lib.hid hP
  have HF := Lib.hid hF
  have HH := Lib.hid hH
  clear h hP hF hH
  have HO := Lib.hid ho
  have d1 : (r.err == 21) = false := by rw [he]; rfl
  have d2 : (r.err == 22) = false := by rw [he]; rfl
  have d3 : (r.err == 10) = false := by rw [he]; rfl
  have HK := Lib.hid (And.intro he hk)
  clear he hk
  clear ho
  go_enter Try.func39, Try.ntmps39
  go_wp2_with fail
  generalize hg : W.heap.size = g at HP ⊢
  generalize W.alloc (.cells #[.int .i64 fr, .int .i64 v.id, .string d] 65) = W1 at HP HF HH ⊢
  clear hg
  have hq : ∀ p : SinceW W1.heap.size W1, Cli w0 p.w B b gn ch cap v q ∧ OnePk p.w g fr v.id d := fun p => ⟨HH.out.step p.h, (p.h.block g (blk_lt HP.out)).trans HP.out⟩
  have a0 : ∀ p : SinceW W1.heap.size W1, p.w.cell? ⟨b, 0, none⟩ = some (.int .i64 v.id) := fun p => (hq p).1.cell 0
  have a14 : ∀ p : SinceW W1.heap.size W1, p.w.cell? ⟨b, 14, none⟩ = some (.bool true) := fun p => by rw [(hq p).1.cell 14]; show some (Value.bool v.opn) = _; rw [HO.out]
  have a1 : ∀ p : SinceW W1.heap.size W1, p.w.cell? ⟨g, 1, none⟩ = some (.int .i64 v.id) := fun p => blk_cell (hq p).2 1
  have HN := Lib.hid (fun p : SinceW W1.heap.size W1 => none_yes (hq p).1)
  have dd : (v.id != v.id) = false := by simp
  clear hq
  refine wp_region_since (B := W1.heap.size) (W0 := W1) (by kernel_rfl) (by kernel_rfl) (Below.refl _ _) ?_
  repeat (go_big_quiet_step ((go_at_call 73; exact since_same (HN.out _))))
  refine wpQuiet_nil ?_
  intro w5 hw'
  have hv5 : Below W1.heap.size W1 w5 := by obtain ⟨p, rfl⟩ := hw'; exact p.h
  clear hw' a0 a14 a1 HN dd
  have h5 := HH.out.step hv5
  have hP5 : OnePk w5 g fr v.id d := (hv5.block g (blk_lt HP.out)).trans HP.out
  have hF5 := HF.out.trans (FarC.below (b := b) (ch := ch) hv5)
  clear HH HP HF hv5
  have HT := Lib.hid ht
  clear ht
  have x2 : w5.cell? ⟨g, 2, none⟩ = some (.string d) := blk_cell hP5 2
  have HX := Lib.hid (And.intro h5 hF5)
  have hlt : b < w5.heap.size := h5.blt
  clear h5 hP5 hF5
  go_wp2_with fail
  refine (HT.out _).mono ?_
  rintro e w6 ⟨rfl, hb6⟩
  have h6 := HX.out.1.step hb6
  have hF6 := HX.out.2.trans (FarC.below (b := b) (ch := ch) hb6)
  clear HX HT x2 hb6 hlt
  have hA : Below w6.heap.size w6 (w6.alloc (.cells #[.int .i64 r.err, .string r.val, .int .i64 r.num] 26)) := (Below.refl _ _).alloc (Nat.le_refl _) _
  have h7 := h6.step hA
  have hF7 := hF6.trans (FarC.below (b := b) (ch := ch) hA)
  have hR : RepBlk (w6.alloc (.cells #[.int .i64 r.err, .string r.val, .int .i64 r.num] 26)) w6.heap.size r := heap_alloc_new w6 _
  have HX := Lib.hid (And.intro h7 hF7)
  have c8 : w6.cell? ⟨b, 13, none⟩ = some (.int .i64 v.num) := h6.cell 13
  have hb7 : b < w6.heap.size := h6.blt
  clear h6 hF6 hA h7 hF7 hR
  have HZ := Lib.hid (ans_reg_ok HX.out.1 r HK.out.2 HK.out.1)
  unfold RepV.agg at HZ
  go_wp2_with fail
  refine HZ.out.mono ?_
  rintro e w8 ⟨rfl, h8, hF8⟩
  have HY := Lib.hid (And.intro h8 (HX.out.2.trans hF8))
  clear h8 hF8 HX HZ
  go_wp2_with fail
  go_ret
  exact ⟨rfl, HY.out⟩

set_option maxRecDepth 20000 in
set_option maxHeartbeats 2000000 in
theorem take_reg_no (h : Cli w0 W B b gn ch cap v q) (ho : v.opn = true) (fr : Int) (d : ByteArray) (l : Int) (r : RepV) (ht : ∀ W, Calls Try.prog 27 #[.string d] W fun e w' => e = .returned (.tuple #[.int .i64 v.num, .int .i64 l, r.agg, .int .i64 0]) ∧ Below W.heap.size W w') (he : r.err ≠ 21 ∧ r.err ≠ 22 ∧ r.err ≠ 10) (he0 : r.err ≠ 0) (hk : v.qu.kd = 5) : Calls Try.prog 39 #[.pointer (some ⟨b, 0, none⟩), .agg #[.int .i64 fr, .int .i64 v.id, .string d]] W fun e w' => e = .returned (.slice none 0 0) ∧ Cli w0 w' B b gn ch cap { v with opn := false } q ∧ FarC W w' b ch := by
  have hrk : r.agg = .agg #[.int .i64 r.err, .string r.val, .int .i64 r.num] := rfl
  rw [hrk] at ht
  clear hrk
  have HH := Lib.hid h
  have hP : OnePk (W.alloc (.cells #[.int .i64 fr, .int .i64 v.id, .string d] 65)) W.heap.size fr v.id d := heap_alloc_new W _
  have hF := FarC.below (b := b) (ch := ch) ((Below.refl W.heap.size W).alloc (Nat.le_refl _) (.cells #[.int .i64 fr, .int .i64 v.id, .string d] 65))
  have hH := h.step ((Below.refl W.heap.size W).alloc (Nat.le_refl _) (.cells #[.int .i64 fr, .int .i64 v.id, .string d] 65))
  have HP := Lib.hid hP
  have HF := Lib.hid hF
  have HH := Lib.hid hH
  clear h hP hF hH
  have HO := Lib.hid ho
  have d1 : (r.err == 21) = false := by simpa using he.1
  have d2 : (r.err == 22) = false := by simpa using he.2.1
  have d3 : (r.err == 10) = false := by simpa using he.2.2
  clear he
  have HK := Lib.hid (And.intro he0 hk)
  clear he0 hk
  clear ho
  go_enter Try.func39, Try.ntmps39
  go_wp2_with fail
  generalize hg : W.heap.size = g at HP ⊢
  generalize W.alloc (.cells #[.int .i64 fr, .int .i64 v.id, .string d] 65) = W1 at HP HF HH ⊢
  clear hg
  have hq : ∀ p : SinceW W1.heap.size W1, Cli w0 p.w B b gn ch cap v q ∧ OnePk p.w g fr v.id d := fun p => ⟨HH.out.step p.h, (p.h.block g (blk_lt HP.out)).trans HP.out⟩
  have a0 : ∀ p : SinceW W1.heap.size W1, p.w.cell? ⟨b, 0, none⟩ = some (.int .i64 v.id) := fun p => (hq p).1.cell 0
  have a14 : ∀ p : SinceW W1.heap.size W1, p.w.cell? ⟨b, 14, none⟩ = some (.bool true) := fun p => by rw [(hq p).1.cell 14]; show some (Value.bool v.opn) = _; rw [HO.out]
  have a1 : ∀ p : SinceW W1.heap.size W1, p.w.cell? ⟨g, 1, none⟩ = some (.int .i64 v.id) := fun p => blk_cell (hq p).2 1
  have HN := Lib.hid (fun p : SinceW W1.heap.size W1 => none_yes (hq p).1)
  have dd : (v.id != v.id) = false := by simp
  clear hq
  refine wp_region_since (B := W1.heap.size) (W0 := W1) (by kernel_rfl) (by kernel_rfl) (Below.refl _ _) ?_
  repeat (go_big_quiet_step ((go_at_call 73; exact since_same (HN.out _))))
  refine wpQuiet_nil ?_
  intro w5 hw'
  have hv5 : Below W1.heap.size W1 w5 := by obtain ⟨p, rfl⟩ := hw'; exact p.h
  clear hw' a0 a14 a1 HN dd
  have h5 := HH.out.step hv5
  have hP5 : OnePk w5 g fr v.id d := (hv5.block g (blk_lt HP.out)).trans HP.out
  have hF5 := HF.out.trans (FarC.below (b := b) (ch := ch) hv5)
  clear HH HP HF hv5
  have HT := Lib.hid ht
  clear ht
  have x2 : w5.cell? ⟨g, 2, none⟩ = some (.string d) := blk_cell hP5 2
  have HX := Lib.hid (And.intro h5 hF5)
  have hlt : b < w5.heap.size := h5.blt
  clear h5 hP5 hF5
  go_wp2_with fail
  refine (HT.out _).mono ?_
  rintro e w6 ⟨rfl, hb6⟩
  have h6 := HX.out.1.step hb6
  have hF6 := HX.out.2.trans (FarC.below (b := b) (ch := ch) hb6)
  clear HX HT x2 hb6 hlt
  have hA : Below w6.heap.size w6 (w6.alloc (.cells #[.int .i64 r.err, .string r.val, .int .i64 r.num] 26)) := (Below.refl _ _).alloc (Nat.le_refl _) _
  have h7 := h6.step hA
  have hF7 := hF6.trans (FarC.below (b := b) (ch := ch) hA)
  have hR : RepBlk (w6.alloc (.cells #[.int .i64 r.err, .string r.val, .int .i64 r.num] 26)) w6.heap.size r := heap_alloc_new w6 _
  have HX := Lib.hid (And.intro h7 hF7)
  have c8 : w6.cell? ⟨b, 13, none⟩ = some (.int .i64 v.num) := h6.cell 13
  have hb7 : b < w6.heap.size := h6.blt
  clear h6 hF6 hA h7 hF7 hR
  have HZ := Lib.hid (ans_reg_no HX.out.1 r HK.out.2 HK.out.1)
  unfold RepV.agg at HZ
  go_wp2_with fail
  refine HZ.out.mono ?_
  rintro e w8 ⟨rfl, h8, hF8⟩
  have HY := Lib.hid (And.intro h8 (HX.out.2.trans hF8))
  clear h8 hF8 HX HZ
  go_wp2_with fail
  go_ret
  exact ⟨rfl, HY.out⟩

set_option maxRecDepth 20000 in
set_option maxHeartbeats 2000000 in
theorem take_get (h : Cli w0 W B b gn ch cap v []) (ho : v.opn = true) (fr : Int) (d : ByteArray) (l : Int) (r : RepV) (ht : ∀ W, Calls Try.prog 27 #[.string d] W fun e w' => e = .returned (.tuple #[.int .i64 v.num, .int .i64 l, r.agg, .int .i64 0]) ∧ Below W.heap.size W w') (he : r.err ≠ 21 ∧ r.err ≠ 22 ∧ r.err ≠ 10) (hk : v.qu.kd ≠ 5) (hk4 : v.qu.kd = 4) (h24 : r.err ≠ 24) : Calls Try.prog 39 #[.pointer (some ⟨b, 0, none⟩), .agg #[.int .i64 fr, .int .i64 v.id, .string d]] W fun e w' => e = .returned (.slice none 0 0) ∧ Cli w0 w' B b gn ch cap { v with opn := false, asked := false } [((v.number : Int), r)] ∧ FarC W w' b ch := by
  have hrk : r.agg = .agg #[.int .i64 r.err, .string r.val, .int .i64 r.num] := rfl
  rw [hrk] at ht
  clear hrk
  have HH := Lib.hid h
  have hP : OnePk (W.alloc (.cells #[.int .i64 fr, .int .i64 v.id, .string d] 65)) W.heap.size fr v.id d := heap_alloc_new W _
  have hF := FarC.below (b := b) (ch := ch) ((Below.refl W.heap.size W).alloc (Nat.le_refl _) (.cells #[.int .i64 fr, .int .i64 v.id, .string d] 65))
  have hH := h.step ((Below.refl W.heap.size W).alloc (Nat.le_refl _) (.cells #[.int .i64 fr, .int .i64 v.id, .string d] 65))
  have HP := Lib.hid hP
  have HF := Lib.hid hF
  have HH := Lib.hid hH
  clear h hP hF hH
  have HO := Lib.hid ho
  have d1 : (r.err == 21) = false := by simpa using he.1
  have d2 : (r.err == 22) = false := by simpa using he.2.1
  have d3 : (r.err == 10) = false := by simpa using he.2.2
  clear he
  have HK := Lib.hid (And.intro hk (And.intro hk4 h24))
  clear hk hk4 h24
  clear ho
  go_enter Try.func39, Try.ntmps39
  go_wp2_with fail
  generalize hg : W.heap.size = g at HP ⊢
  generalize W.alloc (.cells #[.int .i64 fr, .int .i64 v.id, .string d] 65) = W1 at HP HF HH ⊢
  clear hg
  have hq : ∀ p : SinceW W1.heap.size W1, Cli w0 p.w B b gn ch cap v [] ∧ OnePk p.w g fr v.id d := fun p => ⟨HH.out.step p.h, (p.h.block g (blk_lt HP.out)).trans HP.out⟩
  have a0 : ∀ p : SinceW W1.heap.size W1, p.w.cell? ⟨b, 0, none⟩ = some (.int .i64 v.id) := fun p => (hq p).1.cell 0
  have a14 : ∀ p : SinceW W1.heap.size W1, p.w.cell? ⟨b, 14, none⟩ = some (.bool true) := fun p => by rw [(hq p).1.cell 14]; show some (Value.bool v.opn) = _; rw [HO.out]
  have a1 : ∀ p : SinceW W1.heap.size W1, p.w.cell? ⟨g, 1, none⟩ = some (.int .i64 v.id) := fun p => blk_cell (hq p).2 1
  have HN := Lib.hid (fun p : SinceW W1.heap.size W1 => none_yes (hq p).1)
  have dd : (v.id != v.id) = false := by simp
  clear hq
  refine wp_region_since (B := W1.heap.size) (W0 := W1) (by kernel_rfl) (by kernel_rfl) (Below.refl _ _) ?_
  repeat (go_big_quiet_step ((go_at_call 73; exact since_same (HN.out _))))
  refine wpQuiet_nil ?_
  intro w5 hw'
  have hv5 : Below W1.heap.size W1 w5 := by obtain ⟨p, rfl⟩ := hw'; exact p.h
  clear hw' a0 a14 a1 HN dd
  have h5 := HH.out.step hv5
  have hP5 : OnePk w5 g fr v.id d := (hv5.block g (blk_lt HP.out)).trans HP.out
  have hF5 := HF.out.trans (FarC.below (b := b) (ch := ch) hv5)
  clear HH HP HF hv5
  have HT := Lib.hid ht
  clear ht
  have x2 : w5.cell? ⟨g, 2, none⟩ = some (.string d) := blk_cell hP5 2
  have HX := Lib.hid (And.intro h5 hF5)
  have hlt : b < w5.heap.size := h5.blt
  clear h5 hP5 hF5
  go_wp2_with fail
  refine (HT.out _).mono ?_
  rintro e w6 ⟨rfl, hb6⟩
  have h6 := HX.out.1.step hb6
  have hF6 := HX.out.2.trans (FarC.below (b := b) (ch := ch) hb6)
  clear HX HT x2 hb6 hlt
  have hA : Below w6.heap.size w6 (w6.alloc (.cells #[.int .i64 r.err, .string r.val, .int .i64 r.num] 26)) := (Below.refl _ _).alloc (Nat.le_refl _) _
  have h7 := h6.step hA
  have hF7 := hF6.trans (FarC.below (b := b) (ch := ch) hA)
  have hR : RepBlk (w6.alloc (.cells #[.int .i64 r.err, .string r.val, .int .i64 r.num] 26)) w6.heap.size r := heap_alloc_new w6 _
  have HX := Lib.hid (And.intro h7 hF7)
  have c8 : w6.cell? ⟨b, 13, none⟩ = some (.int .i64 v.num) := h6.cell 13
  have hb7 : b < w6.heap.size := h6.blt
  clear h6 hF6 hA h7 hF7 hR
  have HZ := Lib.hid (ans_get HX.out.1 r HK.out.1 HK.out.2.1 HK.out.2.2)
  unfold RepV.agg at HZ
  go_wp2_with fail
  refine HZ.out.mono ?_
  rintro e w8 ⟨rfl, h8, hF8⟩
  have HY := Lib.hid (And.intro h8 (HX.out.2.trans hF8))
  clear h8 hF8 HX HZ
  go_wp2_with fail
  go_ret
  exact ⟨rfl, HY.out⟩

set_option maxRecDepth 20000 in
set_option maxHeartbeats 2000000 in
theorem take_get_s (h : Cli w0 W B b gn ch cap v []) (ho : v.opn = true) (fr : Int) (d : ByteArray) (l : Int) (r : RepV) (ht : ∀ W, Calls Try.prog 27 #[.string d] W fun e w' => e = .returned (.tuple #[.int .i64 v.num, .int .i64 l, r.agg, .int .i64 0]) ∧ Below W.heap.size W w') (he : r.err ≠ 21 ∧ r.err ≠ 22 ∧ r.err ≠ 10) (hk : v.qu.kd ≠ 5) (hk4 : v.qu.kd = 4) (h24 : r.err = 24) : Calls Try.prog 39 #[.pointer (some ⟨b, 0, none⟩), .agg #[.int .i64 fr, .int .i64 v.id, .string d]] W fun e w' => e = .returned (.slice none 0 0) ∧ Cli w0 w' B b gn ch cap { v with opn := false, asked := false, ss := 0 } [((v.number : Int), r)] ∧ FarC W w' b ch := by
  have hrk : r.agg = .agg #[.int .i64 r.err, .string r.val, .int .i64 r.num] := rfl
  rw [hrk] at ht
  clear hrk
  have HH := Lib.hid h
  have hP : OnePk (W.alloc (.cells #[.int .i64 fr, .int .i64 v.id, .string d] 65)) W.heap.size fr v.id d := heap_alloc_new W _
  have hF := FarC.below (b := b) (ch := ch) ((Below.refl W.heap.size W).alloc (Nat.le_refl _) (.cells #[.int .i64 fr, .int .i64 v.id, .string d] 65))
  have hH := h.step ((Below.refl W.heap.size W).alloc (Nat.le_refl _) (.cells #[.int .i64 fr, .int .i64 v.id, .string d] 65))
  have HP := Lib.hid hP
  have HF := Lib.hid hF
  have HH := Lib.hid hH
  clear h hP hF hH
  have HO := Lib.hid ho
  have d1 : (r.err == 21) = false := by simpa using he.1
  have d2 : (r.err == 22) = false := by simpa using he.2.1
  have d3 : (r.err == 10) = false := by simpa using he.2.2
  clear he
  have HK := Lib.hid (And.intro hk (And.intro hk4 h24))
  clear hk hk4 h24
  clear ho
  go_enter Try.func39, Try.ntmps39
  go_wp2_with fail
  generalize hg : W.heap.size = g at HP ⊢
  generalize W.alloc (.cells #[.int .i64 fr, .int .i64 v.id, .string d] 65) = W1 at HP HF HH ⊢
  clear hg
  have hq : ∀ p : SinceW W1.heap.size W1, Cli w0 p.w B b gn ch cap v [] ∧ OnePk p.w g fr v.id d := fun p => ⟨HH.out.step p.h, (p.h.block g (blk_lt HP.out)).trans HP.out⟩
  have a0 : ∀ p : SinceW W1.heap.size W1, p.w.cell? ⟨b, 0, none⟩ = some (.int .i64 v.id) := fun p => (hq p).1.cell 0
  have a14 : ∀ p : SinceW W1.heap.size W1, p.w.cell? ⟨b, 14, none⟩ = some (.bool true) := fun p => by rw [(hq p).1.cell 14]; show some (Value.bool v.opn) = _; rw [HO.out]
  have a1 : ∀ p : SinceW W1.heap.size W1, p.w.cell? ⟨g, 1, none⟩ = some (.int .i64 v.id) := fun p => blk_cell (hq p).2 1
  have HN := Lib.hid (fun p : SinceW W1.heap.size W1 => none_yes (hq p).1)
  have dd : (v.id != v.id) = false := by simp
  clear hq
  refine wp_region_since (B := W1.heap.size) (W0 := W1) (by kernel_rfl) (by kernel_rfl) (Below.refl _ _) ?_
  repeat (go_big_quiet_step ((go_at_call 73; exact since_same (HN.out _))))
  refine wpQuiet_nil ?_
  intro w5 hw'
  have hv5 : Below W1.heap.size W1 w5 := by obtain ⟨p, rfl⟩ := hw'; exact p.h
  clear hw' a0 a14 a1 HN dd
  have h5 := HH.out.step hv5
  have hP5 : OnePk w5 g fr v.id d := (hv5.block g (blk_lt HP.out)).trans HP.out
  have hF5 := HF.out.trans (FarC.below (b := b) (ch := ch) hv5)
  clear HH HP HF hv5
  have HT := Lib.hid ht
  clear ht
  have x2 : w5.cell? ⟨g, 2, none⟩ = some (.string d) := blk_cell hP5 2
  have HX := Lib.hid (And.intro h5 hF5)
  have hlt : b < w5.heap.size := h5.blt
  clear h5 hP5 hF5
  go_wp2_with fail
  refine (HT.out _).mono ?_
  rintro e w6 ⟨rfl, hb6⟩
  have h6 := HX.out.1.step hb6
  have hF6 := HX.out.2.trans (FarC.below (b := b) (ch := ch) hb6)
  clear HX HT x2 hb6 hlt
  have hA : Below w6.heap.size w6 (w6.alloc (.cells #[.int .i64 r.err, .string r.val, .int .i64 r.num] 26)) := (Below.refl _ _).alloc (Nat.le_refl _) _
  have h7 := h6.step hA
  have hF7 := hF6.trans (FarC.below (b := b) (ch := ch) hA)
  have hR : RepBlk (w6.alloc (.cells #[.int .i64 r.err, .string r.val, .int .i64 r.num] 26)) w6.heap.size r := heap_alloc_new w6 _
  have HX := Lib.hid (And.intro h7 hF7)
  have c8 : w6.cell? ⟨b, 13, none⟩ = some (.int .i64 v.num) := h6.cell 13
  have hb7 : b < w6.heap.size := h6.blt
  clear h6 hF6 hA h7 hF7 hR
  have HZ := Lib.hid (ans_get_s HX.out.1 r HK.out.1 HK.out.2.1 HK.out.2.2)
  unfold RepV.agg at HZ
  go_wp2_with fail
  refine HZ.out.mono ?_
  rintro e w8 ⟨rfl, h8, hF8⟩
  have HY := Lib.hid (And.intro h8 (HX.out.2.trans hF8))
  clear h8 hF8 HX HZ
  go_wp2_with fail
  go_ret
  exact ⟨rfl, HY.out⟩

set_option maxRecDepth 20000 in
set_option maxHeartbeats 2000000 in
theorem take_op (h : Cli w0 W B b gn ch cap v []) (ho : v.opn = true) (fr : Int) (d : ByteArray) (l : Int) (r : RepV) (ht : ∀ W, Calls Try.prog 27 #[.string d] W fun e w' => e = .returned (.tuple #[.int .i64 v.num, .int .i64 l, r.agg, .int .i64 0]) ∧ Below W.heap.size W w') (he : r.err ≠ 21 ∧ r.err ≠ 22 ∧ r.err ≠ 10) (hk : v.qu.kd ≠ 5) (hk4 : v.qu.kd ≠ 4) (h24 : r.err ≠ 24) : Calls Try.prog 39 #[.pointer (some ⟨b, 0, none⟩), .agg #[.int .i64 fr, .int .i64 v.id, .string d]] W fun e w' => e = .returned (.slice none 0 0) ∧ Cli w0 w' B b gn ch cap { v with opn := false, asked := false, sq := v.qu.sq } [((v.number : Int), r)] ∧ FarC W w' b ch := by
  have hrk : r.agg = .agg #[.int .i64 r.err, .string r.val, .int .i64 r.num] := rfl
  rw [hrk] at ht
  clear hrk
  have HH := Lib.hid h
  have hP : OnePk (W.alloc (.cells #[.int .i64 fr, .int .i64 v.id, .string d] 65)) W.heap.size fr v.id d := heap_alloc_new W _
  have hF := FarC.below (b := b) (ch := ch) ((Below.refl W.heap.size W).alloc (Nat.le_refl _) (.cells #[.int .i64 fr, .int .i64 v.id, .string d] 65))
  have hH := h.step ((Below.refl W.heap.size W).alloc (Nat.le_refl _) (.cells #[.int .i64 fr, .int .i64 v.id, .string d] 65))
  have HP := Lib.hid hP
  have HF := Lib.hid hF
  have HH := Lib.hid hH
  clear h hP hF hH
  have HO := Lib.hid ho
  have d1 : (r.err == 21) = false := by simpa using he.1
  have d2 : (r.err == 22) = false := by simpa using he.2.1
  have d3 : (r.err == 10) = false := by simpa using he.2.2
  clear he
  have HK := Lib.hid (And.intro hk (And.intro hk4 h24))
  clear hk hk4 h24
  clear ho
  go_enter Try.func39, Try.ntmps39
  go_wp2_with fail
  generalize hg : W.heap.size = g at HP ⊢
  generalize W.alloc (.cells #[.int .i64 fr, .int .i64 v.id, .string d] 65) = W1 at HP HF HH ⊢
  clear hg
  have hq : ∀ p : SinceW W1.heap.size W1, Cli w0 p.w B b gn ch cap v [] ∧ OnePk p.w g fr v.id d := fun p => ⟨HH.out.step p.h, (p.h.block g (blk_lt HP.out)).trans HP.out⟩
  have a0 : ∀ p : SinceW W1.heap.size W1, p.w.cell? ⟨b, 0, none⟩ = some (.int .i64 v.id) := fun p => (hq p).1.cell 0
  have a14 : ∀ p : SinceW W1.heap.size W1, p.w.cell? ⟨b, 14, none⟩ = some (.bool true) := fun p => by rw [(hq p).1.cell 14]; show some (Value.bool v.opn) = _; rw [HO.out]
  have a1 : ∀ p : SinceW W1.heap.size W1, p.w.cell? ⟨g, 1, none⟩ = some (.int .i64 v.id) := fun p => blk_cell (hq p).2 1
  have HN := Lib.hid (fun p : SinceW W1.heap.size W1 => none_yes (hq p).1)
  have dd : (v.id != v.id) = false := by simp
  clear hq
  refine wp_region_since (B := W1.heap.size) (W0 := W1) (by kernel_rfl) (by kernel_rfl) (Below.refl _ _) ?_
  repeat (go_big_quiet_step ((go_at_call 73; exact since_same (HN.out _))))
  refine wpQuiet_nil ?_
  intro w5 hw'
  have hv5 : Below W1.heap.size W1 w5 := by obtain ⟨p, rfl⟩ := hw'; exact p.h
  clear hw' a0 a14 a1 HN dd
  have h5 := HH.out.step hv5
  have hP5 : OnePk w5 g fr v.id d := (hv5.block g (blk_lt HP.out)).trans HP.out
  have hF5 := HF.out.trans (FarC.below (b := b) (ch := ch) hv5)
  clear HH HP HF hv5
  have HT := Lib.hid ht
  clear ht
  have x2 : w5.cell? ⟨g, 2, none⟩ = some (.string d) := blk_cell hP5 2
  have HX := Lib.hid (And.intro h5 hF5)
  have hlt : b < w5.heap.size := h5.blt
  clear h5 hP5 hF5
  go_wp2_with fail
  refine (HT.out _).mono ?_
  rintro e w6 ⟨rfl, hb6⟩
  have h6 := HX.out.1.step hb6
  have hF6 := HX.out.2.trans (FarC.below (b := b) (ch := ch) hb6)
  clear HX HT x2 hb6 hlt
  have hA : Below w6.heap.size w6 (w6.alloc (.cells #[.int .i64 r.err, .string r.val, .int .i64 r.num] 26)) := (Below.refl _ _).alloc (Nat.le_refl _) _
  have h7 := h6.step hA
  have hF7 := hF6.trans (FarC.below (b := b) (ch := ch) hA)
  have hR : RepBlk (w6.alloc (.cells #[.int .i64 r.err, .string r.val, .int .i64 r.num] 26)) w6.heap.size r := heap_alloc_new w6 _
  have HX := Lib.hid (And.intro h7 hF7)
  have c8 : w6.cell? ⟨b, 13, none⟩ = some (.int .i64 v.num) := h6.cell 13
  have hb7 : b < w6.heap.size := h6.blt
  clear h6 hF6 hA h7 hF7 hR
  have HZ := Lib.hid (ans_op HX.out.1 r HK.out.1 HK.out.2.1 HK.out.2.2)
  unfold RepV.agg at HZ
  go_wp2_with fail
  refine HZ.out.mono ?_
  rintro e w8 ⟨rfl, h8, hF8⟩
  have HY := Lib.hid (And.intro h8 (HX.out.2.trans hF8))
  clear h8 hF8 HX HZ
  go_wp2_with fail
  go_ret
  exact ⟨rfl, HY.out⟩

set_option maxRecDepth 20000 in
set_option maxHeartbeats 2000000 in
theorem take_op_s (h : Cli w0 W B b gn ch cap v []) (ho : v.opn = true) (fr : Int) (d : ByteArray) (l : Int) (r : RepV) (ht : ∀ W, Calls Try.prog 27 #[.string d] W fun e w' => e = .returned (.tuple #[.int .i64 v.num, .int .i64 l, r.agg, .int .i64 0]) ∧ Below W.heap.size W w') (he : r.err ≠ 21 ∧ r.err ≠ 22 ∧ r.err ≠ 10) (hk : v.qu.kd ≠ 5) (hk4 : v.qu.kd ≠ 4) (h24 : r.err = 24) : Calls Try.prog 39 #[.pointer (some ⟨b, 0, none⟩), .agg #[.int .i64 fr, .int .i64 v.id, .string d]] W fun e w' => e = .returned (.slice none 0 0) ∧ Cli w0 w' B b gn ch cap { v with opn := false, asked := false, sq := v.qu.sq, ss := 0 } [((v.number : Int), r)] ∧ FarC W w' b ch := by
  have hrk : r.agg = .agg #[.int .i64 r.err, .string r.val, .int .i64 r.num] := rfl
  rw [hrk] at ht
  clear hrk
  have HH := Lib.hid h
  have hP : OnePk (W.alloc (.cells #[.int .i64 fr, .int .i64 v.id, .string d] 65)) W.heap.size fr v.id d := heap_alloc_new W _
  have hF := FarC.below (b := b) (ch := ch) ((Below.refl W.heap.size W).alloc (Nat.le_refl _) (.cells #[.int .i64 fr, .int .i64 v.id, .string d] 65))
  have hH := h.step ((Below.refl W.heap.size W).alloc (Nat.le_refl _) (.cells #[.int .i64 fr, .int .i64 v.id, .string d] 65))
  have HP := Lib.hid hP
  have HF := Lib.hid hF
  have HH := Lib.hid hH
  clear h hP hF hH
  have HO := Lib.hid ho
  have d1 : (r.err == 21) = false := by simpa using he.1
  have d2 : (r.err == 22) = false := by simpa using he.2.1
  have d3 : (r.err == 10) = false := by simpa using he.2.2
  clear he
  have HK := Lib.hid (And.intro hk (And.intro hk4 h24))
  clear hk hk4 h24
  clear ho
  go_enter Try.func39, Try.ntmps39
  go_wp2_with fail
  generalize hg : W.heap.size = g at HP ⊢
  generalize W.alloc (.cells #[.int .i64 fr, .int .i64 v.id, .string d] 65) = W1 at HP HF HH ⊢
  clear hg
  have hq : ∀ p : SinceW W1.heap.size W1, Cli w0 p.w B b gn ch cap v [] ∧ OnePk p.w g fr v.id d := fun p => ⟨HH.out.step p.h, (p.h.block g (blk_lt HP.out)).trans HP.out⟩
  have a0 : ∀ p : SinceW W1.heap.size W1, p.w.cell? ⟨b, 0, none⟩ = some (.int .i64 v.id) := fun p => (hq p).1.cell 0
  have a14 : ∀ p : SinceW W1.heap.size W1, p.w.cell? ⟨b, 14, none⟩ = some (.bool true) := fun p => by rw [(hq p).1.cell 14]; show some (Value.bool v.opn) = _; rw [HO.out]
  have a1 : ∀ p : SinceW W1.heap.size W1, p.w.cell? ⟨g, 1, none⟩ = some (.int .i64 v.id) := fun p => blk_cell (hq p).2 1
  have HN := Lib.hid (fun p : SinceW W1.heap.size W1 => none_yes (hq p).1)
  have dd : (v.id != v.id) = false := by simp
  clear hq
  refine wp_region_since (B := W1.heap.size) (W0 := W1) (by kernel_rfl) (by kernel_rfl) (Below.refl _ _) ?_
  repeat (go_big_quiet_step ((go_at_call 73; exact since_same (HN.out _))))
  refine wpQuiet_nil ?_
  intro w5 hw'
  have hv5 : Below W1.heap.size W1 w5 := by obtain ⟨p, rfl⟩ := hw'; exact p.h
  clear hw' a0 a14 a1 HN dd
  have h5 := HH.out.step hv5
  have hP5 : OnePk w5 g fr v.id d := (hv5.block g (blk_lt HP.out)).trans HP.out
  have hF5 := HF.out.trans (FarC.below (b := b) (ch := ch) hv5)
  clear HH HP HF hv5
  have HT := Lib.hid ht
  clear ht
  have x2 : w5.cell? ⟨g, 2, none⟩ = some (.string d) := blk_cell hP5 2
  have HX := Lib.hid (And.intro h5 hF5)
  have hlt : b < w5.heap.size := h5.blt
  clear h5 hP5 hF5
  go_wp2_with fail
  refine (HT.out _).mono ?_
  rintro e w6 ⟨rfl, hb6⟩
  have h6 := HX.out.1.step hb6
  have hF6 := HX.out.2.trans (FarC.below (b := b) (ch := ch) hb6)
  clear HX HT x2 hb6 hlt
  have hA : Below w6.heap.size w6 (w6.alloc (.cells #[.int .i64 r.err, .string r.val, .int .i64 r.num] 26)) := (Below.refl _ _).alloc (Nat.le_refl _) _
  have h7 := h6.step hA
  have hF7 := hF6.trans (FarC.below (b := b) (ch := ch) hA)
  have hR : RepBlk (w6.alloc (.cells #[.int .i64 r.err, .string r.val, .int .i64 r.num] 26)) w6.heap.size r := heap_alloc_new w6 _
  have HX := Lib.hid (And.intro h7 hF7)
  have c8 : w6.cell? ⟨b, 13, none⟩ = some (.int .i64 v.num) := h6.cell 13
  have hb7 : b < w6.heap.size := h6.blt
  clear h6 hF6 hA h7 hF7 hR
  have HZ := Lib.hid (ans_op_s HX.out.1 r HK.out.1 HK.out.2.1 HK.out.2.2)
  unfold RepV.agg at HZ
  go_wp2_with fail
  refine HZ.out.mono ?_
  rintro e w8 ⟨rfl, h8, hF8⟩
  have HY := Lib.hid (And.intro h8 (HX.out.2.trans hF8))
  clear h8 hF8 HX HZ
  go_wp2_with fail
  go_ret
  exact ⟨rfl, HY.out⟩

end
/-! ### The walk of a client's Result. -/
section
open Go.Conc Go.RowKit
set_option linter.unusedVariables false
theorem result_nil {w : World} {p : Option Addr} (h : NoCli w p) : Calls Try.prog 42 #[.pointer p] w fun e w' => e = .returned (.tuple #[.int .i64 0, .agg #[.int .i64 0, .string ⟨#[]⟩, .int .i64 0], .bool false]) ∧ Below w.heap.size w w' := by
  have hA : Below w.heap.size w (w.alloc (.cells #[.int .i64 0, .string ⟨#[]⟩, .int .i64 0] 26)) := (Below.refl _ _).alloc (Nat.le_refl _) _
  have HN := Lib.hid (none_no (h.below hA))
  have HA := Lib.hid hA
  have hR : RepBlk (w.alloc (.cells #[.int .i64 0, .string ⟨#[]⟩, .int .i64 0] 26)) w.heap.size rep0 := heap_alloc_new w _
  obtain ⟨⟨x0, x1, x2⟩, xf⟩ := hR.facts
  dsimp only [rep0] at x0 x1 x2
  have xf0 := xf 0
  have xf1 := xf 1
  have xf2 := xf 2
  clear h hA hR xf
  go_enter Try.func42, Try.ntmps42
  go_wp2_with fail
  refine HN.out.mono ?_
  rintro e w1 ⟨rfl, rfl⟩
  go_wp2_with fail
  refine bodyPost_ret (v := .tuple #[.int .i64 0, .agg #[.int .i64 0, .string ⟨#[]⟩, .int .i64 0], .bool false]) (by simp (maxDischargeDepth := 10) [results, Try.results42, go_sem, x0, x1, x2]; try rfl) rfl ⟨rfl, ?_⟩
  exact (by ((repeat (with_reducible (first | exact HA.out | refine Below.setCell ?_ ?_ _ | refine Below.drew ?_ | refine below_drewN ?_ _))); all_goals (first | exact Nat.le_refl _ | (simp <;> omega))))
variable {w0 W : World} {B b gn ch cap : Nat} {v : CliV} {q : List (Int × RepV)}
theorem Cli.far {W' : World} {g : Nat} (h : Cli w0 W B b gn ch cap v q) (hg : W.grownBy W' (some g)) (h1 : g ≠ b) (h2 : g ≠ gn) (h3 : g ≠ ch) (hB : Below B w0 W') : Cli w0 W' B b gn ch cap v q where
  blk := (hg.block b h.blt (fun e => h1 (by injection e with e; exact e.symm))).trans h.blk
  nds := fun i n hi => by
    have hk := hg.block gn h.gnlt (fun e => h2 (by injection e with e; exact e.symm))
    have hc := h.nds i n hi
    unfold World.cell? at hc ⊢
    simp only [hk]
    exact hc
  nfr := fun i => by
    have hk := hg.block gn h.gnlt (fun e => h2 (by injection e with e; exact e.symm))
    have hc := h.nfr i
    unfold World.frozen? at hc ⊢
    simp only [hk]
    exact hc
  gnlt := Nat.lt_of_lt_of_le h.gnlt hg.size
  ne := h.ne
  nech := h.nech
  chn := by
    obtain ⟨s, r, hc⟩ := h.chn
    exact ⟨s, r, (hg.block ch h.chlt (fun e => h3 (by injection e with e; exact e.symm))).trans hc⟩
  below := hB
  hb := h.hb
  hgn := h.hgn
  hch := h.hch
  pos := h.pos
  few := h.few
  curlt := h.curlt
theorem FarC.newer {W W2 W3 : World} {b ch g : Nat} (h : FarC W W2 b ch) (hg : W2.grownBy W3 (some g)) (hgz : W.heap.size ≤ g) : FarC W W3 b ch :=
  ⟨Nat.le_trans h.1 hg.size, fun k hk h1 h2 => (hg.block k (Nat.lt_of_lt_of_le hk h.1) (fun e => by injection e; omega)).trans (h.2 k hk h1 h2)⟩
set_option maxRecDepth 20000 in
set_option maxHeartbeats 2000000 in
theorem result_none (h : Cli w0 W B b gn ch cap v []) : Calls Try.prog 42 #[.pointer (some ⟨b, 0, none⟩)] W fun e w' => e = .returned (.tuple #[.int .i64 0, .agg #[.int .i64 0, .string ⟨#[]⟩, .int .i64 0], .bool false]) ∧ Cli w0 w' B b gn ch cap v [] ∧ FarC W w' b ch := by
  have hA : Below W.heap.size W (W.alloc (.cells #[.int .i64 0, .string ⟨#[]⟩, .int .i64 0] 26)) := (Below.refl _ _).alloc (Nat.le_refl _) _
  have HN := Lib.hid (none_yes (h.step hA))
  have hR : RepBlk (W.alloc (.cells #[.int .i64 0, .string ⟨#[]⟩, .int .i64 0] 26)) W.heap.size rep0 := heap_alloc_new W _
  have h1 := h.step hA
  have c23 : (W.alloc (.cells #[.int .i64 0, .string ⟨#[]⟩, .int .i64 0] 26)).cell? ⟨b, 23, none⟩ = some (.chan (some ch)) := h1.cell 23
  obtain ⟨s, r0, hc⟩ := h1.chn
  have HC := Lib.hid hc
  obtain ⟨⟨x0, x1, x2⟩, xf⟩ := hR.facts
  dsimp only [rep0] at x0 x1 x2
  have xf0 := xf 0
  have xf1 := xf 1
  have xf2 := xf 2
  have HA := Lib.hid hA
  have HX := Lib.hid (And.intro h1 (FarC.below (b := b) (ch := ch) hA))
  have hlt := h.blt
  have c23' : W.cell? ⟨b, 23, none⟩ = some (.chan (some ch)) := h.cell 23
  clear h hA hR xf h1 hc
  go_enter Try.func42, Try.ntmps42
  go_wp2_with fail
  refine HN.out.mono ?_
  rintro e w1 ⟨rfl, rfl⟩
  go_upto_region 4 with fail
  refine wp_region_recv_none (c := ch) (z := .agg #[.int .i64 0, .int .i64 0, .string ⟨#[]⟩, .int .i64 0]) rfl (by simp [go_sem, execOp, rcase, Act.eval]) HC.out ?_
  go_wp2_with fail
  refine bodyPost_ret (v := .tuple #[.int .i64 0, .agg #[.int .i64 0, .string ⟨#[]⟩, .int .i64 0], .bool false]) (by simp (maxDischargeDepth := 10) [results, Try.results42, go_sem, x0, x1, x2]; try rfl) rfl ⟨rfl, ?_⟩
  exact HX.out
set_option maxRecDepth 20000 in
set_option maxHeartbeats 2000000 in
theorem result_some {n er nm : Int} {vl : ByteArray} (h : Cli w0 W B b gn ch cap v [(n, ⟨er, nm, vl⟩)]) : Calls Try.prog 42 #[.pointer (some ⟨b, 0, none⟩)] W fun e w' => e = .returned (.tuple #[.int .i64 n, .agg #[.int .i64 er, .string vl, .int .i64 nm], .bool true]) ∧ Cli w0 w' B b gn ch cap v [] ∧ FarC W w' b ch := by
  have hA : Below W.heap.size W (W.alloc (.cells #[.int .i64 0, .string ⟨#[]⟩, .int .i64 0] 26)) := (Below.refl _ _).alloc (Nat.le_refl _) _
  have HN := Lib.hid (none_yes (h.step hA))
  have hR : RepBlk (W.alloc (.cells #[.int .i64 0, .string ⟨#[]⟩, .int .i64 0] 26)) W.heap.size rep0 := heap_alloc_new W _
  have h1 := h.step hA
  obtain ⟨s, r0, hc⟩ := h1.chn
  have HC := Lib.hid hc
  have HR := Lib.hid hR
  have HX := Lib.hid (And.intro h1 (FarC.below (b := b) (ch := ch) hA))
  have hlt := h.blt
  have hch := h.chlt
  have hgnl := h.gnlt
  have c23' : W.cell? ⟨b, 23, none⟩ = some (.chan (some ch)) := h.cell 23
  clear h hA hR h1 hc
  go_enter Try.func42, Try.ntmps42
  go_wp2_with fail
  refine HN.out.mono ?_
  rintro e w1 ⟨rfl, rfl⟩
  go_upto_region 4 with fail
  refine wp_region_recv (c := ch) (z := .agg #[.int .i64 0, .int .i64 0, .string ⟨#[]⟩, .int .i64 0]) rfl (by simp [go_sem, execOp, rcase, Act.eval]) HC.out (by simp) ?_
  rw [show (List.map resAgg [(n, RepV.mk er nm vl)]).toArray.getD 0 undef = .agg #[.int .i64 n, .int .i64 er, .string vl, .int .i64 nm] from rfl]
  generalize hW : World.setChan _ _ _ _ _ _ _ _ = W2
  have h2 : Cli w0 W2 B b gn ch cap v [] := by rw [← hW]; simpa using HX.out.1.chan [] s (r0 + 1)
  have hF2 : FarC W W2 b ch := by rw [← hW]; exact HX.out.2.trans (FarC.chan _ _ _ _ _ _ _)
  have hR2 : RepBlk W2 W.heap.size rep0 := by rw [← hW]; exact (setChan_other _ _ _ _ _ _ _ _ _ (by omega)).trans HR.out
  have hz : W.heap.size ≤ W.heap.size := Nat.le_refl _
  generalize hg : W.heap.size = g at hlt hch hgnl hR2 hz ⊢
  have hzF := hF2.1
  rw [hg] at hzF
  obtain ⟨⟨x0, x1, x2⟩, xf⟩ := hR2.facts
  dsimp only [rep0] at x0 x1 x2
  have xf0 := xf 0
  have xf1 := xf 1
  have xf2 := xf 2
  have hg2 : g < W2.heap.size := blk_lt hR2
  have HR2 := Lib.hid hR2
  have HBg : Hid (B ≤ g) := Lib.hid (Nat.le_trans h2.hb (Nat.le_of_lt hlt))
  have HGN : Hid (gn < g) := Lib.hid hgnl
  have HX := Lib.hid (And.intro h2 hF2)
  have HG := Lib.hid hg
  clear hW h2 hF2 hR2 xf HC HR HN c23' hg hgnl
  go_wp2_with fail
  go_region
  all_goals
    go_wp2_with fail
    generalize hW3 : World.drew _ = W3
    have hg3 : W2.grownBy W3 (some g) := by rw [← hW3]; exact g_drew (g_alloc (g_set (g_set (g_set (grown_refl _ _)))))
    have hR3 : RepBlk W3 g ⟨er, nm, vl⟩ := by rw [← hW3]; exact at_drew (old_at _ _ _ _ (blk_set (blk_set (blk_set HR2.out 0 _) 1 _) 2 _))
    have hB3 : Below B w0 W3 := by
      rw [← hW3]
      have hq1 := HX.out.1.size
      exact (((((HX.out.1.below.setCell (by have := HBg.out; simpa using this) _).setCell (by have := HBg.out; simpa using this) _).setCell (by have := HBg.out; simpa using this) _).alloc (by simp; omega) _).drew)
    have HX3 := Lib.hid (And.intro (HX.out.1.far hg3 (by omega) (by have := HGN.out; omega) (by omega) hB3) (HX.out.2.newer hg3 (by have := HG.out; omega)))
    obtain ⟨⟨y0, y1, y2⟩, -⟩ := hR3.facts
    dsimp only at y0 y1 y2
    clear hW3 hg3 hR3 hB3 x0 x1 x2 xf0 xf1 xf2
    refine bodyPost_ret (v := .tuple #[.int .i64 n, .agg #[.int .i64 er, .string vl, .int .i64 nm], .bool true]) (by simp (maxDischargeDepth := 10) [results, Try.results42, go_sem, y0, y1, y2]; try rfl) rfl ⟨rfl, ?_⟩
    exact HX3.out
end
end Go.Proofs.Ytfogoebflfkknaa
