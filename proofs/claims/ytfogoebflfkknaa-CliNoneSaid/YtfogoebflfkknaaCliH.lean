/- The walk of a client's answered (printed by wip/gen_clih.py). -/
import Derived.Test.YtfogoebflfkknaaCliG
import Derived.Deep.QuietTactic
import Derived.BigQuiet
namespace Go.Proofs.Ytfogoebflfkknaa
open Go.Conc Go.RowKit
set_option linter.unusedVariables false
variable {w0 W : World} {B b gn ch cap : Nat} {v : CliV} {q : List (Int × RepV)}

set_option maxRecDepth 20000 in
set_option maxHeartbeats 2000000 in
theorem ans_reg_ok (h : Cli w0 W B b gn ch cap v q) (r : RepV) (hk : v.qu.kd = 5) (he : r.err = 0) : Calls Try.prog 80 #[.pointer (some ⟨b, 0, none⟩), r.agg] W fun e w' => e = .returned (.tuple #[]) ∧ Cli w0 w' B b gn ch cap { v with opn := false, ss := r.num, sq := 0 } q ∧ FarC W w' b ch := by
  have HH := Lib.hid h
  have c3 : W.cell? ⟨b, 3, none⟩ = some (.int .i64 v.ss) := h.cell 3
  have c4 : W.cell? ⟨b, 4, none⟩ = some (.int .i64 v.sq) := h.cell 4
  have c5 : W.cell? ⟨b, 5, none⟩ = some (.int .i64 v.number) := h.cell 5
  have c6 : W.cell? ⟨b, 6, none⟩ = some (.bool v.asked) := h.cell 6
  have c14 : W.cell? ⟨b, 14, none⟩ = some (.bool v.opn) := h.cell 14
  have c15 : W.cell? ⟨b, 15, none⟩ = some (.int .i64 v.qu.kd) := h.cell 15
  have c17 : W.cell? ⟨b, 17, none⟩ = some (.int .i64 v.qu.sq) := h.cell 17
  have c23 : W.cell? ⟨b, 23, none⟩ = some (.chan (some ch)) := h.cell 23
  have fr := h.fr
  have hlt := h.blt
  have hrk : r.agg = .agg #[.int .i64 r.err, .string r.val, .int .i64 r.num] := rfl
  rw [hrk]
  have d0 : (v.qu.kd == 5) = true := by simpa using hk
  have d1 : (r.err == 0) = true := by simpa using he
  clear h hk hrk he
  go_enter Try.func80, Try.ntmps80
  go_wp2_with fail
  first | go_end0 | refine bodyPost_ret (results_none rfl _ _ _) rfl ?_
  refine ⟨rfl, ?_⟩
  refine HH.out.upd2 _ (by ((repeat (with_reducible (first | exact HH.out.blk | apply blk_set | refine at_far ?_ (by simp; omega) | apply old_at | apply at_drew | apply at_drewN))))) (by ((repeat (with_reducible (first | exact grown_refl _ _ | refine g_set ?_ | refine g_new ?_ (by simp) | refine g_alloc ?_ | refine g_drew ?_ | refine g_drewN ?_))))) (by ((repeat (with_reducible (first | exact HH.out.below | refine Below.setCell ?_ ?_ _ | refine Below.drew ?_ | refine below_drewN ?_ _ | refine Below.alloc ?_ ?_ _))); all_goals (have hq1 := HH.out.hb; have hq2 := HH.out.size; simp <;> omega))) (by simp [cliCells]) rfl HH.out.curlt

set_option maxRecDepth 20000 in
set_option maxHeartbeats 2000000 in
theorem ans_reg_no (h : Cli w0 W B b gn ch cap v q) (r : RepV) (hk : v.qu.kd = 5) (he : r.err ≠ 0) : Calls Try.prog 80 #[.pointer (some ⟨b, 0, none⟩), r.agg] W fun e w' => e = .returned (.tuple #[]) ∧ Cli w0 w' B b gn ch cap { v with opn := false } q ∧ FarC W w' b ch := by
  have HH := Lib.hid h
  have c3 : W.cell? ⟨b, 3, none⟩ = some (.int .i64 v.ss) := h.cell 3
  have c4 : W.cell? ⟨b, 4, none⟩ = some (.int .i64 v.sq) := h.cell 4
  have c5 : W.cell? ⟨b, 5, none⟩ = some (.int .i64 v.number) := h.cell 5
  have c6 : W.cell? ⟨b, 6, none⟩ = some (.bool v.asked) := h.cell 6
  have c14 : W.cell? ⟨b, 14, none⟩ = some (.bool v.opn) := h.cell 14
  have c15 : W.cell? ⟨b, 15, none⟩ = some (.int .i64 v.qu.kd) := h.cell 15
  have c17 : W.cell? ⟨b, 17, none⟩ = some (.int .i64 v.qu.sq) := h.cell 17
  have c23 : W.cell? ⟨b, 23, none⟩ = some (.chan (some ch)) := h.cell 23
  have fr := h.fr
  have hlt := h.blt
  have hrk : r.agg = .agg #[.int .i64 r.err, .string r.val, .int .i64 r.num] := rfl
  rw [hrk]
  have d0 : (v.qu.kd == 5) = true := by simpa using hk
  have d1 : (r.err == 0) = false := by simpa using he
  clear h hk hrk he
  go_enter Try.func80, Try.ntmps80
  go_wp2_with fail
  first | go_end0 | refine bodyPost_ret (results_none rfl _ _ _) rfl ?_
  refine ⟨rfl, ?_⟩
  refine HH.out.upd2 _ (by ((repeat (with_reducible (first | exact HH.out.blk | apply blk_set | refine at_far ?_ (by simp; omega) | apply old_at | apply at_drew | apply at_drewN))))) (by ((repeat (with_reducible (first | exact grown_refl _ _ | refine g_set ?_ | refine g_new ?_ (by simp) | refine g_alloc ?_ | refine g_drew ?_ | refine g_drewN ?_))))) (by ((repeat (with_reducible (first | exact HH.out.below | refine Below.setCell ?_ ?_ _ | refine Below.drew ?_ | refine below_drewN ?_ _ | refine Below.alloc ?_ ?_ _))); all_goals (have hq1 := HH.out.hb; have hq2 := HH.out.size; simp <;> omega))) (by simp [cliCells]) rfl HH.out.curlt

set_option maxRecDepth 20000 in
set_option maxHeartbeats 2000000 in
theorem ans_get (h : Cli w0 W B b gn ch cap v []) (r : RepV) (hk : v.qu.kd ≠ 5) (hk4 : v.qu.kd = 4) (he : r.err ≠ 24) : Calls Try.prog 80 #[.pointer (some ⟨b, 0, none⟩), r.agg] W fun e w' => e = .returned (.tuple #[]) ∧ Cli w0 w' B b gn ch cap { v with opn := false, asked := false } [((v.number : Int), r)] ∧ FarC W w' b ch := by
  have HH := Lib.hid h
  have c3 : W.cell? ⟨b, 3, none⟩ = some (.int .i64 v.ss) := h.cell 3
  have c4 : W.cell? ⟨b, 4, none⟩ = some (.int .i64 v.sq) := h.cell 4
  have c5 : W.cell? ⟨b, 5, none⟩ = some (.int .i64 v.number) := h.cell 5
  have c6 : W.cell? ⟨b, 6, none⟩ = some (.bool v.asked) := h.cell 6
  have c14 : W.cell? ⟨b, 14, none⟩ = some (.bool v.opn) := h.cell 14
  have c15 : W.cell? ⟨b, 15, none⟩ = some (.int .i64 v.qu.kd) := h.cell 15
  have c17 : W.cell? ⟨b, 17, none⟩ = some (.int .i64 v.qu.sq) := h.cell 17
  have c23 : W.cell? ⟨b, 23, none⟩ = some (.chan (some ch)) := h.cell 23
  have fr := h.fr
  have hlt := h.blt
  have hrk : r.agg = .agg #[.int .i64 r.err, .string r.val, .int .i64 r.num] := rfl
  rw [hrk]
  have d0 : (v.qu.kd == 5) = false := by simpa using hk
  have d1 : (v.qu.kd != 4) = false := by simpa using hk4
  have d2 : (r.err == 24) = false := by simpa using he
  have hnc := h.nebc
  clear h hk hrk hk4 he
  go_enter Try.func80, Try.ntmps80
  go_wp2_with fail
  go_quiet (fail)
  go_upto_region 12 with fail
  have h1 : Cli w0 ((((W.setCell ⟨b, 14, none⟩ (.bool false)).setCell ⟨b, 6, none⟩ (.bool false)).alloc (.cells #[.int .i64 r.err, .string r.val, .int .i64 r.num] 26)).drewN nq) B b gn ch cap { v with opn := false, asked := false } [] ∧ FarC W ((((W.setCell ⟨b, 14, none⟩ (.bool false)).setCell ⟨b, 6, none⟩ (.bool false)).alloc (.cells #[.int .i64 r.err, .string r.val, .int .i64 r.num] 26)).drewN nq) b ch :=
    HH.out.upd2 _ (by ((repeat (with_reducible (first | exact HH.out.blk | apply blk_set | refine at_far ?_ (by simp; omega) | apply old_at | apply at_drew | apply at_drewN))))) (by ((repeat (with_reducible (first | exact grown_refl _ _ | refine g_set ?_ | refine g_new ?_ (by simp) | refine g_alloc ?_ | refine g_drew ?_ | refine g_drewN ?_))))) (by ((repeat (with_reducible (first | exact HH.out.below | refine Below.setCell ?_ ?_ _ | refine Below.drew ?_ | refine below_drewN ?_ _ | refine Below.alloc ?_ ?_ _))); all_goals (have hq1 := HH.out.hb; have hq2 := HH.out.size; simp <;> omega))) (by simp [cliCells]) rfl HH.out.curlt
  generalize ((((W.setCell ⟨b, 14, none⟩ (.bool false)).setCell ⟨b, 6, none⟩ (.bool false)).alloc (.cells #[.int .i64 r.err, .string r.val, .int .i64 r.num] 26)).drewN nq) = W1 at h1 ⊢
  have HH := Lib.hid h1
  obtain ⟨s, r0, hc⟩ := h1.1.chn
  clear c3 c4 c5 c6 c14 c15 c17 c23 fr hlt hnc h1
  refine wp_region_send (c := ch) (v := resAgg ((v.number : Int), r)) (z := .agg #[.int .i64 0, .int .i64 0, .string ⟨#[]⟩, .int .i64 0]) rfl (by simp [go_sem, execOp, scase, Act.eval, resAgg]) hc (by simp) ?_
  clear hc
  go_wp2_with fail
  first | go_end0 | refine bodyPost_ret (results_none rfl _ _ _) rfl ?_
  exact ⟨rfl, HH.out.1.chan [((v.number : Int), r)] (s + 1) r0, HH.out.2.trans (FarC.chan _ _ _ _ _ _ _)⟩

set_option maxRecDepth 20000 in
set_option maxHeartbeats 2000000 in
theorem ans_get_s (h : Cli w0 W B b gn ch cap v []) (r : RepV) (hk : v.qu.kd ≠ 5) (hk4 : v.qu.kd = 4) (he : r.err = 24) : Calls Try.prog 80 #[.pointer (some ⟨b, 0, none⟩), r.agg] W fun e w' => e = .returned (.tuple #[]) ∧ Cli w0 w' B b gn ch cap { v with opn := false, asked := false, ss := 0 } [((v.number : Int), r)] ∧ FarC W w' b ch := by
  have HH := Lib.hid h
  have c3 : W.cell? ⟨b, 3, none⟩ = some (.int .i64 v.ss) := h.cell 3
  have c4 : W.cell? ⟨b, 4, none⟩ = some (.int .i64 v.sq) := h.cell 4
  have c5 : W.cell? ⟨b, 5, none⟩ = some (.int .i64 v.number) := h.cell 5
  have c6 : W.cell? ⟨b, 6, none⟩ = some (.bool v.asked) := h.cell 6
  have c14 : W.cell? ⟨b, 14, none⟩ = some (.bool v.opn) := h.cell 14
  have c15 : W.cell? ⟨b, 15, none⟩ = some (.int .i64 v.qu.kd) := h.cell 15
  have c17 : W.cell? ⟨b, 17, none⟩ = some (.int .i64 v.qu.sq) := h.cell 17
  have c23 : W.cell? ⟨b, 23, none⟩ = some (.chan (some ch)) := h.cell 23
  have fr := h.fr
  have hlt := h.blt
  have hrk : r.agg = .agg #[.int .i64 r.err, .string r.val, .int .i64 r.num] := rfl
  rw [hrk]
  have d0 : (v.qu.kd == 5) = false := by simpa using hk
  have d1 : (v.qu.kd != 4) = false := by simpa using hk4
  have d2 : (r.err == 24) = true := by simpa using he
  have hnc := h.nebc
  clear h hk hrk hk4 he
  go_enter Try.func80, Try.ntmps80
  go_wp2_with fail
  go_quiet (fail)
  go_upto_region 12 with fail
  have h1 : Cli w0 (((((W.setCell ⟨b, 14, none⟩ (.bool false)).setCell ⟨b, 3, none⟩ (.int .i64 0)).setCell ⟨b, 6, none⟩ (.bool false)).alloc (.cells #[.int .i64 r.err, .string r.val, .int .i64 r.num] 26)).drewN nq) B b gn ch cap { v with opn := false, asked := false, ss := 0 } [] ∧ FarC W (((((W.setCell ⟨b, 14, none⟩ (.bool false)).setCell ⟨b, 3, none⟩ (.int .i64 0)).setCell ⟨b, 6, none⟩ (.bool false)).alloc (.cells #[.int .i64 r.err, .string r.val, .int .i64 r.num] 26)).drewN nq) b ch :=
    HH.out.upd2 _ (by ((repeat (with_reducible (first | exact HH.out.blk | apply blk_set | refine at_far ?_ (by simp; omega) | apply old_at | apply at_drew | apply at_drewN))))) (by ((repeat (with_reducible (first | exact grown_refl _ _ | refine g_set ?_ | refine g_new ?_ (by simp) | refine g_alloc ?_ | refine g_drew ?_ | refine g_drewN ?_))))) (by ((repeat (with_reducible (first | exact HH.out.below | refine Below.setCell ?_ ?_ _ | refine Below.drew ?_ | refine below_drewN ?_ _ | refine Below.alloc ?_ ?_ _))); all_goals (have hq1 := HH.out.hb; have hq2 := HH.out.size; simp <;> omega))) (by simp [cliCells]) rfl HH.out.curlt
  generalize (((((W.setCell ⟨b, 14, none⟩ (.bool false)).setCell ⟨b, 3, none⟩ (.int .i64 0)).setCell ⟨b, 6, none⟩ (.bool false)).alloc (.cells #[.int .i64 r.err, .string r.val, .int .i64 r.num] 26)).drewN nq) = W1 at h1 ⊢
  have HH := Lib.hid h1
  obtain ⟨s, r0, hc⟩ := h1.1.chn
  clear c3 c4 c5 c6 c14 c15 c17 c23 fr hlt hnc h1
  refine wp_region_send (c := ch) (v := resAgg ((v.number : Int), r)) (z := .agg #[.int .i64 0, .int .i64 0, .string ⟨#[]⟩, .int .i64 0]) rfl (by simp [go_sem, execOp, scase, Act.eval, resAgg]) hc (by simp) ?_
  clear hc
  go_wp2_with fail
  first | go_end0 | refine bodyPost_ret (results_none rfl _ _ _) rfl ?_
  exact ⟨rfl, HH.out.1.chan [((v.number : Int), r)] (s + 1) r0, HH.out.2.trans (FarC.chan _ _ _ _ _ _ _)⟩

set_option maxRecDepth 20000 in
set_option maxHeartbeats 2000000 in
theorem ans_op (h : Cli w0 W B b gn ch cap v []) (r : RepV) (hk : v.qu.kd ≠ 5) (hk4 : v.qu.kd ≠ 4) (he : r.err ≠ 24) : Calls Try.prog 80 #[.pointer (some ⟨b, 0, none⟩), r.agg] W fun e w' => e = .returned (.tuple #[]) ∧ Cli w0 w' B b gn ch cap { v with opn := false, asked := false, sq := v.qu.sq } [((v.number : Int), r)] ∧ FarC W w' b ch := by
  have HH := Lib.hid h
  have c3 : W.cell? ⟨b, 3, none⟩ = some (.int .i64 v.ss) := h.cell 3
  have c4 : W.cell? ⟨b, 4, none⟩ = some (.int .i64 v.sq) := h.cell 4
  have c5 : W.cell? ⟨b, 5, none⟩ = some (.int .i64 v.number) := h.cell 5
  have c6 : W.cell? ⟨b, 6, none⟩ = some (.bool v.asked) := h.cell 6
  have c14 : W.cell? ⟨b, 14, none⟩ = some (.bool v.opn) := h.cell 14
  have c15 : W.cell? ⟨b, 15, none⟩ = some (.int .i64 v.qu.kd) := h.cell 15
  have c17 : W.cell? ⟨b, 17, none⟩ = some (.int .i64 v.qu.sq) := h.cell 17
  have c23 : W.cell? ⟨b, 23, none⟩ = some (.chan (some ch)) := h.cell 23
  have fr := h.fr
  have hlt := h.blt
  have hrk : r.agg = .agg #[.int .i64 r.err, .string r.val, .int .i64 r.num] := rfl
  rw [hrk]
  have d0 : (v.qu.kd == 5) = false := by simpa using hk
  have d1 : (v.qu.kd != 4) = true := by simpa using hk4
  have d2 : (r.err == 24) = false := by simpa using he
  have hnc := h.nebc
  clear h hk hrk hk4 he
  go_enter Try.func80, Try.ntmps80
  go_wp2_with fail
  go_quiet (fail)
  go_upto_region 12 with fail
  have h1 : Cli w0 (((((W.setCell ⟨b, 14, none⟩ (.bool false)).setCell ⟨b, 4, none⟩ (.int .i64 v.qu.sq)).setCell ⟨b, 6, none⟩ (.bool false)).alloc (.cells #[.int .i64 r.err, .string r.val, .int .i64 r.num] 26)).drewN nq) B b gn ch cap { v with opn := false, asked := false, sq := v.qu.sq } [] ∧ FarC W (((((W.setCell ⟨b, 14, none⟩ (.bool false)).setCell ⟨b, 4, none⟩ (.int .i64 v.qu.sq)).setCell ⟨b, 6, none⟩ (.bool false)).alloc (.cells #[.int .i64 r.err, .string r.val, .int .i64 r.num] 26)).drewN nq) b ch :=
    HH.out.upd2 _ (by ((repeat (with_reducible (first | exact HH.out.blk | apply blk_set | refine at_far ?_ (by simp; omega) | apply old_at | apply at_drew | apply at_drewN))))) (by ((repeat (with_reducible (first | exact grown_refl _ _ | refine g_set ?_ | refine g_new ?_ (by simp) | refine g_alloc ?_ | refine g_drew ?_ | refine g_drewN ?_))))) (by ((repeat (with_reducible (first | exact HH.out.below | refine Below.setCell ?_ ?_ _ | refine Below.drew ?_ | refine below_drewN ?_ _ | refine Below.alloc ?_ ?_ _))); all_goals (have hq1 := HH.out.hb; have hq2 := HH.out.size; simp <;> omega))) (by simp [cliCells]) rfl HH.out.curlt
  generalize (((((W.setCell ⟨b, 14, none⟩ (.bool false)).setCell ⟨b, 4, none⟩ (.int .i64 v.qu.sq)).setCell ⟨b, 6, none⟩ (.bool false)).alloc (.cells #[.int .i64 r.err, .string r.val, .int .i64 r.num] 26)).drewN nq) = W1 at h1 ⊢
  have HH := Lib.hid h1
  obtain ⟨s, r0, hc⟩ := h1.1.chn
  clear c3 c4 c5 c6 c14 c15 c17 c23 fr hlt hnc h1
  refine wp_region_send (c := ch) (v := resAgg ((v.number : Int), r)) (z := .agg #[.int .i64 0, .int .i64 0, .string ⟨#[]⟩, .int .i64 0]) rfl (by simp [go_sem, execOp, scase, Act.eval, resAgg]) hc (by simp) ?_
  clear hc
  go_wp2_with fail
  first | go_end0 | refine bodyPost_ret (results_none rfl _ _ _) rfl ?_
  exact ⟨rfl, HH.out.1.chan [((v.number : Int), r)] (s + 1) r0, HH.out.2.trans (FarC.chan _ _ _ _ _ _ _)⟩

set_option maxRecDepth 20000 in
set_option maxHeartbeats 2000000 in
theorem ans_op_s (h : Cli w0 W B b gn ch cap v []) (r : RepV) (hk : v.qu.kd ≠ 5) (hk4 : v.qu.kd ≠ 4) (he : r.err = 24) : Calls Try.prog 80 #[.pointer (some ⟨b, 0, none⟩), r.agg] W fun e w' => e = .returned (.tuple #[]) ∧ Cli w0 w' B b gn ch cap { v with opn := false, asked := false, sq := v.qu.sq, ss := 0 } [((v.number : Int), r)] ∧ FarC W w' b ch := by
  have HH := Lib.hid h
  have c3 : W.cell? ⟨b, 3, none⟩ = some (.int .i64 v.ss) := h.cell 3
  have c4 : W.cell? ⟨b, 4, none⟩ = some (.int .i64 v.sq) := h.cell 4
  have c5 : W.cell? ⟨b, 5, none⟩ = some (.int .i64 v.number) := h.cell 5
  have c6 : W.cell? ⟨b, 6, none⟩ = some (.bool v.asked) := h.cell 6
  have c14 : W.cell? ⟨b, 14, none⟩ = some (.bool v.opn) := h.cell 14
  have c15 : W.cell? ⟨b, 15, none⟩ = some (.int .i64 v.qu.kd) := h.cell 15
  have c17 : W.cell? ⟨b, 17, none⟩ = some (.int .i64 v.qu.sq) := h.cell 17
  have c23 : W.cell? ⟨b, 23, none⟩ = some (.chan (some ch)) := h.cell 23
  have fr := h.fr
  have hlt := h.blt
  have hrk : r.agg = .agg #[.int .i64 r.err, .string r.val, .int .i64 r.num] := rfl
  rw [hrk]
  have d0 : (v.qu.kd == 5) = false := by simpa using hk
  have d1 : (v.qu.kd != 4) = true := by simpa using hk4
  have d2 : (r.err == 24) = true := by simpa using he
  have hnc := h.nebc
  clear h hk hrk hk4 he
  go_enter Try.func80, Try.ntmps80
  go_wp2_with fail
  go_quiet (fail)
  go_upto_region 12 with fail
  have h1 : Cli w0 ((((((W.setCell ⟨b, 14, none⟩ (.bool false)).setCell ⟨b, 4, none⟩ (.int .i64 v.qu.sq)).setCell ⟨b, 3, none⟩ (.int .i64 0)).setCell ⟨b, 6, none⟩ (.bool false)).alloc (.cells #[.int .i64 r.err, .string r.val, .int .i64 r.num] 26)).drewN nq) B b gn ch cap { v with opn := false, asked := false, sq := v.qu.sq, ss := 0 } [] ∧ FarC W ((((((W.setCell ⟨b, 14, none⟩ (.bool false)).setCell ⟨b, 4, none⟩ (.int .i64 v.qu.sq)).setCell ⟨b, 3, none⟩ (.int .i64 0)).setCell ⟨b, 6, none⟩ (.bool false)).alloc (.cells #[.int .i64 r.err, .string r.val, .int .i64 r.num] 26)).drewN nq) b ch :=
    HH.out.upd2 _ (by ((repeat (with_reducible (first | exact HH.out.blk | apply blk_set | refine at_far ?_ (by simp; omega) | apply old_at | apply at_drew | apply at_drewN))))) (by ((repeat (with_reducible (first | exact grown_refl _ _ | refine g_set ?_ | refine g_new ?_ (by simp) | refine g_alloc ?_ | refine g_drew ?_ | refine g_drewN ?_))))) (by ((repeat (with_reducible (first | exact HH.out.below | refine Below.setCell ?_ ?_ _ | refine Below.drew ?_ | refine below_drewN ?_ _ | refine Below.alloc ?_ ?_ _))); all_goals (have hq1 := HH.out.hb; have hq2 := HH.out.size; simp <;> omega))) (by simp [cliCells]) rfl HH.out.curlt
  generalize ((((((W.setCell ⟨b, 14, none⟩ (.bool false)).setCell ⟨b, 4, none⟩ (.int .i64 v.qu.sq)).setCell ⟨b, 3, none⟩ (.int .i64 0)).setCell ⟨b, 6, none⟩ (.bool false)).alloc (.cells #[.int .i64 r.err, .string r.val, .int .i64 r.num] 26)).drewN nq) = W1 at h1 ⊢
  have HH := Lib.hid h1
  obtain ⟨s, r0, hc⟩ := h1.1.chn
  clear c3 c4 c5 c6 c14 c15 c17 c23 fr hlt hnc h1
  refine wp_region_send (c := ch) (v := resAgg ((v.number : Int), r)) (z := .agg #[.int .i64 0, .int .i64 0, .string ⟨#[]⟩, .int .i64 0]) rfl (by simp [go_sem, execOp, scase, Act.eval, resAgg]) hc (by simp) ?_
  clear hc
  go_wp2_with fail
  first | go_end0 | refine bodyPost_ret (results_none rfl _ _ _) rfl ?_
  exact ⟨rfl, HH.out.1.chan [((v.number : Int), r)] (s + 1) r0, HH.out.2.trans (FarC.chan _ _ _ _ _ _ _)⟩

end Go.Proofs.Ytfogoebflfkknaa
