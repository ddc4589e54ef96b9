/- The walk of a client's ask: it makes a question (printed by wip/gen_clid.py). -/
import Derived.Test.YtfogoebflfkknaaCliC
namespace Go.Proofs.Ytfogoebflfkknaa
open Go.Conc Go.RowKit
set_option linter.unusedVariables false
variable {w0 W : World} {B b gn ch cap : Nat} {v : CliV} {q : List (Int × RepV)}
/-- The question that a client makes of what is asked. -/
def askQ (v : CliV) : OpV := if v.op.kd = 4 then v.op else if v.ss = 0 then ⟨5, 0, v.id, ⟨#[]⟩, ⟨#[]⟩, ⟨#[]⟩⟩ else ⟨v.op.kd, v.ss, v.sq + 1, v.op.key, v.op.val, v.op.old⟩
def askV (v : CliV) : CliV := { v with num := v.num + 1, opn := true, qu := askQ v }
set_option maxRecDepth 20000 in
set_option maxHeartbeats 2000000 in
theorem mkask_any (h : Cli w0 W B b gn ch cap v q) (hnum : v.num ≤ 1000000) (hsq : 0 ≤ v.sq ∧ v.sq ≤ 1000000) : Calls Try.prog 75 #[.pointer (some ⟨b, 0, none⟩)] W fun e w' => e = .returned (.tuple #[]) ∧ Cli w0 w' B b gn ch cap (askV v) q ∧ FarC W w' b ch := by
  have HH := Lib.hid h
  have c0 : W.cell? ⟨b, 0, none⟩ = some (.int .i64 v.id) := h.cell 0
  have c3 : W.cell? ⟨b, 3, none⟩ = some (.int .i64 v.ss) := h.cell 3
  have c4 : W.cell? ⟨b, 4, none⟩ = some (.int .i64 v.sq) := h.cell 4
  have c7 : W.cell? ⟨b, 7, none⟩ = some (.int .i64 v.op.kd) := h.cell 7
  have c8 : W.cell? ⟨b, 8, none⟩ = some (.int .i64 v.op.ss) := h.cell 8
  have c9 : W.cell? ⟨b, 9, none⟩ = some (.int .i64 v.op.sq) := h.cell 9
  have c10 : W.cell? ⟨b, 10, none⟩ = some (.string v.op.key) := h.cell 10
  have c11 : W.cell? ⟨b, 11, none⟩ = some (.string v.op.val) := h.cell 11
  have c12 : W.cell? ⟨b, 12, none⟩ = some (.string v.op.old) := h.cell 12
  have c13 : W.cell? ⟨b, 13, none⟩ = some (.int .i64 v.num) := h.cell 13
  have c14 : W.cell? ⟨b, 14, none⟩ = some (.bool v.opn) := h.cell 14
  have c15 : W.cell? ⟨b, 15, none⟩ = some (.int .i64 v.qu.kd) := h.cell 15
  have c16 : W.cell? ⟨b, 16, none⟩ = some (.int .i64 v.qu.ss) := h.cell 16
  have c17 : W.cell? ⟨b, 17, none⟩ = some (.int .i64 v.qu.sq) := h.cell 17
  have c18 : W.cell? ⟨b, 18, none⟩ = some (.string v.qu.key) := h.cell 18
  have c19 : W.cell? ⟨b, 19, none⟩ = some (.string v.qu.val) := h.cell 19
  have c20 : W.cell? ⟨b, 20, none⟩ = some (.string v.qu.old) := h.cell 20
  have fr := h.fr
  have hlt := h.blt
  by_cases hk : v.op.kd = 4
  · have d1 : (v.op.kd == 4) = true := by simpa using hk
    have hQ : askV v = { v with num := v.num + 1, opn := true, qu := v.op } := by unfold askV askQ; rw [if_pos hk]
    have HQ := Lib.hid hQ
    clear h hk hQ
    go_enter Try.func75, Try.ntmps75
    go_wp2_with fail
    go_region
    all_goals
      go_end0
      refine ⟨rfl, ?_⟩
      refine HH.out.upd2 (askV v) (by ((repeat (with_reducible (first | exact HH.out.blk | apply blk_set | refine at_far ?_ (by simp; omega) | apply old_at | apply at_drew))))) (by ((repeat (with_reducible (first | exact grown_refl _ _ | refine g_set ?_ | refine g_new ?_ (by simp) | refine g_alloc ?_ | refine g_drew ?_))))) (by ((repeat (with_reducible (first | exact HH.out.below | refine Below.setCell ?_ ?_ _ | refine Below.drew ?_ | refine Below.alloc ?_ ?_ _))); all_goals (have hq1 := HH.out.hb; have hq2 := HH.out.size; simp <;> omega))) (by rw [HQ.out]; simp [cliCells]) (by rw [HQ.out]) (by rw [HQ.out]; exact HH.out.curlt)
  · have d1 : (v.op.kd == 4) = false := by simpa using hk
    by_cases hs : v.ss = 0
    · have d2 : (v.ss == 0) = true := by simpa using hs
      have hQ : askV v = { v with num := v.num + 1, opn := true, qu := ⟨5, 0, v.id, ⟨#[]⟩, ⟨#[]⟩, ⟨#[]⟩⟩ } := by unfold askV askQ; rw [if_neg hk, if_pos hs]
      have HQ := Lib.hid hQ
      clear h hk hs hQ
      go_enter Try.func75, Try.ntmps75
      go_wp2_with fail
      go_region
      all_goals
        go_end0
        refine ⟨rfl, ?_⟩
        refine HH.out.upd2 (askV v) (by ((repeat (with_reducible (first | exact HH.out.blk | apply blk_set | refine at_far ?_ (by simp; omega) | apply old_at | apply at_drew))))) (by ((repeat (with_reducible (first | exact grown_refl _ _ | refine g_set ?_ | refine g_new ?_ (by simp) | refine g_alloc ?_ | refine g_drew ?_))))) (by ((repeat (with_reducible (first | exact HH.out.below | refine Below.setCell ?_ ?_ _ | refine Below.drew ?_ | refine Below.alloc ?_ ?_ _))); all_goals (have hq1 := HH.out.hb; have hq2 := HH.out.size; simp <;> omega))) (by rw [HQ.out]; simp [cliCells]) (by rw [HQ.out]) (by rw [HQ.out]; exact HH.out.curlt)
    · have d2 : (v.ss == 0) = false := by simpa using hs
      have hQ : askV v = { v with num := v.num + 1, opn := true, qu := ⟨v.op.kd, v.ss, v.sq + 1, v.op.key, v.op.val, v.op.old⟩ } := by unfold askV askQ; rw [if_neg hk, if_neg hs]
      have HQ := Lib.hid hQ
      clear h hk hs hQ
      go_enter Try.func75, Try.ntmps75
      go_wp2_with fail
      go_region
      all_goals
        go_wp2_with fail
        go_region
        all_goals
          go_end0
          refine ⟨rfl, ?_⟩
          refine HH.out.upd2 (askV v) (by ((repeat (with_reducible (first | exact HH.out.blk | apply blk_set | refine at_far ?_ (by simp; omega) | apply old_at | apply at_drew))))) (by ((repeat (with_reducible (first | exact grown_refl _ _ | refine g_set ?_ | refine g_new ?_ (by simp) | refine g_alloc ?_ | refine g_drew ?_))))) (by ((repeat (with_reducible (first | exact HH.out.below | refine Below.setCell ?_ ?_ _ | refine Below.drew ?_ | refine Below.alloc ?_ ?_ _))); all_goals (have hq1 := HH.out.hb; have hq2 := HH.out.size; simp <;> omega))) (by rw [HQ.out]; simp [cliCells]) (by rw [HQ.out]) (by rw [HQ.out]; exact HH.out.curlt)
end Go.Proofs.Ytfogoebflfkknaa
