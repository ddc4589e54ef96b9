/- The walk of slices.Delete, of one item out of a row of the call's own. -/
import Derived.Test.YtmdidmllaldbaaaGreatInsI
namespace Go.Proofs.YtmdidmllaldbaaaGreat
open Go.RowKit
set_option linter.unusedVariables false
theorem step_append_room_k {P : Program} {ops : Array Oper} {o : Oper} {a : Act} {w : World} {K : Act → World → Prop} {Q : Exit → Act → World → Prop} {E : Prop} (hgd : o.guard = none) (s x : Operand) (t : TypeId)
    (ho : o.op = .call { callee := .builtin .append, args := #[s, x], argTypes := #[t, t] }) (e : TypeId) (i : TypeInfo) (size : Nat) (ht : P.underlying t = some (.slice e)) (hi : P.info? e = some i) (hz : i.size = size)
    (g k c : Nat) (ad : Addr) (m d : Nat) (hs : a.eval s = .slice (some ⟨g, 0, none⟩) k c) (hx : a.eval x = .slice (some ad) m d)
    (cur : List Value) (hg : w.heap[g]? = some (.cells cur.toArray e (0, 0))) (cs : List Value) (hl : cs.length = m * size)
    (hsrc : ∀ j v, cs[j]? = some v → w.cell? (ad.add j) = some v) (hroom : k + m ≤ c) (hfit : k * size + cs.length ≤ cur.length) (h1 : ∀ v ∈ cs, v.oneCell' = true)
    (h : ∀ w', Hid (w'.heap[g]? = some (.cells (splice cur (k * size) cs).toArray e (0, 0))) → Hid (w.grownBy w' (some g)) → K (a.put o.dst (.slice (some ⟨g, 0, none⟩) (k + m) c)) w') :
    if Region.wanted o (yielded ops a.tmps) = true then Oper.wp P o a w K Q else E := by
  have hw : Region.wanted o (yielded ops a.tmps) = true := by simp [Region.wanted, hgd]
  rw [if_pos hw]
  subst hz
  have hrun := run_append_room (P := P) w t o.type e i ht hi g k c cur.toArray hg ad m d cs hl hsrc h1 hroom (by simpa using hfit)
  rw [List.append_assoc] at hrun
  unfold Oper.wp
  simp [execOp, ho, resolve, invoke, builtin, hs, hx, hrun, Result.andThen]
  exact h _ (show _ = _ from setRow_heap w g _ _ e _ (by simpa using hg)) (grown_setRow w g _)
theorem wpList_clear_k {P : Program} {w : World} {ops : Array Oper} {rest : List Oper} {o : Oper} {a : Act} {Q : Exit → Act → World → Prop} (hgd : o.guard = none) (s : Operand) (t : TypeId)
    (ho : o.op = .call { callee := .builtin .clear, args := #[s], argTypes := #[t] }) (e : TypeId) (z : Value) (ht : P.underlying t = some (.slice e)) (hv : ∀ w, (zeroValue e).run P w = .ok z w)
    (g off n c : Nat) (hs : a.eval s = .slice (some ⟨g, off, none⟩) (n + 1) c) (cur : List Value) (hg : w.heap[g]? = some (.cells cur.toArray e (0, 0)))
    (zs : List Value) (hzs : (Builtin.zeroCells z.cells (n + 1)).toList = zs) (hfit : off + zs.length ≤ cur.length) (h1 : ∀ v ∈ zs, v.oneCell' = true)
    (h : ∀ w', Hid (w'.heap[g]? = some (.cells (splice cur off zs).toArray e (0, 0))) → Hid (w.grownBy w' (some g)) → wpList P ops Q rest (a.put o.dst (.tuple #[])) w') : wpList P ops Q (o :: rest) a w := by
  refine wpList_plain hgd fun K hK => ?_
  have hst := run_storeCells_at (P := P) g off e zs 0 cur.toArray w hg (by simpa using hfit) h1
  simp only [Nat.add_zero, List.append_assoc] at hst
  have hrun : (Builtin.clear_ #[t] o.type #[.slice (some ⟨g, off, none⟩) (n + 1) c]).run P w = .ok (.tuple #[]) (w.setRow g (splice cur off zs).toArray) := by
    simp [Builtin.clear_, run_underlying ht, hv, hzs, hst, splice]
  unfold Oper.wp
  simp [execOp, ho, resolve, invoke, builtin, hs, hrun, Result.andThen]
  exact hK _ _ (h _ (show _ = _ from setRow_heap w g _ _ e _ hg) (grown_setRow w g _))
theorem splice_take {α : Type} (L C : List α) (a m : Nat) (h : a + C.length ≤ L.length) (hm : m ≤ a) : (splice L a C).take m = L.take m := by
  unfold splice
  rw [List.take_append_of_le_length (by simp; omega), List.take_take, Nat.min_eq_left hm]
theorem splice_end {α : Type} (L C : List α) (a : Nat) (h : a + C.length ≤ L.length) : (splice L a C).take (a + C.length) = L.take a ++ C := by
  unfold splice
  rw [← List.append_assoc, List.take_append_of_le_length (by simp; omega), List.take_of_length_le (by simp; omega)]
def delI (l : List Itm) (k : Nat) : List Itm := l.take k ++ l.drop (k + 1)
theorem delI_len (l : List Itm) (k : Nat) (h : k < l.length) : (delI l k).length = l.length - 1 := by
  unfold delI
  rw [List.length_append, List.length_take, List.length_drop]
  omega
def zItm : List Value := [.string ⟨#[]⟩, .string ⟨#[]⟩, .int .i64 0, .int .i64 0]
set_option maxRecDepth 100000 in
set_option maxHeartbeats 8000000 in
theorem delI_any {w : World} {B : Nat} {ao : Option Addr} {n c k : Nat} {l : List Itm} (h : w.ownsRow B 133 4 (.slice ao n c) n (itmCells l)) (hB : B ≤ w.heap.size) (hn : n ≤ 1000000) (hk : k < n) :
    Calls Tryz.prog 210 #[.slice ao n c, .int .i64 k, .int .i64 ((k : Int) + 1)] w (InsRes B (n - 1) (delI l k) w) := by
  obtain ⟨i0, hi, hz0, hz1, hz2⟩ := info_parts itmInfo
  have hll : l.length = n := by have := h.1; rw [itmCells_len] at this; omega
  obtain ⟨g, cur, rfl, hBg, hg, hnc, hcm, hcs, htk⟩ : ∃ g, ∃ cur : List Value, ao = some ⟨g, 0, none⟩ ∧ B ≤ g ∧ w.heap[g]? = some (.cells cur.toArray 133 (0, 0)) ∧ n ≤ c ∧ c ≤ maxLen ∧ cur.length = c * 4 ∧ cur.take (n * 4) = itmCells l := by
    rcases h.2 with ⟨hs, _⟩ | ⟨g', cap, cur, hs, hb, hg, hnc, hm, hz, ht⟩
    · injection hs; omega
    · injection hs with h1 _ h2
      subst h1 h2
      exact ⟨g', cur.toList, rfl, hb, by simpa using hg, hnc, hm, by simpa using hz, ht⟩
  clear h
  unfold maxLen at hcm
  have hdl : (itmCells (l.drop (k + 1))).length = (n - (k + 1)) * 4 := by rw [itmCells_len, List.length_drop, hll]
  have hsrc : ∀ W : World, W.heap[g]? = w.heap[g]? → ∀ j u, (itmCells (l.drop (k + 1)))[j]? = some u → W.cell? ((⟨g, (k + 1) * 4, none⟩ : Addr).add j) = some u := fun W hW => cells_atI (hW.trans hg) (fun j u hu => by
    rw [← itmCells_drop, ← htk, List.getElem?_drop, List.getElem?_take] at hu
    split at hu
    · simpa using hu
    · cases hu)
  have HSrc := Lib.hid hsrc
  have HG := Lib.hid hg
  have HDl := Lib.hid hdl
  have HCs := Lib.hid hcs
  have HSp1 : Hid ((splice cur (k * 4) (itmCells (l.drop (k + 1)))).length = c * 4) := Lib.hid (by rw [length_splice _ _ _ (by rw [hdl, hcs]; omega)]; exact hcs)
  have hfin : (splice (splice cur (k * 4) (itmCells (l.drop (k + 1)))) ((n - 1) * 4) zItm).take ((n - 1) * 4) = itmCells (delI l k) := by
    rw [splice_take _ _ _ _ (by rw [HSp1.out]; show (n - 1) * 4 + 4 ≤ _; omega) (Nat.le_refl _)]
    have e := splice_end cur (itmCells (l.drop (k + 1))) (k * 4) (by rw [hdl, hcs]; omega)
    rw [hdl, show k * 4 + (n - (k + 1)) * 4 = (n - 1) * 4 from by omega] at e
    unfold delI
    rw [e, itmCells_append, ← itmCells_take, ← htk, List.take_take, Nat.min_eq_left (by omega)]
  have HF := Lib.hid hfin
  have HLl := Lib.hid hll
  have hzs : (Builtin.zeroCells (Value.agg #[.string ⟨#[]⟩, .string ⟨#[]⟩, .int .i64 0, .int .i64 0]).cells (0 + 1)).toList = zItm := by kernel_rfl
  have HZs := Lib.hid hzs
  have HFit2 : Hid ((n - 1) * 4 + zItm.length ≤ (splice cur (k * 4) (itmCells (l.drop (k + 1)))).length) := Lib.hid (by rw [HSp1.out]; show (n - 1) * 4 + 4 ≤ _; omega)
  have hzo : ∀ v ∈ zItm, v.oneCell' = true := cells_oneI ⟨⟨#[]⟩, ⟨#[]⟩, 0, 0⟩
  have HZo := Lib.hid hzo
  have hx1 : (k : Int) + 1 ≤ n := by omega
  have hx2 : (0 : Int) ≤ k := by omega
  have hx3 : (k : Int) ≤ c := by omega
  have hx4 : (n : Int) ≤ c := by omega
  have hx5 : (0 : Int) ≤ (k : Int) + 1 := by omega
  have hx6 : (k : Int) ≤ (k : Int) + 1 := by omega
  have hx7 : ((k : Int) + 1).toNat = k + 1 := by omega
  have hx8 : ((k : Int) == (k : Int) + 1) = false := by simp <;> omega
  have hx9 : ¬ (n = k) := by omega
  have hy1 : k + (n - (k + 1)) = n - 1 := by omega
  have hy2 : ((n - 1 : Nat) : Int) ≤ n := by omega
  have hy3 : (0 : Int) ≤ ((n - 1 : Nat) : Int) := by omega
  have hy4 : ¬ (c = n - 1) := by omega
  have hy5 : n - (n - 1) = 0 + 1 := by omega
  have hy6 : (n : Int) - 1 ≤ n := by omega
  clear hg hsrc hdl hfin htk hll hcs hzs hzo
  by_cases hkc : k + 1 = c
  · have hq1 : ¬ (c = k) := by omega
    have hq2 : (c = k + 1) = True := by simp [hkc]
    have hm0 : n - (k + 1) = 0 := by omega
    have HNil : Hid (itmCells (l.drop (k + 1)) = []) := Lib.hid (List.eq_nil_of_length_eq_zero (by rw [HDl.out, hm0]))
    clear hkc hm0
    go_enter Tryz.func210, Tryz.ntmps210
    go_upto_region 5 with fail
    go_region_law (refine step_append_room_k rfl (.tmp 22) (.tmp 25) 131 rfl 133 i0 4 Tryz.underlying131 hi hz1 g k c ⟨g, 0, none⟩ (n - (k + 1)) (c - (k + 1)) (by simp [Act.eval, Act.put]) (by simp [Act.eval, Act.put]) cur HG.out (itmCells (l.drop (k + 1))) HDl.out (by rw [HNil.out]; intro j u hu; cases hu) (by omega) (by rw [HDl.out, HCs.out]; omega) (itmCells_one _) ?_; intro w4 hg4 hb4)
    all_goals (
      go_wp2_with (refine wpList_clear_k rfl (.tmp 31) 131 rfl 133 _ Tryz.underlying131 Tryz.zeroValue133 g ((n - 1) * 4) 0 (c - (n - 1)) rfl _ hg4.out zItm HZs.out HFit2.out HZo.out ?_; intro w5 hg5 hb5)
      go_ret
      have hb : Below B w w5 := (((Below.refl B w).drew).grown hb4.out hB (fun j hj => by injection hj with hj; omega)).grown hb5.out (Nat.le_trans hB hb4.out.size) (fun j hj => by injection hj with hj; omega)
      refine ⟨_, _, rfl, ⟨by rw [itmCells_len, delI_len _ _ (by rw [HLl.out]; omega), HLl.out], .inr ⟨g, c, _, rfl, hBg, hg5.out, by omega, by unfold maxLen; omega, ?_, ?_⟩⟩, hb⟩
      · have := length_splice (splice cur (k * 4) (itmCells (l.drop (k + 1)))) ((n - 1) * 4) zItm HFit2.out
        simp only [List.size_toArray]
        rw [this, HSp1.out]
      · exact HF.out)
  · have hq1 : ¬ (c = k) := by omega
    have hq2 : ¬ (c = k + 1) := by omega
    go_enter Tryz.func210, Tryz.ntmps210
    go_upto_region 5 with fail
    go_region_law (refine step_append_room_k rfl (.tmp 22) (.tmp 25) 131 rfl 133 i0 4 Tryz.underlying131 hi hz1 g k c ⟨g, (k + 1) * 4, none⟩ (n - (k + 1)) (c - (k + 1)) (by simp [Act.eval, Act.put]) (by simp [Act.eval, Act.put]) cur HG.out (itmCells (l.drop (k + 1))) HDl.out (HSrc.out _ rfl) (by omega) (by rw [HDl.out, HCs.out]; omega) (itmCells_one _) ?_; intro w4 hg4 hb4)
    all_goals (
      go_wp2_with (refine wpList_clear_k rfl (.tmp 31) 131 rfl 133 _ Tryz.underlying131 Tryz.zeroValue133 g ((n - 1) * 4) 0 (c - (n - 1)) rfl _ hg4.out zItm HZs.out HFit2.out HZo.out ?_; intro w5 hg5 hb5)
      go_ret
      have hb : Below B w w5 := (((Below.refl B w).drew).grown hb4.out hB (fun j hj => by injection hj with hj; omega)).grown hb5.out (Nat.le_trans hB hb4.out.size) (fun j hj => by injection hj with hj; omega)
      refine ⟨_, _, rfl, ⟨by rw [itmCells_len, delI_len _ _ (by rw [HLl.out]; omega), HLl.out], .inr ⟨g, c, _, rfl, hBg, hg5.out, by omega, by unfold maxLen; omega, ?_, ?_⟩⟩, hb⟩
      · have := length_splice (splice cur (k * 4) (itmCells (l.drop (k + 1)))) ((n - 1) * 4) zItm HFit2.out
        simp only [List.size_toArray]
        rw [this, HSp1.out]
      · exact HF.out)
end Go.Proofs.YtmdidmllaldbaaaGreat
