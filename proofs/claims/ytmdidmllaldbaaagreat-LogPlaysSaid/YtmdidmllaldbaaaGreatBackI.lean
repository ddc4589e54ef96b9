/- slices.Backward over a slice of entries: the function value that it makes, and what that gives a loop. -/
import Derived.RangeFuncNested
import Derived.RangeFuncBound
import Derived.RangeFuncCalls
import Derived.RangeFuncBox
import Derived.RangeFuncLeaves
import Derived.Shelf.Abstract
import Derived.Shelf.RegionOpen
import Derived.WalkKit
import Derived.OwnWalkIn
import Derived.TacticsInMore
import Derived.LoopNIn
import Derived.LoopIn
import Derived.Test.YtmdidmllaldbaaaGreatLogB
namespace Go.Proofs.YtmdidmllaldbaaaGreat
open Go.RowKit Go.Shelf
set_option linter.unusedVariables false
attribute [local go_sem] Oper.semAt_some
/-- A place of l and what stands there. -/
abbrev IxE (l : List Ent) := { x : Nat × Ent // l[x.1]? = some x.2 }
def encB (l : List Ent) (x : IxE l) : Array Value := #[.int .i64 (x.1.1 : Int), .agg #[.int .i64 x.1.2.ix, .int .i64 x.1.2.tm, .int .i64 x.1.2.kd, .string x.1.2.dt]]
/-- All places have come. -/
def AllB (l : List Ent) (ys : List (IxE l)) : Prop := ∀ j, j < l.length → ∃ x ∈ ys, x.1.1 = j
/-- Ahead of the last that came, all that stand behind it have come. -/
def PreB (l : List Ent) (pre : List (IxE l)) : Prop := ∀ ini x, pre = ini ++ [x] → ∀ j, x.1.1 < j → j < l.length → ∃ y ∈ ini, y.1.1 = j
set_option maxRecDepth 100000 in
set_option maxHeartbeats 2000000 in
theorem back1_in (F : Fence) (n : Nat) (hF : F.fn 234) (hro : F.round = none) (hn : 1 ≤ n) (y Bs n₀ b off len cap : Nat) (l : List Ent) (hl : l.length = len) (hlen : len ≤ 4611686018427387904) (hb : b < n₀) (J Jx : List (IxE l) → World → Prop)
    (hY : ∀ pre x W, J pre W → pre.length < len → YieldAt F (n - 1) Tryz.prog y #[.int .i64 (x.1.1 : Int), .agg #[.int .i64 x.1.2.ix, .int .i64 x.1.2.tm, .int .i64 x.1.2.kd, .string x.1.2.dt]] W fun e W' =>
      (e = .returned (.bool true) ∧ J (pre ++ [x]) W' ∧ Below n₀ W W') ∨ (e = .returned (.bool false) ∧ Jx (pre ++ [x]) W'))
    (W : World) (hBs : W.cell? ⟨Bs, 0, none⟩ = some (.slice (some ⟨b, off, none⟩) len cap)) (hBn : Bs < n₀) (hE : ∀ k e, l[k]? = some e → EntAt W b (off + k * 4) e) (h0 : J [] W) :
    CallsIn F n Tryz.prog 234 #[.func (.yield y) #[] #[], .pointer (some ⟨Bs, 0, none⟩)] W fun e W' => (∃ v, e = .returned v) ∧
      ((∃ ys, AllB l ys ∧ J ys W') ∨ (∃ pre, PreB l pre ∧ Jx pre W')) := by
  have hEh := Lib.hid hE
  clear hE
  have hw0 : IntKind.i64.wrap ((len : Int) - 1) = (len : Int) - 1 := IntWalk.i64_in _ (by omega)
  refine callsIn_of_wp Tryz.func234 rfl hF ?_ hro
  simp only [Tryz.ntmps234, List.size_toArray, List.length_cons, List.length_nil, Nat.reduceAdd, Nat.reduceSub, Array.replicate_succ, Array.replicate_zero, List.push_toArray, List.append_toArray, List.nil_append, List.cons_append]
  gi_wp2
  gi_loopw [3] (fun i wr => ∃ (k : Nat) (pre : List (IxE l)), k ≤ len ∧ i = .int .i64 ((k : Int) - 1) ∧ pre.length = len - k ∧ Hid (∀ j, k ≤ j → j < len → ∃ x ∈ pre, x.1.1 = j) ∧ J pre wr ∧ Below n₀ W wr)
    (fun i _ => (intOf i + 1).toNat)
  case atStart => exact ⟨len, [], Nat.le_refl _, rfl, by simp, Lib.hid (fun j h1 h2 => by omega), h0, Below.refl _ _⟩
  case round =>
    obtain ⟨k, pre, hk, rfl, hpl, hall, hJs, hnx⟩ := hrel
    cases k with
    | succ m =>
      obtain ⟨e, he⟩ : ∃ e, l[m]? = some e := ⟨l[m]'(by omega), List.getElem?_eq_getElem (by omega)⟩
      have hcx : EntAt wr b (off + m * 4) e := by
        have h1 := hEh.out m e he
        exact h1.keep (hnx.block b hb)
      obtain ⟨fn, tmps, assign, body, hy, hR⟩ := hY pre ⟨(m, e), he⟩ wr hJs (by omega)
      dsimp only at hy
      have hbs := (hnx.cell (p := ⟨Bs, 0, none⟩) hBn).trans hBs
      obtain ⟨c0, c1, c2, c3⟩ := hcx
      have hmi : ((m + 1 : Nat) : Int) - 1 = (m : Int) := by omega
      rw [hmi]
      have hmg : decide ((0 : Int) ≤ (m : Int)) = true := by simp
      have hml : m < len := by omega
      have hw1 : IntKind.i64.wrap ((m : Int) - 1) = (m : Int) - 1 := IntWalk.i64_in _ (by omega)
      clear hmi
      have hHe := Lib.hid he
      gi_wp2
      refine hR.mono ?_
      rintro e' W3 (⟨rfl, hJ3, hk3⟩ | ⟨rfl, hJx3⟩)
      · gi_wp2
        go_roundw
        case rel =>
          refine ⟨m, _, by omega, by first | rw [hw1] | rfl, ?_, ?_, hJ3, hnx.trans hk3⟩
          · rw [List.length_append, hpl]; simp; omega
          · refine Lib.hid (fun j h1 h2 => ?_)
            rcases Nat.eq_or_lt_of_le h1 with rfl | h3
            · exact ⟨⟨(m, e), he⟩, by simp, rfl⟩
            · obtain ⟨x, hx, hxj⟩ := hall.out j h3 h2
              exact ⟨x, by simp [hx], hxj⟩
        case measure => simp [intOf] <;> omega
      · gi_wp2
        refine bodyPost_ret (results_none rfl _ _ _) rfl ?_
        refine ⟨⟨_, rfl⟩, .inr ⟨_, ?_, hJx3⟩⟩
        intro ini x hpx j h1 h2
        obtain ⟨rfl, h4⟩ := List.append_inj' hpx rfl
        have h5 : ⟨(m, e), he⟩ = x := by simpa using h4
        subst h5
        exact hall.out j h1 (by omega)
    | zero =>
      have hmi : ((0 : Nat) : Int) - 1 = -1 := by omega
      rw [hmi]
      clear hmi
      gi_wp2
      go_end0
      exact ⟨⟨_, rfl⟩, .inl ⟨pre, fun j h => hall.out j (Nat.zero_le _) (by omega), hJs⟩⟩
set_option maxRecDepth 100000 in
set_option maxHeartbeats 1000000 in
/-- At no entries: no round. -/
theorem back1_nil_in (F : Fence) (n : Nat) (hF : F.fn 234) (hro : F.round = none) (y Bs : Nat) (l : List Ent) (hl : l.length = 0) (ao : Option Addr) (cap : Nat) (J : List (IxE l) → World → Prop)
    (W : World) (hBs : W.cell? ⟨Bs, 0, none⟩ = some (.slice ao 0 cap)) (h0 : J [] W) :
    CallsIn F n Tryz.prog 234 #[.func (.yield y) #[] #[], .pointer (some ⟨Bs, 0, none⟩)] W fun e W' => (∃ v, e = .returned v) ∧ J [] W' := by
  refine callsIn_of_wp Tryz.func234 rfl hF ?_ hro
  simp only [Tryz.ntmps234, List.size_toArray, List.length_cons, List.length_nil, Nat.reduceAdd, Nat.reduceSub, Array.replicate_succ, Array.replicate_zero, List.push_toArray, List.append_toArray, List.nil_append, List.cons_append]
  gi_wp2
  gi_loopw [3] (fun i wr => i = .int .i64 (-1) ∧ J [] wr) (fun _ _ => 0)
  case atStart => exact ⟨rfl, h0⟩
  case round =>
    obtain ⟨rfl, hJs⟩ := hrel
    gi_wp2
    go_end0
    exact ⟨⟨_, rfl⟩, hJs⟩
set_option maxHeartbeats 1000000 in
theorem back_in (F : Fence) (n : Nat) (hF : F.fn 187) (hro : F.round = none) (a : Option Addr) (len cap : Nat) (w : World) :
    CallsIn F n Tryz.prog 187 #[.slice a len cap] w fun e w' => e = .returned (.func (.func 234) #[] #[.pointer (some ⟨w.heap.size, 0, none⟩)]) ∧ w' = w.alloc (.cells #[.slice a len cap] 22) := by
  refine callsIn_of_wp Tryz.func187 rfl hF ?_ hro
  simp only [Tryz.ntmps187, List.size_toArray, List.length_cons, List.length_nil, Nat.reduceAdd, Nat.reduceSub, Array.replicate_succ, Array.replicate_zero, List.push_toArray, List.append_toArray, List.nil_append, List.cons_append]
  gi_wp2
  go_ret
  exact ⟨rfl, rfl⟩
/-- What the loop is told of the value that Backward hands back. -/
theorem back_stops (F : Fence) (n : Nat) (hF : F.fn 234) (hro : F.round = none) (hn : 1 ≤ n) (Bs n₀ len cap : Nat) (ao : Option Addr) (l : List Ent) (hlen : len ≤ 4611686018427387904) (w : World) (hBs : Bs < w.heap.size) (hn₀ : n₀ ≤ w.heap.size)
    (hc : w.cell? ⟨Bs, 0, none⟩ = some (.slice ao len cap)) (hBn : Bs < n₀) (hI : Ents w n₀ ao len l) :
    SeqStopsK F n Tryz.prog 234 #[.pointer (some ⟨Bs, 0, none⟩)] (encB l) (Below n₀) (AllB l) (PreB l) len w := fun y J Jx W hW _ _ hY h0 => by
  have hc' := (hW.cell (p := ⟨Bs, 0, none⟩) hBs).trans hc
  have hI' := hI.below (hW.mono hn₀)
  by_cases h : 0 < len
  · obtain ⟨b, o, rfl, hb, he⟩ := hI'.2 h
    exact back1_in F n hF hro hn y Bs n₀ b o len cap l hI.1 hlen hb J Jx hY W hc' hBn he h0
  · obtain rfl : len = 0 := by omega
    refine (back1_nil_in F n hF hro y Bs l hI.1 ao cap J W hc' h0).mono ?_
    rintro e W' ⟨he, hj⟩
    exact ⟨he, .inl ⟨_, fun j hj => by have := hI.1; omega, hj⟩⟩
end Go.Proofs.YtmdidmllaldbaaaGreat
