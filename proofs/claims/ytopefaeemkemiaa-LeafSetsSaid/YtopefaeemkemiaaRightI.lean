/- The walks of leaf.right and leaf.rise. -/
import Derived.Test.YtopefaeemkemiaaLess
import Derived.Test.YtopefaeemkemiaaViewIt
import Derived.IntWalk
namespace Go.Proofs.Ytopefaeemkemiaa
open Go.RowKit
set_option linter.unusedVariables false
def inB (n a b : Int) : Bool := decide (a ≤ n) && decide (n ≤ b)
/-- Is an item right? -/
def okI (e : Itm) : Bool :=
  inB e.key.size 1 40 && (if e.ov = 0 then (e.sz == 0) && decide (e.vl.size ≤ 60) else (inB e.ov 1 4294967295 && inB e.sz 61 2000) && eqB e.vl ⟨#[]⟩)
def stepI (p : Option ByteArray) (e : Itm) : Bool := match p with
  | none => true
  | some q => ltB q e.key
def riseGoI : Option ByteArray → List Itm → Bool
  | _, [] => true
  | p, e :: r => (okI e && stepI p e) && riseGoI (some e.key) r
def riseI (l : List Itm) : Bool := riseGoI none l
def prevI (l : List Itm) : Nat → Option ByteArray
  | 0 => none
  | k + 1 => (l[k]?).map (·.key)
theorem riseGoI_step {l : List Itm} {k : Nat} {e : Itm} (h : l[k]? = some e) : riseGoI (prevI l k) (l.drop k) = ((okI e && stepI (prevI l k) e) && riseGoI (prevI l (k + 1)) (l.drop (k + 1))) := by
  have hk := (List.getElem?_eq_some_iff.1 h).1
  have he := (List.getElem?_eq_some_iff.1 h).2
  rw [List.drop_eq_getElem_cons hk, he, riseGoI]
  have : prevI l (k + 1) = some e.key := by show (l[k]?).map _ = _; rw [h]; rfl
  rw [this]
theorem emp_eqI (a : ByteArray) : eqB a ⟨#[]⟩ = a.toList.isEmpty := by
  unfold eqB
  rw [ByteArray.toList_eq, ByteArray.toList_eq]
  cases a.data.toList <;> rfl
theorem in_any (n a b : Int) (w : World) : Calls Try.prog 48 #[.int .i64 n, .int .i64 a, .int .i64 b] w fun e w' => e = .returned (.bool (inB n a b)) ∧ w = w' := by
  unfold inB
  obtain ⟨x, hx⟩ : ∃ x, decide (a ≤ n) = x := ⟨_, rfl⟩
  obtain ⟨y, hy⟩ : ∃ y, decide (n ≤ b) = y := ⟨_, rfl⟩
  rw [hx, hy]
  cases x <;> cases y
  all_goals
    go_enter Try.func48, Try.ntmps48
    go_wp2_with fail
    go_ret
    exact ⟨rfl, rfl⟩
set_option maxRecDepth 20000 in
set_option maxHeartbeats 4000000 in
theorem right_anyI (e : Itm) (hok : ItmOk e) (w : World) :
    Calls Try.prog 36 #[e.agg] w fun e' w' => e' = .returned (.bool (okI e)) ∧ Below w.heap.size w w' := by
  obtain ⟨⟨o1, o2⟩, ⟨z1, z2⟩, hk, hv⟩ := hok
  have hb : Below w.heap.size w (w.alloc (.cells #[.string e.key, .string e.vl, .int .i64 e.ov, .int .i64 e.sz] 28)) := (Below.refl _ _).alloc (Nat.le_refl _) _
  have HB := Lib.hid hb
  have H1 := Lib.hid (fun W => in_any (e.key.size : Int) 1 40 W)
  have H2 := Lib.hid (fun W => in_any e.ov 1 4294967295 W)
  have H3 := Lib.hid (fun W => in_any e.sz 61 2000 W)
  unfold okI
  rw [emp_eqI]
  obtain ⟨b1, h1⟩ : ∃ b1, b1 = inB e.key.size 1 40 := ⟨_, rfl⟩
  obtain ⟨b2, h2⟩ : ∃ b2, b2 = inB e.ov 1 4294967295 := ⟨_, rfl⟩
  obtain ⟨b3, h3⟩ : ∃ b3, b3 = inB e.sz 61 2000 := ⟨_, rfl⟩
  rw [← h1] at H1 ⊢
  rw [← h2] at H2 ⊢
  rw [← h3] at H3 ⊢
  clear hb h1 h2 h3
  unfold Itm.agg
  cases b1 with
  | false =>
    rw [Bool.false_and]
    go_enter Try.func36, Try.ntmps36
    go_wp2_with fail
    refine (H1.out _).mono ?_
    rintro e1 w1 ⟨rfl, rfl⟩
    go_wp2_with fail
    go_ret
    exact ⟨rfl, HB.out⟩
  | true =>
    rw [Bool.true_and]
    by_cases h0 : e.ov = 0
    · have d0 : (e.ov == 0) = true := by simpa using h0
      rw [if_pos h0]
      clear h0 H2 H3 o1 o2
      obtain ⟨x, hx⟩ : ∃ x, (e.sz == 0) = x := ⟨_, rfl⟩
      rw [hx]
      cases x with
      | false =>
        go_enter Try.func36, Try.ntmps36
        go_wp2_with fail
        refine (H1.out _).mono ?_
        rintro e1 w1 ⟨rfl, rfl⟩
        go_wp2_with fail
        go_ret
        exact ⟨rfl, HB.out⟩
      | true =>
        by_cases hy : e.vl.size ≤ 60
        · have d2 : decide (e.vl.size ≤ 60) = true := by simpa using hy
          have d1 : decide ((e.vl.size : Int) ≤ 60) = true := by simp <;> omega
          rw [d2]
          go_enter Try.func36, Try.ntmps36
          go_wp2_with fail
          refine (H1.out _).mono ?_
          rintro e1 w1 ⟨rfl, rfl⟩
          go_wp2_with fail
          go_ret
          exact ⟨rfl, HB.out⟩
        · have d2 : decide (e.vl.size ≤ 60) = false := by simpa using hy
          have d1 : decide ((e.vl.size : Int) ≤ 60) = false := by simp <;> omega
          rw [d2]
          go_enter Try.func36, Try.ntmps36
          go_wp2_with fail
          refine (H1.out _).mono ?_
          rintro e1 w1 ⟨rfl, rfl⟩
          go_wp2_with fail
          go_ret
          exact ⟨rfl, HB.out⟩
    · have d0 : (e.ov == 0) = false := by simpa using h0
      rw [if_neg h0]
      clear h0
      cases b2 with
      | false =>
        go_enter Try.func36, Try.ntmps36
        go_wp2_with fail
        refine (H1.out _).mono ?_
        rintro e1 w1 ⟨rfl, rfl⟩
        go_wp2_with fail
        refine (H2.out _).mono ?_
        rintro e2 w2 ⟨rfl, rfl⟩
        go_wp2_with fail
        go_ret
        exact ⟨rfl, HB.out⟩
      | true =>
      cases b3 with
      | false =>
        go_enter Try.func36, Try.ntmps36
        go_wp2_with fail
        refine (H1.out _).mono ?_
        rintro e1 w1 ⟨rfl, rfl⟩
        go_wp2_with fail
        refine (H2.out _).mono ?_
        rintro e2 w2 ⟨rfl, rfl⟩
        go_wp2_with fail
        refine (H3.out _).mono ?_
        rintro e3 w3 ⟨rfl, rfl⟩
        go_wp2_with fail
        go_ret
        exact ⟨rfl, HB.out⟩
      | true =>
        rw [Bool.and_self, Bool.true_and]
        cases hz : e.vl.toList.isEmpty
        all_goals
          go_enter Try.func36, Try.ntmps36
          go_wp2_with fail
          refine (H1.out _).mono ?_
          rintro e1 w1 ⟨rfl, rfl⟩
          go_wp2_with fail
          refine (H2.out _).mono ?_
          rintro e2 w2 ⟨rfl, rfl⟩
          go_wp2_with fail
          refine (H3.out _).mono ?_
          rintro e3 w3 ⟨rfl, rfl⟩
          go_wp2_with fail
          go_ret
          exact ⟨rfl, HB.out⟩
end Go.Proofs.Ytopefaeemkemiaa
