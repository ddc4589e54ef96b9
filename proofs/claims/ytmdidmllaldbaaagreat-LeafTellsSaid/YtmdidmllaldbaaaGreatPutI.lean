/- The walks of leaf.right and leaf.rise. -/
import Derived.Test.YtmdidmllaldbaaaGreatLess
import Derived.Test.YtmdidmllaldbaaaGreatViewIt
import Derived.IntWalk
import Derived.Test.YtmdidmllaldbaaaGreatSince
import Derived.Test.YtmdidmllaldbaaaGreatRowsN
import Derived.Test.YtmdidmllaldbaaaGreatBuild
import Derived.Deep.RegionHeld3
namespace Go.Proofs.YtmdidmllaldbaaaGreat
/-! ### The walks of leaf.right and leaf.rise. -/
section
open Go.RowKit
set_option linter.unusedVariables false
def inB (n a b : Int) : Bool := decide (a ≤ n) && decide (n ≤ b)
/-- Is an item right? -/
def okI (e : Itm) : Bool :=
  inB e.key.size 1 40 && (if e.ov = 0 then (e.sz == 0) && decide (e.vl.size ≤ 60) else (inB e.ov 1 4294967295 && inB e.sz 61 2000) && eqB e.vl ⟨#[]⟩)
def stepI (p : Option ByteArray) (e : Itm) : Bool := match p with
  | none => true
  | some q => ltB q e.key
def riseGoI : Option ByteArray → List Itm → Bool
  | _, [] => true
  | p, e :: r => (okI e && stepI p e) && riseGoI (some e.key) r
def riseI (l : List Itm) : Bool := riseGoI none l
def prevI (l : List Itm) : Nat → Option ByteArray
  | 0 => none
  | k + 1 => (l[k]?).map (·.key)
theorem riseGoI_step {l : List Itm} {k : Nat} {e : Itm} (h : l[k]? = some e) : riseGoI (prevI l k) (l.drop k) = ((okI e && stepI (prevI l k) e) && riseGoI (prevI l (k + 1)) (l.drop (k + 1))) := by
  have hk := (List.getElem?_eq_some_iff.1 h).1
  have he := (List.getElem?_eq_some_iff.1 h).2
  rw [List.drop_eq_getElem_cons hk, he, riseGoI]
  have : prevI l (k + 1) = some e.key := by show (l[k]?).map _ = _; rw [h]; rfl
  rw [this]
theorem emp_eqI (a : ByteArray) : eqB a ⟨#[]⟩ = a.toList.isEmpty := by
  unfold eqB
  rw [ByteArray.toList_eq, ByteArray.toList_eq]
  cases a.data.toList <;> rfl
theorem in_any (n a b : Int) (w : World) : Calls Tryz.prog 246 #[.int .i64 n, .int .i64 a, .int .i64 b] w fun e w' => e = .returned (.bool (inB n a b)) ∧ w = w' := by
  unfold inB
  obtain ⟨x, hx⟩ : ∃ x, decide (a ≤ n) = x := ⟨_, rfl⟩
  obtain ⟨y, hy⟩ : ∃ y, decide (n ≤ b) = y := ⟨_, rfl⟩
  rw [hx, hy]
  cases x <;> cases y
  all_goals
    go_enter Tryz.func246, Tryz.ntmps246
    go_wp2_with fail
    go_ret
    exact ⟨rfl, rfl⟩
set_option maxRecDepth 20000 in
set_option maxHeartbeats 4000000 in
theorem right_anyI (e : Itm) (hok : ItmOk e) (w : World) :
    Calls Tryz.prog 238 #[e.agg] w fun e' w' => e' = .returned (.bool (okI e)) ∧ Below w.heap.size w w' := by
  obtain ⟨⟨o1, o2⟩, ⟨z1, z2⟩, hk, hv⟩ := hok
  have hb : Below w.heap.size w (w.alloc (.cells #[.string e.key, .string e.vl, .int .i64 e.ov, .int .i64 e.sz] 133)) := (Below.refl _ _).alloc (Nat.le_refl _) _
  have HB := Lib.hid hb
  have H1 := Lib.hid (fun W => in_any (e.key.size : Int) 1 40 W)
  have H2 := Lib.hid (fun W => in_any e.ov 1 4294967295 W)
  have H3 := Lib.hid (fun W => in_any e.sz 61 2000 W)
  unfold okI
  rw [emp_eqI]
  obtain ⟨b1, h1⟩ : ∃ b1, b1 = inB e.key.size 1 40 := ⟨_, rfl⟩
  obtain ⟨b2, h2⟩ : ∃ b2, b2 = inB e.ov 1 4294967295 := ⟨_, rfl⟩
  obtain ⟨b3, h3⟩ : ∃ b3, b3 = inB e.sz 61 2000 := ⟨_, rfl⟩
  rw [← h1] at H1 ⊢
  rw [← h2] at H2 ⊢
  rw [← h3] at H3 ⊢
  clear hb h1 h2 h3
  unfold Itm.agg
  cases b1 with
  | false =>
    rw [Bool.false_and]
    go_enter Tryz.func238, Tryz.ntmps238
    go_wp2_with fail
    refine (H1.out _).mono ?_
    rintro e1 w1 ⟨rfl, rfl⟩
    go_wp2_with fail
    go_ret
    exact ⟨rfl, HB.out⟩
  | true =>
    rw [Bool.true_and]
    by_cases h0 : e.ov = 0
    · have d0 : (e.ov == 0) = true := by simpa using h0
      rw [if_pos h0]
      clear h0 H2 H3 o1 o2
      obtain ⟨x, hx⟩ : ∃ x, (e.sz == 0) = x := ⟨_, rfl⟩
      rw [hx]
      cases x with
      | false =>
        go_enter Tryz.func238, Tryz.ntmps238
        go_wp2_with fail
        refine (H1.out _).mono ?_
        rintro e1 w1 ⟨rfl, rfl⟩
        go_wp2_with fail
        go_ret
        exact ⟨rfl, HB.out⟩
      | true =>
        by_cases hy : e.vl.size ≤ 60
        · have d2 : decide (e.vl.size ≤ 60) = true := by simpa using hy
          have d1 : decide ((e.vl.size : Int) ≤ 60) = true := by simp <;> omega
          rw [d2]
          go_enter Tryz.func238, Tryz.ntmps238
          go_wp2_with fail
          refine (H1.out _).mono ?_
          rintro e1 w1 ⟨rfl, rfl⟩
          go_wp2_with fail
          go_ret
          exact ⟨rfl, HB.out⟩
        · have d2 : decide (e.vl.size ≤ 60) = false := by simpa using hy
          have d1 : decide ((e.vl.size : Int) ≤ 60) = false := by simp <;> omega
          rw [d2]
          go_enter Tryz.func238, Tryz.ntmps238
          go_wp2_with fail
          refine (H1.out _).mono ?_
          rintro e1 w1 ⟨rfl, rfl⟩
          go_wp2_with fail
          go_ret
          exact ⟨rfl, HB.out⟩
    · have d0 : (e.ov == 0) = false := by simpa using h0
      rw [if_neg h0]
      clear h0
      cases b2 with
      | false =>
        go_enter Tryz.func238, Tryz.ntmps238
        go_wp2_with fail
        refine (H1.out _).mono ?_
        rintro e1 w1 ⟨rfl, rfl⟩
        go_wp2_with fail
        refine (H2.out _).mono ?_
        rintro e2 w2 ⟨rfl, rfl⟩
        go_wp2_with fail
        go_ret
        exact ⟨rfl, HB.out⟩
      | true =>
      cases b3 with
      | false =>
        go_enter Tryz.func238, Tryz.ntmps238
        go_wp2_with fail
        refine (H1.out _).mono ?_
        rintro e1 w1 ⟨rfl, rfl⟩
        go_wp2_with fail
        refine (H2.out _).mono ?_
        rintro e2 w2 ⟨rfl, rfl⟩
        go_wp2_with fail
        refine (H3.out _).mono ?_
        rintro e3 w3 ⟨rfl, rfl⟩
        go_wp2_with fail
        go_ret
        exact ⟨rfl, HB.out⟩
      | true =>
        rw [Bool.and_self, Bool.true_and]
        cases hz : e.vl.toList.isEmpty
        all_goals
          go_enter Tryz.func238, Tryz.ntmps238
          go_wp2_with fail
          refine (H1.out _).mono ?_
          rintro e1 w1 ⟨rfl, rfl⟩
          go_wp2_with fail
          refine (H2.out _).mono ?_
          rintro e2 w2 ⟨rfl, rfl⟩
          go_wp2_with fail
          refine (H3.out _).mono ?_
          rintro e3 w3 ⟨rfl, rfl⟩
          go_wp2_with fail
          go_ret
          exact ⟨rfl, HB.out⟩
end
/-! ### The walk of leaf.rise. -/
section
open Go.RowKit
set_option linter.unusedVariables false
set_option maxRecDepth 20000 in
set_option maxHeartbeats 4000000 in
theorem rise_anyI {ao : Option Addr} {n c : Nat} {l : List Itm} {w : World} (hE : Itms w w.heap.size ao n l) (hok : ∀ e ∈ l, ItmOk e) (hn : n ≤ 4611686018427387904) :
    Calls Tryz.prog 199 #[.slice ao n c] w fun e w' => e = .returned (.bool (riseI l)) ∧ Below w.heap.size w w' := by
  have HE := Lib.hid hE
  have HOk := Lib.hid hok
  have hl := hE.1
  have HLn := Lib.hid hl
  obtain ⟨R, hR⟩ : ∃ R, R = riseI l := ⟨_, rfl⟩
  rw [← hR]
  have HR : Hid (riseGoI (prevI l 0) (l.drop 0) = R) := Lib.hid (by rw [hR]; rfl)
  clear hE hl hok hR
  go_enter Tryz.func199, Tryz.ntmps199
  go_wp2_with fail
  go_loopw [7] (fun i wr => ∃ k : Nat, k ≤ n ∧ i = .int .i64 k ∧ Hid (riseGoI (prevI l k) (l.drop k) = R) ∧ Hid (Below w.heap.size w wr)) (fun i _ => n - (intOf i).toNat)
  case atStart => exact ⟨0, Nat.zero_le _, rfl, HR, Lib.hid (Below.refl _ _)⟩
  case round =>
    obtain ⟨k, hk, rfl, HG, HB⟩ := hrel
    have hsz := HB.out.size
    by_cases hlt : k < n
    · obtain ⟨b, o, e, rfl, hbB, hek, h1, h2, h3, h4⟩ := (HE.out.below HB.out).get hlt
      have hG := HG.out
      rw [riseGoI_step hek] at hG
      have hx1 : (0 : Int) ≤ k := by omega
      have hx2 : (k : Int) < n := by omega
      obtain ⟨W0, hW0⟩ : ∃ W0, W0 = wr.alloc (.cells #[.string e.key, .string e.vl, .int .i64 e.ov, .int .i64 e.sz] 133) := ⟨_, rfl⟩
      have hR0 : ∀ W, Calls Tryz.prog 238 #[.agg #[.string e.key, .string e.vl, .int .i64 e.ov, .int .i64 e.sz]] W fun e' w' => e' = .returned (.bool (okI e)) ∧ Below W.heap.size W w' := fun W => right_anyI e (HOk.out e (List.mem_of_getElem? hek)) W
      have HRt := Lib.hid hR0
      have HC : Hid (∀ W, Below (wr.heap.size + 1) (wr.alloc (.cells #[.string e.key, .string e.vl, .int .i64 e.ov, .int .i64 e.sz] 133)) W → W.cell? ⟨wr.heap.size, 0, none⟩ = some (.string e.key) ∧ W.cell? ⟨wr.heap.size, 1, none⟩ = some (.string e.vl) ∧ W.cell? ⟨wr.heap.size, 2, none⟩ = some (.int .i64 e.ov) ∧ W.cell? ⟨wr.heap.size, 3, none⟩ = some (.int .i64 e.sz)) := Lib.hid (by
        intro W hb
        have hc := heap_alloc_new wr (.cells #[.string e.key, .string e.vl, .int .i64 e.ov, .int .i64 e.sz] 133)
        have hk : W.heap[wr.heap.size]? = _ := (hb.block wr.heap.size (by omega)).trans hc
        refine ⟨?_, ?_, ?_, ?_⟩ <;> rw [blk_cell hk] <;> rfl)
      have HBX : Hid (∀ W, Below (wr.heap.size + 1) (wr.alloc (.cells #[.string e.key, .string e.vl, .int .i64 e.ov, .int .i64 e.sz] 133)) W → Below w.heap.size w W) := Lib.hid (fun W hb => HB.out.trans ((((Below.refl _ _).alloc (Nat.le_refl _) _).trans (hb.mono (by omega))).mono hsz))
      obtain ⟨r, hr⟩ : ∃ r, r = okI e := ⟨_, rfl⟩
      rw [← hr] at HRt hG
      clear hR0 hr hW0
      cases r with
      | false =>
        rw [Bool.false_and, Bool.false_and] at hG
        subst hG
        clear hek
        go_wp2_with fail
        have hq : ∀ p : SinceW (wr.heap.size + 1) (wr.alloc (.cells #[.string e.key, .string e.vl, .int .i64 e.ov, .int .i64 e.sz] 133)), _ := fun p => HC.out p.w p.h
        have q0 := fun p => (hq p).1
        have q1 := fun p => (hq p).2.1
        have q2 := fun p => (hq p).2.2.1
        have q3 := fun p => (hq p).2.2.2
        clear hq
        refine wp_region_since (B := wr.heap.size + 1) (W0 := wr.alloc (.cells #[.string e.key, .string e.vl, .int .i64 e.ov, .int .i64 e.sz] 133)) (by kernel_rfl) (by kernel_rfl) (Below.refl _ _) ?_
        repeat (go_big_quiet_step ((go_at_call 238; exact since_call (by simp) (HRt.out _))))
        refine wpQuiet_nil ?_
        intro _ hw'
        obtain ⟨⟨w5, hv5⟩, rfl⟩ := hw'
        clear q0 q1 q2 q3
        all_goals (
          go_wp2_with fail
          go_ret
          exact ⟨rfl, HBX.out _ hv5⟩)
      | true =>
        rw [Bool.true_and] at hG
        by_cases hk0 : k = 0
        · have hs0 : stepI (prevI l k) e = true := by rw [hk0]; rfl
          rw [hs0, Bool.true_and] at hG
          have d0 : decide ((0 : Int) < k) = false := by rw [hk0]; rfl
          have d1 : decide (0 < k) = false := by rw [hk0]; rfl
          have HG2 := Lib.hid hG
          clear hs0 hk0 hek hG
          go_wp2_with fail
          have hq : ∀ p : SinceW (wr.heap.size + 1) (wr.alloc (.cells #[.string e.key, .string e.vl, .int .i64 e.ov, .int .i64 e.sz] 133)), _ := fun p => HC.out p.w p.h
          have q0 := fun p => (hq p).1
          have q1 := fun p => (hq p).2.1
          have q2 := fun p => (hq p).2.2.1
          have q3 := fun p => (hq p).2.2.2
          clear hq
          refine wp_region_since (B := wr.heap.size + 1) (W0 := wr.alloc (.cells #[.string e.key, .string e.vl, .int .i64 e.ov, .int .i64 e.sz] 133)) (by kernel_rfl) (by kernel_rfl) (Below.refl _ _) ?_
          repeat (go_big_quiet_step ((go_at_call 238; exact since_call (by simp) (HRt.out _))))
          refine wpQuiet_nil ?_
          intro _ hw'
          obtain ⟨⟨w5, hv5⟩, rfl⟩ := hw'
          clear q0 q1 q2 q3
          all_goals (
            have HBn := Lib.hid (HBX.out _ hv5)
            clear hv5
            go_wp2_with fail
            go_roundw
            case rel => exact ⟨k + 1, by omega, by go_num, HG2, HBn⟩
            case measure => simp [intOf]; omega)
        · obtain ⟨j, hkj⟩ : ∃ j, k = j + 1 := ⟨k - 1, by omega⟩
          obtain ⟨b', o', e', hbe, hbB', hek', q1, q2, q3, q4⟩ := (HE.out.below HB.out).get (k := j) (by omega)
          obtain ⟨rfl, rfl⟩ : b' = b ∧ o' = o := by injection hbe with h; injection h with h1 h2; exact ⟨h1.symm, h2.symm⟩
          have hs0 : stepI (prevI l k) e = ltB e'.key e.key := by
            rw [hkj]
            show stepI ((l[j]?).map (·.key)) e = _
            rw [hek']; rfl
          rw [hs0] at hG
          have d0 : decide ((0 : Int) < k) = true := by simp; omega
          have d1 : decide (0 < k) = true := by simp; omega
          have d2 : (k : Int) - 1 = j := by omega
          have d3 : IntKind.i64.wrap ((k : Int) - 1) = j := by rw [d2]; exact IntWalk.i64_in _ (by omega)
          have hy1 : (0 : Int) ≤ j := by omega
          have hy2 : (j : Int) < n := by omega
          have HC2 : Hid (∀ W, Below (wr.heap.size + 1) (wr.alloc (.cells #[.string e.key, .string e.vl, .int .i64 e.ov, .int .i64 e.sz] 133)) W → (W.cell? ⟨wr.heap.size, 0, none⟩ = some (.string e.key) ∧ W.cell? ⟨wr.heap.size, 1, none⟩ = some (.string e.vl) ∧ W.cell? ⟨wr.heap.size, 2, none⟩ = some (.int .i64 e.ov) ∧ W.cell? ⟨wr.heap.size, 3, none⟩ = some (.int .i64 e.sz)) ∧ W.cell? ⟨b', o' + j * 4, none⟩ = some (.string e'.key)) := Lib.hid (fun W hb => ⟨HC.out W hb, ((((Below.refl _ _).alloc (Nat.le_refl _) _).trans (hb.mono (by omega))).cell (p := ⟨b', o' + j * 4, none⟩) (by show b' < _; omega)).trans q1⟩)
          obtain ⟨b1, hb1⟩ : ∃ b1, Op.bytesLess e'.key.toList e.key.toList = b1 := ⟨_, rfl⟩
          have hk2 : ltB e'.key e.key = b1 := hb1
          rw [hk2] at hG
          clear hs0 hbe q2 q3 q4 hek' hkj hk2 hek HC hk0
          cases b1 with
          | true =>
            rw [Bool.true_and] at hG
            have HG2 := Lib.hid hG
            clear hG
            go_wp2_with fail
            have hq : ∀ p : SinceW (wr.heap.size + 1) (wr.alloc (.cells #[.string e.key, .string e.vl, .int .i64 e.ov, .int .i64 e.sz] 133)), _ := fun p => HC2.out p.w p.h
            have q0 := fun p => (hq p).1.1
            have q1 := fun p => (hq p).1.2.1
            have q2 := fun p => (hq p).1.2.2.1
            have q3 := fun p => (hq p).1.2.2.2
            have q4 := fun p => (hq p).2
            clear hq
            refine wp_region_since (B := wr.heap.size + 1) (W0 := wr.alloc (.cells #[.string e.key, .string e.vl, .int .i64 e.ov, .int .i64 e.sz] 133)) (by kernel_rfl) (by kernel_rfl) (Below.refl _ _) ?_
            repeat (go_big_quiet_step ((go_at_call 238; exact since_call (by simp) (HRt.out _))))
            refine wpQuiet_nil ?_
            intro _ hw'
            obtain ⟨⟨w5, hv5⟩, rfl⟩ := hw'
            clear q0 q1 q2 q3 q4
            all_goals (
              have HBn := Lib.hid (HBX.out _ hv5)
              clear hv5
              go_wp2_with fail
              go_roundw
              case rel => exact ⟨k + 1, by omega, by go_num, HG2, HBn⟩
              case measure => simp [intOf]; omega)
          | false =>
            rw [Bool.false_and] at hG
            subst hG
            go_wp2_with fail
            have hq : ∀ p : SinceW (wr.heap.size + 1) (wr.alloc (.cells #[.string e.key, .string e.vl, .int .i64 e.ov, .int .i64 e.sz] 133)), _ := fun p => HC2.out p.w p.h
            have q0 := fun p => (hq p).1.1
            have q1 := fun p => (hq p).1.2.1
            have q2 := fun p => (hq p).1.2.2.1
            have q3 := fun p => (hq p).1.2.2.2
            have q4 := fun p => (hq p).2
            clear hq
            refine wp_region_since (B := wr.heap.size + 1) (W0 := wr.alloc (.cells #[.string e.key, .string e.vl, .int .i64 e.ov, .int .i64 e.sz] 133)) (by kernel_rfl) (by kernel_rfl) (Below.refl _ _) ?_
            repeat (go_big_quiet_step ((go_at_call 238; exact since_call (by simp) (HRt.out _))))
            refine wpQuiet_nil ?_
            intro _ hw'
            obtain ⟨⟨w5, hv5⟩, rfl⟩ := hw'
            clear q0 q1 q2 q3 q4
            all_goals (
              go_wp2_with fail
              go_ret
              exact ⟨rfl, HBX.out _ hv5⟩)
    · obtain rfl : k = n := by omega
      have hG := HG.out
      rw [List.drop_eq_nil_of_le (by rw [HLn.out]; omega)] at hG
      have hR1 : R = true := hG.symm
      subst hR1
      clear hG
      go_wp2_with fail
      go_ret
      exact ⟨rfl, HB.out⟩
end
/-! ### The walk of leaf.lay. -/
section
open Go.RowKit
set_option linter.unusedVariables false
def boolI (v : Bool) : List UInt8 := if v then [1] else [0]
theorem boolI_len (v : Bool) : (boolI v).length = 1 := by cases v <;> rfl
theorem nboolI_any (v : Bool) (w : World) : Calls Tryz.prog 188 #[.bool v] w fun e w' => e = .returned (.string ⟨(boolI v).toArray⟩) ∧ w = w' := by
  cases v with
  | false =>
    go_enter Tryz.func188, Tryz.ntmps188
    go_wp2
    go_ret
    exact ⟨rfl, rfl⟩
  | true =>
    go_enter Tryz.func188, Tryz.ntmps188
    go_wp2
    go_ret
    exact ⟨rfl, rfl⟩
/-- What stands ahead in an item's bytes, and what behind. -/
def headI (e : Itm) : List UInt8 := textB e.key.data.toList ++ boolI (e.ov != 0)
def tailI (e : Itm) : List UInt8 := if e.ov = 0 then textsB [e.vl] else vars [e.ov, e.sz]
def itmB (e : Itm) : List UInt8 := headI e ++ tailI e
def layI (l : List Itm) : List UInt8 := (l.map itmB).flatten
theorem layI_cons (e : Itm) (l : List Itm) : layI (e :: l) = itmB e ++ layI l := by simp [layI]
theorem layI_append (a b : List Itm) : layI (a ++ b) = layI a ++ layI b := by simp [layI]
theorem headI_len (e : Itm) : (headI e).length ≤ 11 + e.key.size := by
  unfold headI textB
  rw [List.length_append, List.length_append, boolI_len]
  have := var1_len (e.key.data.toList.length : Int)
  have h : e.key.data.toList.length = e.key.size := rfl
  omega
theorem tailI_len (e : Itm) : (tailI e).length ≤ 20 + e.vl.size := by
  unfold tailI
  split
  · have := textsB_len [e.vl]
    simp at this
    omega
  · have := vars_len [e.ov, e.sz]
    simp at this
    omega
theorem itmB_len (e : Itm) : (itmB e).length ≤ 40 + e.len := by
  unfold itmB
  rw [List.length_append]
  have := headI_len e
  have := tailI_len e
  have h : e.len = e.key.size + e.vl.size := rfl
  omega
theorem layI_len (l : List Itm) : (layI l).length ≤ 40 * l.length + (l.map Itm.len).sum := by
  induction l with
  | nil => simp [layI]
  | cons e r ih =>
    have h1 := itmB_len e
    rw [layI_cons, List.length_append, List.length_cons, List.map_cons, List.sum_cons]
    omega
theorem itms_room {w : World} {B : Nat} {ao : Option Addr} {n : Nat} {l : List Itm} (h : Itms w B ao n l) (k : Nat) : (layI (l.take k)).length ≤ 40 * n + (l.map Itm.len).sum := by
  have h1 := layI_len (l.take k)
  have h2 : (l.take k).length ≤ n := by rw [List.length_take, h.1]; omega
  have h3 : ((l.take k).map Itm.len).sum ≤ (l.map Itm.len).sum := by
    have e : (l.map Itm.len).sum = ((l.take k).map Itm.len).sum + ((l.drop k).map Itm.len).sum := by
      rw [← List.sum_append_nat, ← List.map_append, List.take_append_drop]
    omega
  omega
theorem layI_take_succ (l : List Itm) (k : Nat) (e : Itm) (h : l[k]? = some e) : layI (l.take (k + 1)) = layI (l.take k) ++ itmB e := by
  have : l.take (k + 1) = l.take k ++ [e] := by rw [List.take_add_one, h]; rfl
  rw [this]
  simp [layI]
set_option maxRecDepth 20000 in
set_option maxHeartbeats 8000000 in
theorem lay_anyI {ao : Option Addr} {n c : Nat} {l : List Itm} {w : World} (hE : Itms w w.heap.size ao n l) (hok : ∀ e ∈ l, ItmOk e) (hn : n ≤ 2000000) (hs : (l.map Itm.len).sum ≤ 17592186044416) :
    Calls Tryz.prog 200 #[.slice ao n c] w fun e w' => e = .returned (.string ⟨(layI l).toArray⟩) ∧ Below w.heap.size w w' := by
  have HE := Lib.hid hE
  have HOk := Lib.hid hok
  have HS := Lib.hid hs
  have HLn : Hid (l.length = n) := Lib.hid hE.1
  have hall := fun k => itms_room hE k
  have HAll := Lib.hid hall
  clear hE hok hs hall
  obtain ⟨B, hB⟩ : ∃ B, B = w.heap.size := ⟨_, rfl⟩
  have hBle : B ≤ w.heap.size := Nat.le_of_eq hB
  have hbb := Bld.fresh w B hBle
  have hbw : Below B w (w.alloc (.cells #[.pointer none, .slice none 0 0] 162)) := (Below.refl _ _).alloc hBle _
  have HBB : Hid (Bld (w.alloc (.cells #[.pointer none, .slice none 0 0] 162)) B w.heap.size (layI (l.take 0))) := Lib.hid (by simpa [layI] using hbb)
  have HBW := Lib.hid hbw
  have HB := Lib.hid hB
  rw [← hB]
  clear hB hbb hbw
  go_enter Tryz.func200, Tryz.ntmps200
  go_wp2_with fail
  go_loopw [8] (fun i wr => ∃ k : Nat, k ≤ n ∧ i = .int .i64 k ∧ Hid (Bld wr B w.heap.size (layI (l.take k))) ∧ Hid (Below B w wr)) (fun i _ => n - (intOf i).toNat)
  case atStart => exact ⟨0, Nat.zero_le _, rfl, HBB, HBW⟩
  case round =>
    obtain ⟨k, hk, rfl, HBd, HBe⟩ := hrel
    have hsz : B ≤ wr.heap.size := Nat.le_trans hBle HBe.out.size
    by_cases hlt : k < n
    · obtain ⟨g, o, e, rfl, hgB, hek, q1, q2, q3, q4⟩ := (HE.out.keep (fun b hb => HBe.out.block b (by rw [HB.out]; exact hb))).get hlt
      have hx1 : (0 : Int) ≤ k := by omega
      have hx2 : (k : Int) < n := by omega
      obtain ⟨⟨i1, i2⟩, ⟨i3, i4⟩, hds, hvs⟩ := HOk.out e (List.mem_of_getElem? hek)
      have hdsum : e.len ≤ 17592186044416 := by
        have h := HS.out
        have := le_sum (l.map Itm.len) e.len (List.mem_map.2 ⟨e, List.mem_of_getElem? hek, rfl⟩)
        omega
      have hel : e.len = e.key.size + e.vl.size := rfl
      have hHC : ∀ W, Below (wr.heap.size + 1) (wr.alloc (.cells #[.string e.key, .string e.vl, .int .i64 e.ov, .int .i64 e.sz] 133)) W → W.cell? ⟨wr.heap.size, 0, none⟩ = some (.string e.key) ∧ W.cell? ⟨wr.heap.size, 1, none⟩ = some (.string e.vl) ∧ W.cell? ⟨wr.heap.size, 2, none⟩ = some (.int .i64 e.ov) ∧ W.cell? ⟨wr.heap.size, 3, none⟩ = some (.int .i64 e.sz) := by
        intro W hb
        have hc := heap_alloc_new wr (.cells #[.string e.key, .string e.vl, .int .i64 e.ov, .int .i64 e.sz] 133)
        have hk : W.heap[wr.heap.size]? = _ := (hb.block wr.heap.size (by omega)).trans hc
        refine ⟨?_, ?_, ?_, ?_⟩ <;> rw [blk_cell hk] <;> rfl
      have hCF : ∀ W W', Below (wr.heap.size + 1) (wr.alloc (.cells #[.string e.key, .string e.vl, .int .i64 e.ov, .int .i64 e.sz] 133)) W → Far w.heap.size W W' → W'.cell? ⟨wr.heap.size, 0, none⟩ = some (.string e.key) ∧ W'.cell? ⟨wr.heap.size, 1, none⟩ = some (.string e.vl) ∧ W'.cell? ⟨wr.heap.size, 2, none⟩ = some (.int .i64 e.ov) ∧ W'.cell? ⟨wr.heap.size, 3, none⟩ = some (.int .i64 e.sz) := by
        intro W W' hb hf
        have hc := heap_alloc_new wr (.cells #[.string e.key, .string e.vl, .int .i64 e.ov, .int .i64 e.sz] 133)
        have hk : W.heap[wr.heap.size]? = _ := (hb.block wr.heap.size (by omega)).trans hc
        have hlt := HBd.out.lt
        have hk' := (hf _ _ _ hk (by omega) (by decide)).trans hk
        refine ⟨?_, ?_, ?_, ?_⟩ <;> rw [blk_cell hk'] <;> rfl
      have HC := Lib.hid hHC
      have HCF := Lib.hid hCF
      have hHB : ∀ W, Below (wr.heap.size + 1) (wr.alloc (.cells #[.string e.key, .string e.vl, .int .i64 e.ov, .int .i64 e.sz] 133)) W → Below wr.heap.size wr W := fun W hb => ((Below.refl _ _).alloc (Nat.le_refl _) _).trans (hb.mono (by omega))
      have HBX := Lib.hid hHB
      obtain ⟨nb, hnb⟩ : ∃ nb, (e.ov != 0) = nb := ⟨_, rfl⟩
      have hhead : headI e = textB e.key.data.toList ++ boolI nb := by unfold headI; rw [hnb]
      have hcat : ∀ W : World, (Op.stringOp .add ⟨(textsB [e.key]).toArray⟩ ⟨(boolI nb).toArray⟩).run Tryz.prog W = .ok (.string ⟨(headI e).toArray⟩) W := fun W => by
        have h2 := textsB_len [e.key]
        rw [cat_run _ _ W (by rw [boolI_len]; simp at h2; omega), textsB_one, hhead]
      have hlen1 : (layI (l.take k)).length + (ByteArray.mk (headI e).toArray).size ≤ 140737488355328 := by
        have h1 := HAll.out k
        have h2 := HS.out
        have h3 := headI_len e
        show _ + (headI e).toArray.size ≤ _
        simp
        omega
      have hlen2 : (layI (l.take k) ++ headI e).length + (ByteArray.mk (tailI e).toArray).size ≤ 140737488355328 := by
        have h1 := HAll.out k
        have h2 := HS.out
        have h3 := headI_len e
        have h4 := tailI_len e
        show _ + (tailI e).toArray.size ≤ _
        rw [List.length_append]
        simp
        omega
      have HL1 := Lib.hid hlen1
      have HL2 := Lib.hid hlen2
      have HNx : Hid ((layI (l.take k) ++ headI e) ++ tailI e = layI (l.take (k + 1))) := Lib.hid (by rw [layI_take_succ l k e hek, List.append_assoc]; rfl)
      have HTl : Hid (tailI e = if nb = true then vars [e.ov, e.sz] else textsB [e.vl]) := Lib.hid (by
        unfold tailI
        rw [← hnb]
        by_cases h0 : e.ov = 0
        · rw [if_pos h0, h0]; rfl
        · have : (e.ov != 0) = true := by simpa using h0
          rw [if_neg h0, this, if_pos rfl])
      clear hek hHC hCF hHB hlen1 hlen2 hhead
      go_wp2_with fail
      go_region_held3 (fun W => W.cell? ⟨wr.heap.size, 0, none⟩ = some (.string e.key) ∧ W.cell? ⟨wr.heap.size, 1, none⟩ = some (.string e.vl) ∧ W.cell? ⟨wr.heap.size, 2, none⟩ = some (.int .i64 e.ov) ∧ W.cell? ⟨wr.heap.size, 3, none⟩ = some (.int .i64 e.sz))
        ((first | (refine HC.out _ ?_; (repeat (with_reducible (first | assumption | exact Below.refl _ _ | refine Below.drew ?_ | refine Below.alloc ?_ ?_ _))); all_goals (simp <;> omega)) | exact HC7))
        (first
          | (go_at_call 127; ((refine (text_row [e.key] 1 (by first | exact new_at _ _ _ (by simp) | exact old_at _ _ _ _ (new_at _ _ _ (by simp))) rfl rfl (by omega) (by simp; omega)).mono ?_); rintro e5 w5 ⟨rfl, hb5⟩; have hv5 : Below (wr.heap.size + 1) (wr.alloc (.cells #[.string e.key, .string e.vl, .int .i64 e.ov, .int .i64 e.sz] 133)) w5 := (by (refine Below.trans ?_ (hb5.mono ?_)); (repeat (with_reducible (first | assumption | exact Below.refl _ _ | refine Below.drew ?_ | refine Below.alloc ?_ ?_ _))); all_goals (simp <;> omega)); have hs5 : wr.heap.size + 1 ≤ w5.heap.size := (by have := hv5.size; simp at this; omega)))
          | (go_at_call 188; ((refine (nboolI_any _ _).mono ?_); rintro e6 w6 ⟨rfl, rfl⟩))
          | (go_at_call 125; ((refine (writeString_any (HBd.out.below (HBX.out _ hv5)) ⟨(headI e).toArray⟩ HL1.out (by omega)).mono ?_); rintro e7 w7 ⟨rfl, hd7, hb7, hs7, hf7⟩; have hz7 := hb7.size; have HC7 : w7.cell? ⟨wr.heap.size, 0, none⟩ = some (.string e.key) ∧ w7.cell? ⟨wr.heap.size, 1, none⟩ = some (.string e.vl) ∧ w7.cell? ⟨wr.heap.size, 2, none⟩ = some (.int .i64 e.ov) ∧ w7.cell? ⟨wr.heap.size, 3, none⟩ = some (.int .i64 e.sz) := HCF.out _ w7 hv5 hf7; clear hf7)))
      all_goals (
        obtain ⟨c0, c1, c2, c3⟩ := HC7
        have HBd7 := Lib.hid hd7
        have HBe7 := Lib.hid ((HBe.out.trans ((HBX.out _ hv5).mono hsz)).trans hb7)
        clear hd7 hb7 hz7 hv5 hb5 hs5 HBd HBe HBX HC HCF
        have hnb' : (e.ov != 0) = nb := hnb
        cases nb with
        | true =>
          have hT := HTl.out
          rw [if_pos rfl] at hT
          rw [hT] at HL2 HNx
          have HNx2 := HNx
          clear hT HTl HL1
          go_wp2_with fail
          refine (var_row [e.ov, e.sz] 2 (heap_alloc_new w7 _) rfl rfl (by omega) (by simp; omega)).mono ?_
          rintro e8 w8 ⟨rfl, hb8⟩
          have hb78 : Below w7.heap.size w7 w8 := ((Below.refl _ _).alloc (Nat.le_refl _) _).trans (hb8.mono (by simp))
          have HBd8 := Lib.hid (HBd7.out.below hb78)
          have HBe8 := Lib.hid (HBe7.out.trans (hb78.mono hs7))
          have hs8 : B ≤ w8.heap.size := Nat.le_trans hs7 hb78.size
          clear hb8 hb78 c0 c1 c2 c3 HBd7 HBe7
          go_wp2_with fail
          refine (writeString_any HBd8.out ⟨(vars [e.ov, e.sz]).toArray⟩ HL2.out hs8).mono ?_
          rintro e9 w9 ⟨rfl, hd9, hb9, hs9, hf9⟩
          have hd9' : Bld w9 B w.heap.size (layI (l.take (k + 1))) := by rw [← HNx2.out]; exact hd9
          have HBd9 := Lib.hid hd9'
          have HBe9 := Lib.hid (HBe8.out.trans hb9)
          clear hd9 hd9' hb9 hf9 hs9
          go_wp2_with fail
          go_roundw
          case rel => exact ⟨k + 1, by omega, by go_num, HBd9, HBe9⟩
          case measure => simp [intOf]; omega
        | false =>
          have hT := HTl.out
          rw [if_neg (by decide)] at hT
          rw [hT] at HL2 HNx
          have HNx2 := HNx
          clear hT HTl HL1
          go_wp2_with fail
          refine (text_row [e.vl] 1 (heap_alloc_new w7 _) rfl rfl (by omega) (by simp; omega)).mono ?_
          rintro e8 w8 ⟨rfl, hb8⟩
          have hb78 : Below w7.heap.size w7 w8 := ((Below.refl _ _).alloc (Nat.le_refl _) _).trans (hb8.mono (by simp))
          have HBd8 := Lib.hid (HBd7.out.below hb78)
          have HBe8 := Lib.hid (HBe7.out.trans (hb78.mono hs7))
          have hs8 : B ≤ w8.heap.size := Nat.le_trans hs7 hb78.size
          clear hb8 hb78 c0 c1 c2 c3 HBd7 HBe7
          go_wp2_with fail
          refine (writeString_any HBd8.out ⟨(textsB [e.vl]).toArray⟩ HL2.out hs8).mono ?_
          rintro e9 w9 ⟨rfl, hd9, hb9, hs9, hf9⟩
          have hd9' : Bld w9 B w.heap.size (layI (l.take (k + 1))) := by rw [← HNx2.out]; exact hd9
          have HBd9 := Lib.hid hd9'
          have HBe9 := Lib.hid (HBe8.out.trans hb9)
          clear hd9 hd9' hb9 hf9 hs9
          go_wp2_with fail
          go_roundw
          case rel => exact ⟨k + 1, by omega, by go_num, HBd9, HBe9⟩
          case measure => simp [intOf]; omega)
    · have hd := HBd.out
      rw [List.take_of_length_le (by rw [HLn.out]; omega)] at hd
      have hlen := HAll.out n
      rw [List.take_of_length_le (by rw [HLn.out]; omega)] at hlen
      have h0 := HS.out
      have HD := Lib.hid (string_any hd hsz (by omega))
      clear hd h0 hlen
      go_wp2_with fail
      refine (HD.out).mono ?_
      rintro e w1 ⟨rfl, hb1⟩
      go_wp2_with fail
      go_ret
      exact ⟨rfl, HBe.out.trans hb1⟩
end
/-! ### The walks of leaf.Put, Size and Fits. -/
section
open Go.RowKit
set_option linter.unusedVariables false
/-- What Put answers. -/
def putI (l : List Itm) : List UInt8 × Int := if riseI l = true then (if 240 < (layI l).length then ([], 2) else (layI l, 0)) else ([], 1)
/-- Items along a walk: a slice of them that is not too long. -/
structure ItmsOk (w : World) (ao : Option Addr) (n : Nat) (l : List Itm) : Prop where
  itms : Itms w w.heap.size ao n l
  ok : ∀ e ∈ l, ItmOk e
  few : n ≤ 2000000
  sum : (l.map Itm.len).sum ≤ 17592186044416
theorem ItmsOk.below {w w' : World} {ao : Option Addr} {n : Nat} {l : List Itm} (h : ItmsOk w ao n l) (hb : Below w.heap.size w w') : ItmsOk w' ao n l :=
  ⟨(h.itms.below hb).mono hb.size, h.ok, h.few, h.sum⟩
theorem ItmsOk.len {w : World} {ao : Option Addr} {n : Nat} {l : List Itm} (h : ItmsOk w ao n l) : l.length = n := h.itms.1
theorem ItmsOk.bytes {w : World} {ao : Option Addr} {n : Nat} {l : List Itm} (h : ItmsOk w ao n l) : (layI l).length ≤ 17600000000000 := by
  have h1 := layI_len l
  have h2 := h.len
  have h3 := h.few
  have h4 := h.sum
  omega
section
variable {w : World} {ao : Option Addr} {n c : Nat} {l : List Itm} (h : ItmsOk w ao n l)
include h
theorem putI_any : Calls Tryz.prog 94 #[.slice ao n c] w fun e w' => e = .returned (.tuple #[.string ⟨(putI l).1.toArray⟩, .int .i64 (putI l).2]) ∧ Below w.heap.size w w' := by
  have HR := Lib.hid (rise_anyI (c := c) h.itms h.ok (by have := h.few; omega))
  have HL : Hid (∀ W, Below w.heap.size w W → Calls Tryz.prog 200 #[.slice ao n c] W fun e w' => e = .returned (.string ⟨(layI l).toArray⟩) ∧ Below W.heap.size W w') :=
    Lib.hid (fun W hb => lay_anyI (h.below hb).itms h.ok h.few h.sum)
  have hby := h.bytes
  obtain ⟨r, hr⟩ : ∃ r, r = riseI l := ⟨_, rfl⟩
  obtain ⟨L, hL⟩ : ∃ L, L = layI l := ⟨_, rfl⟩
  unfold putI
  rw [← hr] at HR ⊢
  rw [← hL] at HL hby ⊢
  clear hr hL h
  cases r with
  | false =>
    go_enter Tryz.func94, Tryz.ntmps94
    go_wp2_with fail
    refine HR.out.mono ?_
    rintro e w1 ⟨rfl, hb1⟩
    go_wp2_with fail
    go_ret2
    exact ⟨rfl, hb1⟩
  | true =>
    rw [if_pos rfl]
    have hsz : (ByteArray.mk L.toArray).size = L.length := by show L.toArray.size = _; simp
    obtain ⟨S, hS⟩ : ∃ S, S = ByteArray.mk L.toArray := ⟨_, rfl⟩
    rw [← hS] at HL hsz
    have HS := Lib.hid hS
    by_cases hg : 240 < L.length
    · have d0 : decide (240 < (S.size : Int)) = true := by rw [hsz]; simp; omega
      rw [if_pos hg]
      have hs9 : S.size ≤ 9223372036854775807 := by omega
      clear hS hsz hg hby
      go_enter Tryz.func94, Tryz.ntmps94
      go_wp2_with fail
      refine HR.out.mono ?_
      rintro e w1 ⟨rfl, hb1⟩
      go_wp2_with fail
      refine (HL.out w1 hb1).mono ?_
      rintro e w2 ⟨rfl, hb2⟩
      have hb3 := hb1.trans (hb2.mono hb1.size)
      go_wp2_with fail
      go_ret2
      exact ⟨rfl, hb3⟩
    · have d0 : decide (240 < (S.size : Int)) = false := by rw [hsz]; simp; omega
      rw [if_neg hg]
      have hs9 : S.size ≤ 9223372036854775807 := by omega
      rw [← hS]
      clear hS hsz hg hby
      go_enter Tryz.func94, Tryz.ntmps94
      go_wp2_with fail
      refine HR.out.mono ?_
      rintro e w1 ⟨rfl, hb1⟩
      go_wp2_with fail
      refine (HL.out w1 hb1).mono ?_
      rintro e w2 ⟨rfl, hb2⟩
      have hb3 := hb1.trans (hb2.mono hb1.size)
      go_wp2_with fail
      go_ret2
      exact ⟨rfl, hb3⟩
theorem sizeI_any : Calls Tryz.prog 99 #[.slice ao n c] w fun e w' => e = .returned (.int .i64 (layI l).length) ∧ Below w.heap.size w w' := by
  have HL := Lib.hid (lay_anyI (c := c) h.itms h.ok h.few h.sum)
  have hsz : (ByteArray.mk (layI l).toArray).size = (layI l).length := by show (layI l).toArray.size = _; simp
  have hby := h.bytes
  rw [← hsz] at hby ⊢
  obtain ⟨S, hS⟩ : ∃ S, S = ByteArray.mk (layI l).toArray := ⟨_, rfl⟩
  rw [← hS] at HL hby ⊢
  clear hS h hsz
  go_enter Tryz.func99, Tryz.ntmps99
  go_wp2_with fail
  refine HL.out.mono ?_
  rintro e w1 ⟨rfl, hb1⟩
  go_wp2_with fail
  go_ret
  exact ⟨rfl, hb1⟩
theorem fitsI_any : Calls Tryz.prog 101 #[.slice ao n c] w fun e w' => e = .returned (.bool ((putI l).2 == 0)) ∧ Below w.heap.size w w' := by
  have HP := Lib.hid (putI_any (c := c) h)
  obtain ⟨q, hq⟩ : ∃ q, q = putI l := ⟨_, rfl⟩
  rw [← hq] at HP ⊢
  clear hq h
  go_enter Tryz.func101, Tryz.ntmps101
  go_wp2_with fail
  refine HP.out.mono ?_
  rintro e w1 ⟨rfl, hb1⟩
  go_wp2_with fail
  go_ret
  exact ⟨rfl, hb1⟩
end
end
end Go.Proofs.YtmdidmllaldbaaaGreat
