/- The walk of leaf.Find: slices.BinarySearchFunc with its closure, and cmp.Compare of texts. -/
import Derived.Test.YtmdidmllaldbaaaGreatLess
import Derived.Test.YtmdidmllaldbaaaGreatItB
import Derived.IntWalk
namespace Go.Proofs.YtmdidmllaldbaaaGreat
open Go.RowKit
set_option linter.unusedVariables false
/-- Which of two texts is the greater one. -/
def cmpB (a b : ByteArray) : Int := if ltB a b = true then -1 else if ltB b a = true then 1 else 0
theorem cmpB_neg {a b : ByteArray} : cmpB a b < 0 ↔ ltB a b = true := by
  unfold cmpB
  split
  · rename_i h; simp [h]
  · rename_i h
    split <;> simp [h]
theorem cmpB_zero {a b : ByteArray} : cmpB a b = 0 ↔ a = b := by
  unfold cmpB
  split
  · rename_i h
    refine ⟨fun h => by omega, fun e => ?_⟩
    subst e
    rw [ltB_irrefl] at h
    cases h
  · rename_i h
    split
    · rename_i h2
      refine ⟨fun h => by omega, fun e => ?_⟩
      subst e
      rw [ltB_irrefl] at h2
      cases h2
    · rename_i h2
      refine ⟨fun _ => ?_, fun _ => rfl⟩
      have h1 : leB a b = true := leB_not.2 (by simpa using h2)
      unfold leB at h1
      rw [Bool.or_eq_true] at h1
      rcases h1 with h1 | h1
      · exact absurd h1 h
      · exact eqB_iff.1 h1
theorem isNaN_any (a : ByteArray) (w : World) : Calls Tryz.prog 239 #[.string a] w fun e w' => e = .returned (.bool false) ∧ w = w' := by
  have h : (a.toList != a.toList) = false := by simp
  go_enter Tryz.func239, Tryz.ntmps239
  go_wp2_with fail
  go_ret
  exact ⟨rfl, rfl⟩
theorem compare_any (a b : ByteArray) (w : World) : Calls Tryz.prog 207 #[.string a, .string b] w fun e w' => e = .returned (.int .i64 (cmpB a b)) ∧ w = w' := by
  obtain ⟨r, hr⟩ : ∃ r, Op.bytesLess a.toList b.toList = r := ⟨_, rfl⟩
  obtain ⟨s, hs⟩ : ∃ s, (a.toList == b.toList) = s := ⟨_, rfl⟩
  have hc : cmpB a b = if r = true then -1 else if s = true then 0 else 1 := by
    have hle : leB a b = (r || s) := by unfold leB ltB eqB; rw [hr, hs]
    cases r with
    | true =>
      unfold cmpB ltB
      rw [hr]; rfl
    | false =>
      have hl : ltB a b = false := hr
      rw [Bool.false_or] at hle
      unfold cmpB
      rw [hl]
      cases s with
      | true => rw [leB_not.1 hle]; rfl
      | false => rw [not_leB.1 hle]; rfl
  rw [hc]
  cases r <;> cases s
  all_goals
    go_enter Tryz.func207, Tryz.ntmps207
    go_wp2_with (go_at_call 239; refine (isNaN_any _ _).mono ?_; rintro e w1 ⟨rfl, rfl⟩)
    go_ret
    exact ⟨rfl, rfl⟩
/-- The closure of leaf.Find. -/
theorem find_closure (e : Itm) (key : ByteArray) (w : World) : Calls Tryz.prog 206 #[e.agg, .string key] w fun e' w' => e' = .returned (.int .i64 (cmpB e.key key)) ∧ Below w.heap.size w w' := by
  have hb : Below w.heap.size w (w.alloc (.cells #[.string e.key, .string e.vl, .int .i64 e.ov, .int .i64 e.sz] 133)) := (Below.refl _ _).alloc (Nat.le_refl _) _
  have HB := Lib.hid hb
  have HC := Lib.hid (fun W => compare_any e.key key W)
  obtain ⟨z, hz⟩ : ∃ z, z = cmpB e.key key := ⟨_, rfl⟩
  rw [← hz] at HC ⊢
  clear hb hz
  unfold Itm.agg
  go_enter Tryz.func206, Tryz.ntmps206
  go_wp2_with fail
  refine (HC.out _).mono ?_
  rintro e1 w1 ⟨rfl, rfl⟩
  go_wp2_with fail
  go_ret
  exact ⟨rfl, HB.out⟩
/-- The place of a key: what stands ahead is less, what stands there is not. -/
def FindOkI (l : List Itm) (key : ByteArray) (k : Nat) (is : Bool) : Prop :=
  k ≤ l.length ∧ (∀ e, 0 < k → l[k - 1]? = some e → ltB e.key key = true) ∧ (∀ e, l[k]? = some e → ltB e.key key = false) ∧ (is = true ↔ ∃ e, l[k]? = some e ∧ e.key = key)
def FindInvI (l : List Itm) (key : ByteArray) (lo hi : Nat) : Prop :=
  lo ≤ hi ∧ hi ≤ l.length ∧ (∀ e, 0 < lo → l[lo - 1]? = some e → ltB e.key key = true) ∧ (∀ e, l[hi]? = some e → ltB e.key key = false)
theorem FindInvI.start (l : List Itm) (key : ByteArray) : FindInvI l key 0 l.length :=
  ⟨Nat.zero_le _, Nat.le_refl _, fun e h => absurd h (by omega), fun e he => by have := (List.getElem?_eq_some_iff.1 he).1; omega⟩
theorem FindInvI.up {l : List Itm} {key : ByteArray} {lo hi m : Nat} {e : Itm} (h : FindInvI l key lo hi) (h1 : lo ≤ m) (h2 : m < hi) (he : l[m]? = some e) (hk : ltB e.key key = true) : FindInvI l key (m + 1) hi := by
  obtain ⟨a, b, c, d⟩ := h
  refine ⟨by omega, b, fun e' _ he' => ?_, d⟩
  rw [Nat.add_sub_cancel, he] at he'
  injection he' with he'
  rw [← he']; exact hk
theorem FindInvI.down {l : List Itm} {key : ByteArray} {lo hi m : Nat} {e : Itm} (h : FindInvI l key lo hi) (h1 : lo ≤ m) (h2 : m < hi) (he : l[m]? = some e) (hk : ltB e.key key = false) : FindInvI l key lo m := by
  obtain ⟨a, b, c, d⟩ := h
  refine ⟨h1, by omega, c, fun e' he' => ?_⟩
  rw [he] at he'
  injection he' with he'
  rw [← he']; exact hk
def FindIRes (l : List Itm) (key : ByteArray) (w : World) (e : Ending) (w' : World) : Prop := ∃ (k : Nat) (is : Bool), e = .returned (.tuple #[.int .i64 k, .bool is]) ∧ FindOkI l key k is ∧ Below w.heap.size w w'
set_option maxRecDepth 100000 in
set_option maxHeartbeats 4000000 in
theorem search_any {ao : Option Addr} {n c : Nat} {l : List Itm} {w : World} (hE : Itms w w.heap.size ao n l) (hn : n ≤ 140737488351232) (key : ByteArray) :
    Calls Tryz.prog 205 #[.slice ao n c, .string key, .func (.func 206) #[] #[]] w (FindIRes l key w) := by
  have HE := Lib.hid hE
  have hl := hE.1
  have HI := Lib.hid (FindInvI.start l key)
  rw [hl] at HI
  have HLn := Lib.hid hl
  clear hE hl
  go_enter Tryz.func205, Tryz.ntmps205
  go_wp2_with fail
  go_loopw [9, 10] (fun y z wr => ∃ (lo hi : Nat), y = .int .i64 lo ∧ z = .int .i64 hi ∧ Hid (FindInvI l key lo hi) ∧ hi ≤ n ∧ lo ≤ hi ∧ Hid (Below w.heap.size w wr)) (fun y z _ => (intOf z).toNat - (intOf y).toNat)
  case atStart => exact ⟨0, n, rfl, rfl, HI, Nat.le_refl _, Nat.zero_le _, Lib.hid (Below.refl _ _)⟩
  case round =>
    obtain ⟨lo, hi, rfl, rfl, HF, hhi, hlo, HB⟩ := hrel
    have hsz := HB.out.size
    by_cases hlt : lo < hi
    · have hm : (lo + hi) / 2 < n := by omega
      obtain ⟨b, o, e, rfl, hbB, hek, h1, h2, h3, h4⟩ := (HE.out.below HB.out).get hm
      obtain ⟨m, hmm⟩ : ∃ m, m = (lo + hi) / 2 := ⟨_, rfl⟩
      have hm1 : lo ≤ m := by omega
      have hm2 : m < hi := by omega
      rw [← hmm] at hm hek h1 h2 h3 h4
      have hmi : ((lo : Int) + (hi : Int)) / 2 = m := by omega
      have hx1 : (0 : Int) ≤ m := by omega
      have hx2 : (m : Int) < n := by omega
      have hx4 : (lo : Int) < hi := by omega
      have HC := Lib.hid (find_closure e key wr)
      unfold Itm.agg at HC
      cases hk : ltB e.key key with
      | true =>
        have HN := Lib.hid (HF.out.up hm1 hm2 hek hk)
        have hz := cmpB_neg.2 hk
        obtain ⟨z, hzz⟩ : ∃ z, z = cmpB e.key key := ⟨_, rfl⟩
        rw [← hzz] at HC hz
        have hd : decide (z < 0) = true := by simpa using hz
        clear hek hk hmm hzz hz
        go_wp2_with fail
        refine HC.out.mono ?_
        rintro e1 w1 ⟨rfl, hb1⟩
        have HB1 := Lib.hid (HB.out.trans (hb1.mono hsz))
        clear hb1 HC h1 h2 h3 h4
        go_wp2_with fail
        go_roundw
        case rel => exact ⟨m + 1, hi, by go_num, rfl, HN, by omega, by omega, HB1⟩
        case measure => simp [intOf]; omega
      | false =>
        have HN := Lib.hid (HF.out.down hm1 hm2 hek hk)
        have hz : ¬ cmpB e.key key < 0 := fun h => by rw [cmpB_neg.1 h] at hk; cases hk
        obtain ⟨z, hzz⟩ : ∃ z, z = cmpB e.key key := ⟨_, rfl⟩
        rw [← hzz] at HC hz
        have hd : decide (z < 0) = false := by simpa using hz
        clear hek hk hmm hzz hz
        go_wp2_with fail
        refine HC.out.mono ?_
        rintro e1 w1 ⟨rfl, hb1⟩
        have HB1 := Lib.hid (HB.out.trans (hb1.mono hsz))
        clear hb1 HC h1 h2 h3 h4
        go_wp2_with fail
        go_roundw
        case rel => exact ⟨lo, m, rfl, rfl, HN, by omega, by omega, HB1⟩
        case measure => simp [intOf]; omega
    · obtain rfl : lo = hi := by omega
      by_cases hend : lo < n
      · obtain ⟨b, o, e, rfl, hbB, hek, h1, h2, h3, h4⟩ := (HE.out.below HB.out).get hend
        have HC := Lib.hid (find_closure e key wr)
        unfold Itm.agg at HC
        obtain ⟨z, hzz⟩ : ∃ z, z = cmpB e.key key := ⟨_, rfl⟩
        have HOk : Hid (FindOkI l key lo (z == 0)) := Lib.hid ⟨by rw [HLn.out]; omega, HF.out.2.2.1, HF.out.2.2.2, by
          rw [beq_iff_eq, hzz, cmpB_zero]
          refine ⟨fun h => ⟨e, hek, h⟩, ?_⟩
          rintro ⟨e', he', hk'⟩
          rw [hek] at he'
          injection he' with he'
          rw [he']; exact hk'⟩
        rw [← hzz] at HC
        have hx1 : (0 : Int) ≤ lo := by omega
        have hx2 : (lo : Int) < n := by omega
        obtain ⟨zb, hzb⟩ : ∃ zb, (z == 0) = zb := ⟨_, rfl⟩
        rw [hzb] at HOk
        clear hek hzz
        go_wp2_with fail
        refine HC.out.mono ?_
        rintro e1 w1 ⟨rfl, hb1⟩
        have HB1 := Lib.hid (HB.out.trans (hb1.mono hsz))
        clear hb1 HC h1 h2 h3 h4
        go_wp2_with fail
        go_ret2
        exact ⟨lo, zb, rfl, HOk.out, HB1.out⟩
      · have hno : ∀ e, l[lo]? ≠ some e := fun e he => by
          have h1 := (List.getElem?_eq_some_iff.1 he).1
          have h2 := HLn.out
          omega
        have HOk : Hid (FindOkI l key lo false) := Lib.hid ⟨by rw [HLn.out]; omega, HF.out.2.2.1, HF.out.2.2.2, (by
          refine ⟨fun h => (by cases h), ?_⟩
          rintro ⟨e, he, _⟩
          exact absurd he (hno e))⟩
        clear hno
        go_wp2_with fail
        go_ret2
        exact ⟨lo, false, rfl, HOk.out, HB.out⟩
set_option maxHeartbeats 400000 in
theorem findI_any {ao : Option Addr} {n c : Nat} {l : List Itm} {w : World} (hE : Itms w w.heap.size ao n l) (hn : n ≤ 140737488351232) (key : ByteArray) :
    Calls Tryz.prog 105 #[.slice ao n c, .string key] w (FindIRes l key w) := by
  have HS := Lib.hid (search_any (c := c) hE hn key)
  clear hE
  go_enter Tryz.func105, Tryz.ntmps105
  go_wp2_with fail
  refine HS.out.mono ?_
  rintro e w1 ⟨k, is, rfl, hok, hb⟩
  go_wp2_with fail
  go_ret2
  exact ⟨k, is, rfl, hok, hb⟩
end Go.Proofs.YtmdidmllaldbaaaGreat
