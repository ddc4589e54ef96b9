/- The walk of branch.right. -/
import Derived.Test.YtmdidmllaldbaaaGreatLess
import Derived.Test.YtmdidmllaldbaaaGreatViewC
import Derived.IntWalk
namespace Go.Proofs.YtmdidmllaldbaaaGreat
open Go.RowKit
set_option linter.unusedVariables false
def okC (e : Chd) : Bool := decide (2 ≤ e.pg) && (decide (e.pg ≤ 4294967295) && decide (e.key.size ≤ 40))
def stepC (p : Option ByteArray) (e : Chd) : Bool := match p with
  | none => eqB e.key ⟨#[]⟩
  | some q => !(leB e.key q)
def rightGo : Option ByteArray → List Chd → Bool
  | _, [] => true
  | p, e :: r => (okC e && stepC p e) && rightGo (some e.key) r
/-- Can children be? -/
def rightC (l : List Chd) : Bool := rightGo none l && !l.isEmpty
def prevK (l : List Chd) : Nat → Option ByteArray
  | 0 => none
  | k + 1 => (l[k]?).map (·.key)
theorem rightGo_step {l : List Chd} {k : Nat} {e : Chd} (h : l[k]? = some e) : rightGo (prevK l k) (l.drop k) = ((okC e && stepC (prevK l k) e) && rightGo (prevK l (k + 1)) (l.drop (k + 1))) := by
  have hk := (List.getElem?_eq_some_iff.1 h).1
  have he := (List.getElem?_eq_some_iff.1 h).2
  rw [List.drop_eq_getElem_cons hk, he, rightGo]
  have : prevK l (k + 1) = some e.key := by show (l[k]?).map _ = _; rw [h]; rfl
  rw [this]
theorem emp_eq (a : ByteArray) : eqB a ⟨#[]⟩ = a.toList.isEmpty := by
  unfold eqB
  rw [ByteArray.toList_eq, ByteArray.toList_eq]
  cases a.data.toList <;> rfl
set_option maxRecDepth 20000 in
set_option maxHeartbeats 4000000 in
theorem right_anyC {ao : Option Addr} {n c : Nat} {l : List Chd} {w : World} (hE : Chds w w.heap.size ao n l) (hok : ∀ e ∈ l, ChdOk e) (hn : n ≤ 4611686018427387904) :
    Calls Tryz.prog 176 #[.slice ao n c] w fun e w' => e = .returned (.bool (rightC l)) ∧ Below w.heap.size w w' := by
  have HE := Lib.hid hE
  have HOk := Lib.hid hok
  have hl := hE.1
  have HLn := Lib.hid hl
  obtain ⟨R, hR⟩ : ∃ R, R = rightGo none l := ⟨_, rfl⟩
  have hC : rightC l = (R && decide (0 < n)) := by
    unfold rightC
    rw [← hR, ← hl]
    cases l <;> simp
  rw [hC]
  have HR : Hid (rightGo (prevK l 0) (l.drop 0) = R) := Lib.hid (by rw [hR]; rfl)
  clear hE hl hok hC hR
  go_enter Tryz.func176, Tryz.ntmps176
  go_wp2_with fail
  go_loopw [7] (fun i wr => ∃ k : Nat, k ≤ n ∧ i = .int .i64 k ∧ Hid (rightGo (prevK l k) (l.drop k) = R) ∧ Hid (Below w.heap.size w wr)) (fun i _ => n - (intOf i).toNat)
  case atStart => exact ⟨0, Nat.zero_le _, rfl, HR, Lib.hid (Below.refl _ _)⟩
  case round =>
    obtain ⟨k, hk, rfl, HG, HB⟩ := hrel
    have hsz := HB.out.size
    by_cases hlt : k < n
    · obtain ⟨b, o, e, rfl, hbB, hek, h1, h2⟩ := (HE.out.below HB.out).get hlt
      have hds : e.key.size ≤ 140737488351232 := (HOk.out e (List.mem_of_getElem? hek)).2
      have hG := HG.out
      rw [rightGo_step hek] at hG
      have hx1 : (0 : Int) ≤ k := by omega
      have hx2 : (k : Int) < n := by omega
      have HBA : Hid (∀ ob, Below w.heap.size w (wr.alloc ob)) := Lib.hid (fun ob => HB.out.alloc hsz ob)
      by_cases hc : okC e = true
      · rw [hc, Bool.true_and] at hG
        have hcc := hc
        unfold okC at hcc
        simp only [Bool.and_eq_true, decide_eq_true_eq] at hcc
        obtain ⟨c1, c2, c3⟩ := hcc
        clear hc
        by_cases hk0 : k = 0
        · have hs0 : stepC (prevK l k) e = e.key.toList.isEmpty := by rw [hk0]; exact emp_eq e.key
          rw [hs0] at hG
          have d0 : ((k : Int) == 0) = true := by rw [hk0]; rfl
          have d1 : decide (0 < k) = false := by rw [hk0]; rfl
          clear hs0 hk0
          cases hm : e.key.toList.isEmpty with
          | true =>
            rw [hm, Bool.true_and] at hG
            have HG2 := Lib.hid hG
            clear hek hG
            go_wp2_with fail
            go_quiet (fail)
            go_wp2_with fail
            go_roundw
            case rel => exact ⟨k + 1, by omega, by go_num, HG2, Lib.hid (below_drewN (HBA.out _) _)⟩
            case measure => simp [intOf]; omega
          | false =>
            rw [hm, Bool.false_and] at hG
            subst hG
            clear hek
            go_wp2_with fail
            go_ret
            exact ⟨rfl, HBA.out _⟩
        · obtain ⟨j, hkj⟩ : ∃ j, k = j + 1 := ⟨k - 1, by omega⟩
          obtain ⟨b', o', e', hbe, hbB', hek', q1, q2⟩ := (HE.out.below HB.out).get (k := j) (by omega)
          obtain ⟨rfl, rfl⟩ : b' = b ∧ o' = o := by injection hbe with h; injection h with h1 h2; exact ⟨h1.symm, h2.symm⟩
          have hs0 : stepC (prevK l k) e = !(leB e.key e'.key) := by
            rw [hkj]
            show stepC ((l[j]?).map (·.key)) e = _
            rw [hek']; rfl
          rw [hs0] at hG
          have d0 : ((k : Int) == 0) = false := by simp; omega
          have d1 : decide (0 < k) = true := by simp; omega
          have d2 : (k : Int) - 1 = j := by omega
          have d3 : IntKind.i64.wrap ((k : Int) - 1) = j := by rw [d2]; exact IntWalk.i64_in _ (by omega)
          clear hs0 hbe q2 hek' hkj
          have p1 : ∀ ob, (wr.alloc ob).cell? ⟨b', o' + j * 2, none⟩ = some (.string e'.key) := fun ob => (World.cell?_alloc_lt wr ob _ (by show b' < _; omega)).trans q1
          obtain ⟨b1, hb1⟩ : ∃ b1, Op.bytesLess e.key.toList e'.key.toList = b1 := ⟨_, rfl⟩
          obtain ⟨b2, hb2⟩ : ∃ b2, (e.key.toList == e'.key.toList) = b2 := ⟨_, rfl⟩
          have hk2 : leB e.key e'.key = (b1 || b2) := by unfold leB ltB eqB; rw [hb1, hb2]
          rw [hk2] at hG
          have hy1 : (0 : Int) ≤ j := by omega
          have hy2 : (j : Int) < n := by omega
          cases b1 <;> cases b2
          · have HG2 : Hid (rightGo (prevK l (k + 1)) (l.drop (k + 1)) = R) := Lib.hid (by simpa using hG)
            clear hek hk2 hG hk0
            go_wp2_with fail
            go_quiet (fail)
            go_wp2_with fail
            go_roundw
            case rel => exact ⟨k + 1, by omega, by go_num, HG2, Lib.hid (below_drewN (HBA.out _) _)⟩
            case measure => simp [intOf]; omega
          all_goals
            simp only [Bool.or_true, Bool.true_or, Bool.or_self, Bool.not_true, Bool.false_and] at hG
            subst hG
            clear hek hk2 hk0
            go_wp2_with fail
            go_quiet (fail)
            go_wp2_with fail
            go_ret
            exact ⟨rfl, below_drewN (HBA.out _) _⟩
      · have hR0 : R = false := by
          have : okC e = false := by simpa using hc
          rw [this] at hG
          simpa using hG.symm
        subst hR0
        unfold okC at hc
        simp only [Bool.and_eq_true, decide_eq_true_eq] at hc
        rcases (show e.pg < 2 ∨ (2 ≤ e.pg ∧ 4294967295 < e.pg) ∨ (2 ≤ e.pg ∧ e.pg ≤ 4294967295 ∧ 40 < e.key.size) by omega) with c1 | ⟨c1, c2⟩ | ⟨c1, c2, c3⟩
        all_goals
          clear hek hG hc
          go_wp2_with fail
          go_ret
          exact ⟨rfl, HBA.out _⟩
    · obtain rfl : k = n := by omega
      have hG := HG.out
      rw [List.drop_eq_nil_of_le (by rw [HLn.out]; omega)] at hG
      have hR1 : R = true := hG.symm
      subst hR1
      clear hG
      go_wp2_with fail
      go_ret
      exact ⟨by rfl, HB.out⟩
end Go.Proofs.YtmdidmllaldbaaaGreat
