/- The walk of branch.Find. -/
import Derived.Test.YtmdidmllaldbaaaGreatLess
import Derived.Test.YtmdidmllaldbaaaGreatViewC
import Derived.Deep.DeepCutAuto
namespace Go.Proofs.YtmdidmllaldbaaaGreat
open Go.RowKit
set_option linter.unusedVariables false
/-- Where a key stands: no child behind the first one is at most the key that is behind the place, and the place's own key is. -/
def FindOk (l : List Chd) (key : ByteArray) (k : Nat) : Prop :=
  (l.length = 0 → k = 0) ∧ (0 < l.length → k < l.length) ∧ (∀ e, 0 < k → l[k]? = some e → leB e.key key = true) ∧ (∀ e, l[k + 1]? = some e → leB e.key key = false)
def FindRes (l : List Chd) (key : ByteArray) (w : World) (e : Ending) (w' : World) : Prop := ∃ k : Nat, e = .returned (.int .i64 k) ∧ FindOk l key k ∧ w = w'
/-- What the search keeps: what it has seen to be above, and below. -/
def FindInv (l : List Chd) (key : ByteArray) (at_ lo hi : Nat) : Prop :=
  lo ≤ hi ∧ hi ≤ l.length ∧ (lo = 0 → at_ = 0) ∧ (0 < lo → at_ + 1 = lo ∧ ∀ e, l[at_]? = some e → leB e.key key = true) ∧ (∀ e, l[max hi 1]? = some e → leB e.key key = false)
theorem FindInv.start (l : List Chd) (key : ByteArray) : FindInv l key 0 0 l.length := by
  refine ⟨Nat.zero_le _, Nat.le_refl _, fun _ => rfl, fun h => absurd h (by omega), fun e he => ?_⟩
  have := (List.getElem?_eq_some_iff.1 he).1
  omega
theorem FindInv.fin {l : List Chd} {key : ByteArray} {at_ lo : Nat} (h : FindInv l key at_ lo lo) : FindOk l key at_ := by
  obtain ⟨_, h1, h2, h3, h4⟩ := h
  by_cases h0 : lo = 0
  · obtain rfl := h2 h0
    subst h0
    exact ⟨fun _ => rfl, fun h => h, fun e h => absurd h (by omega), fun e he => h4 e he⟩
  · obtain ⟨ha, hb⟩ := h3 (by omega)
    refine ⟨fun h => by omega, fun _ => by omega, fun e _ he => hb e he, fun e he => h4 e ?_⟩
    rw [show max lo 1 = at_ + 1 from by omega]
    exact he
theorem FindInv.up {l : List Chd} {key : ByteArray} {at_ lo hi m : Nat} {e : Chd} (h : FindInv l key at_ lo hi) (h1 : lo ≤ m) (h2 : m < hi) (he : l[m]? = some e) (hk : leB e.key key = true) : FindInv l key m (m + 1) hi := by
  obtain ⟨a, b, c, d, f⟩ := h
  refine ⟨by omega, b, fun h => by omega, fun _ => ⟨rfl, fun e' he' => ?_⟩, f⟩
  rw [he] at he'
  injection he' with he'
  rw [← he']; exact hk
theorem FindInv.down {l : List Chd} {key : ByteArray} {at_ lo hi m : Nat} {e : Chd} (h : FindInv l key at_ lo hi) (h1 : lo ≤ m) (h2 : m < hi) (hm : m = lo + (hi - lo) / 2) (he : l[m]? = some e) (hk : leB e.key key = false) : FindInv l key at_ lo m := by
  obtain ⟨a, b, c, d, f⟩ := h
  refine ⟨h1, by omega, c, d, fun e' he' => ?_⟩
  by_cases h0 : m = 0
  · have hhi : hi = 1 := by omega
    subst h0
    subst hhi
    exact f e' he'
  · rw [show max m 1 = m from by omega, he] at he'
    injection he' with he'
    rw [← he']; exact hk
set_option maxRecDepth 100000 in
set_option maxHeartbeats 2000000 in
theorem find_any {ao : Option Addr} {n c : Nat} {l : List Chd} {w : World} (hE : Chds w w.heap.size ao n l) (hn : n ≤ 140737488351232) (key : ByteArray) :
    Calls Tryz.prog 50 #[.slice ao n c, .string key] w (FindRes l key w) := by
  have HE := Lib.hid hE
  have hl := hE.1
  have HI := Lib.hid (FindInv.start l key)
  rw [hl] at HI
  have HLn := Lib.hid hl
  clear hE hl
  go_enter Tryz.func50, Tryz.ntmps50
  go_wp2_with fail
  go_loopw [5, 6, 7] (fun x y z wr => ∃ (at_ lo hi : Nat), x = .int .i64 at_ ∧ y = .int .i64 lo ∧ z = .int .i64 hi ∧ Hid (FindInv l key at_ lo hi) ∧ hi ≤ n ∧ lo ≤ hi ∧ w = wr) (fun _ y z _ => (intOf z).toNat - (intOf y).toNat)
  case atStart => exact ⟨0, 0, n, rfl, rfl, rfl, HI, Nat.le_refl _, Nat.zero_le _, rfl⟩
  case round =>
    obtain ⟨at_, lo, hi, rfl, rfl, rfl, HF, hhi, hlo, rfl⟩ := hrel
    by_cases hlt : lo < hi
    · have hm : lo + (hi - lo) / 2 < n := by omega
      obtain ⟨b, o, e, rfl, hbB, hek, h1, h2⟩ := HE.out.get hm
      obtain ⟨m, hmm⟩ : ∃ m, m = lo + (hi - lo) / 2 := ⟨_, rfl⟩
      rw [← hmm] at hm hek h1 h2
      have hmi : (lo : Int) + ((hi : Int) - lo) / 2 = m := by omega
      have hx1 : (0 : Int) ≤ m := by omega
      have hx2 : (m : Int) < n := by omega
      have hx3 : (0 : Int) ≤ (hi : Int) - lo := by omega
      have hx4 : (lo : Int) < hi := by omega
      obtain ⟨b1, hb1⟩ : ∃ b1, Op.bytesLess e.key.toList key.toList = b1 := ⟨_, rfl⟩
      obtain ⟨b2, hb2⟩ : ∃ b2, (e.key.toList == key.toList) = b2 := ⟨_, rfl⟩
      have hk : leB e.key key = (b1 || b2) := by unfold leB ltB eqB; rw [hb1, hb2]
      cases b1 <;> cases b2
      · have HN := Lib.hid (HF.out.down (by omega) (by omega) hmm hek hk)
        clear hek hk hmm h2
        go_wp2_with fail
        go_roundw
        case rel => exact ⟨at_, lo, m, rfl, rfl, rfl, HN, by omega, by omega, trivial⟩
        case measure => simp [intOf]; omega
      all_goals
        have HN := Lib.hid (HF.out.up (by omega) (by omega) hek hk)
        clear hek hk hmm h2
        go_wp2_with fail
        go_roundw
        case rel => exact ⟨m, m + 1, hi, rfl, by go_num, rfl, HN, by omega, by omega, trivial⟩
        case measure => simp [intOf]; omega
    · obtain rfl : lo = hi := by omega
      have HK := Lib.hid HF.out.fin
      go_wp2_with fail
      go_ret
      exact ⟨at_, rfl, HK.out, rfl⟩
end Go.Proofs.YtmdidmllaldbaaaGreat
