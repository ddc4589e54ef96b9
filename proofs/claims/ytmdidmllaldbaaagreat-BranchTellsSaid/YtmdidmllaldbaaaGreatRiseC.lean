/- The walk of arboretumlaw9.rises. -/
import Derived.Test.YtmdidmllaldbaaaGreatFindC
import Derived.IntWalk
namespace Go.Proofs.YtmdidmllaldbaaaGreat
open Go.RowKit
set_option linter.unusedVariables false
/-- From the second child on the keys rise. -/
def Rises (l : List Chd) (k : Nat) : Prop := ∀ (j : Nat) (a b : Chd), 1 ≤ j → j + 1 < k → l[j]? = some a → l[j + 1]? = some b → ltB a.key b.key = true
def RiseRes (l : List Chd) (w : World) (e : Ending) (w' : World) : Prop := ∃ r : Bool, e = .returned (.bool r) ∧ (r = true → Rises l l.length) ∧ ∃ m, w' = w.drewN m
theorem Rises.step {l : List Chd} {k j : Nat} {a b : Chd} (h : Rises l k) (hk : k = j + 1) (ha : l[j]? = some a) (hb : l[k]? = some b) (hl : ltB a.key b.key = true) : Rises l (k + 1) := by
  intro i x y h1 h2 hx hy
  by_cases hi : i + 1 < k
  · exact h i x y h1 hi hx hy
  · obtain rfl : i = j := by omega
    rw [ha] at hx
    rw [hk] at hb
    rw [hb] at hy
    injection hx with hx
    injection hy with hy
    rw [← hx, ← hy]
    exact hl
set_option maxRecDepth 20000 in
set_option maxHeartbeats 4000000 in
theorem rises_any {ao : Option Addr} {n c : Nat} {l : List Chd} {w : World} (hE : Chds w w.heap.size ao n l) (hok : ∀ e ∈ l, ChdOk e) (hn : n ≤ 140737488351232) :
    Calls Tryz.prog 49 #[.slice ao n c] w (RiseRes l w) := by
  have HE := Lib.hid hE
  have HOk := Lib.hid hok
  have HLn := Lib.hid hE.1
  clear hE hok
  go_enter Tryz.func49, Tryz.ntmps49
  go_wp2_with fail
  go_loopw [3] (fun i wr => ∃ k : Nat, 2 ≤ k ∧ k ≤ n + 2 ∧ i = .int .i64 k ∧ Hid (Rises l k) ∧ ∃ q, wr = w.drewN q) (fun i _ => n + 2 - (intOf i).toNat)
  case atStart => exact ⟨2, Nat.le_refl _, by omega, rfl, Lib.hid (fun j a b h1 h2 => by omega), 0, rfl⟩
  case round =>
    obtain ⟨k, hk2, hkn, rfl, HR, q, rfl⟩ := hrel
    by_cases hlt : k < n
    · obtain ⟨j, hkj⟩ : ∃ j, k = j + 1 := ⟨k - 1, by omega⟩
      obtain ⟨b, o, e, rfl, hbB, hek, h1, h2⟩ := HE.out.get hlt
      obtain ⟨b', o', e', hbe, hbB', hek', q1, q2⟩ := HE.out.get (k := j) (by omega)
      obtain ⟨rfl, rfl⟩ : b' = b ∧ o' = o := by injection hbe with h; injection h with h1 h2; exact ⟨h1.symm, h2.symm⟩
      have s1 := (HOk.out e (List.mem_of_getElem? hek)).2
      have s2 := (HOk.out e' (List.mem_of_getElem? hek')).2
      have d2 : (k : Int) - 1 = j := by omega
      have d3 : IntKind.i64.wrap (j : Int) = j := IntWalk.i64_in _ (by omega)
      have hx1 : (0 : Int) ≤ k := by omega
      have hx2 : (k : Int) < n := by omega
      have hy1 : (0 : Int) ≤ j := by omega
      have hy2 : (j : Int) < n := by omega
      have HN : ltB e'.key e.key = true → Hid (Rises l (k + 1)) := fun h => Lib.hid (HR.out.step hkj hek' hek h)
      obtain ⟨r, hr⟩ : ∃ r, r = ltB e'.key e.key := ⟨_, rfl⟩
      rw [← hr] at HN
      have HLs : Hid (∀ W, Calls Tryz.prog 178 #[.string e'.key, .string e.key] W (QuietRes (.bool r) W)) := Lib.hid (fun W => by rw [hr]; exact less_any e'.key e.key W (by omega) (by omega))
      clear hek hek' hbe hkj s1 s2 hr
      cases r with
      | true =>
        have HN2 := HN rfl
        clear HN
        go_wp2_with fail
        go_quiet ((go_at_call 178; first | exact QuietRes.more (HLs.out _) | exact Calls.quiet_of (HLs.out _)))
        go_wp2_with fail
        go_roundw
        case rel => exact ⟨k + 1, by omega, by omega, by go_num, HN2, _, rfl⟩
        case measure => simp [intOf]; omega
      | false =>
        clear HN
        go_wp2_with fail
        go_quiet ((go_at_call 178; first | exact QuietRes.more (HLs.out _) | exact Calls.quiet_of (HLs.out _)))
        go_wp2_with fail
        go_ret
        exact ⟨false, rfl, (fun h => by cases h), _, World.drewN_drewN _ _ _⟩
    · have hr : Rises l l.length := fun j a b h1 h2 => HR.out j a b h1 (by have := HLn.out; omega)
      have HR2 := Lib.hid hr
      clear hr
      go_wp2_with fail
      go_ret
      exact ⟨true, rfl, fun _ => HR2.out, _, rfl⟩
end Go.Proofs.YtmdidmllaldbaaaGreat
