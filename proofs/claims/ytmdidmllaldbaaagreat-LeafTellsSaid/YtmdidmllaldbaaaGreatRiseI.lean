/- The walk of arboretumlaw8.rises. -/
import Derived.Test.YtmdidmllaldbaaaGreatLess
import Derived.Test.YtmdidmllaldbaaaGreatItB
import Derived.IntWalk
namespace Go.Proofs.YtmdidmllaldbaaaGreat
open Go.RowKit
set_option linter.unusedVariables false
/-- The keys rise. -/
def RisingI (l : List Itm) : Prop := ∀ (j : Nat) (a b : Itm), l[j]? = some a → l[j + 1]? = some b → ltB a.key b.key = true
/-- The keys rise up to a place. -/
def RisesI (l : List Itm) (k : Nat) : Prop := ∀ (j : Nat) (a b : Itm), j + 1 < k → l[j]? = some a → l[j + 1]? = some b → ltB a.key b.key = true
def RiseIRes (l : List Itm) (w : World) (e : Ending) (w' : World) : Prop := ∃ r : Bool, e = .returned (.bool r) ∧ (r = true ↔ RisingI l) ∧ ∃ m, w' = w.drewN m
theorem RisesI.step {l : List Itm} {k j : Nat} {a b : Itm} (h : RisesI l k) (hk : k = j + 1) (ha : l[j]? = some a) (hb : l[k]? = some b) (hl : ltB a.key b.key = true) : RisesI l (k + 1) := by
  intro i x y h2 hx hy
  by_cases hi : i + 1 < k
  · exact h i x y hi hx hy
  · obtain rfl : i = j := by omega
    rw [ha] at hx
    rw [hk] at hb
    rw [hb] at hy
    injection hx with hx
    injection hy with hy
    rw [← hx, ← hy]
    exact hl
set_option maxRecDepth 20000 in
set_option maxHeartbeats 4000000 in
theorem risesI_any {ao : Option Addr} {n c : Nat} {l : List Itm} {w : World} {B : Nat} (hE : Itms w B ao n l) (hok : ∀ e ∈ l, e.key.size ≤ 140737488351232) (hn : n ≤ 140737488351232) :
    Calls Tryz.prog 104 #[.slice ao n c] w (RiseIRes l w) := by
  have HE := Lib.hid hE
  have HOk := Lib.hid hok
  have HLn := Lib.hid hE.1
  clear hE hok
  go_enter Tryz.func104, Tryz.ntmps104
  go_wp2_with fail
  go_loopw [3] (fun i wr => ∃ k : Nat, 1 ≤ k ∧ k ≤ n + 1 ∧ i = .int .i64 k ∧ Hid (RisesI l k) ∧ ∃ q, wr = w.drewN q) (fun i _ => n + 1 - (intOf i).toNat)
  case atStart => exact ⟨1, Nat.le_refl _, by omega, rfl, Lib.hid (fun j a b h2 => by omega), 0, rfl⟩
  case round =>
    obtain ⟨k, hk2, hkn, rfl, HR, q, rfl⟩ := hrel
    by_cases hlt : k < n
    · obtain ⟨j, hkj⟩ : ∃ j, k = j + 1 := ⟨k - 1, by omega⟩
      obtain ⟨b, o, e, rfl, hbB, hek, h1, h2, h3, h4⟩ := HE.out.get hlt
      obtain ⟨b', o', e', hbe, hbB', hek', q1, q2, q3, q4⟩ := HE.out.get (k := j) (by omega)
      obtain ⟨rfl, rfl⟩ : b' = b ∧ o' = o := by injection hbe with h; injection h with h1 h2; exact ⟨h1.symm, h2.symm⟩
      have s1 := HOk.out e (List.mem_of_getElem? hek)
      have s2 := HOk.out e' (List.mem_of_getElem? hek')
      have d2 : (k : Int) - 1 = j := by omega
      have d3 : IntKind.i64.wrap (j : Int) = j := IntWalk.i64_in _ (by omega)
      have hx1 : (0 : Int) ≤ k := by omega
      have hx2 : (k : Int) < n := by omega
      have hy1 : (0 : Int) ≤ j := by omega
      have hy2 : (j : Int) < n := by omega
      have HN : ltB e'.key e.key = true → Hid (RisesI l (k + 1)) := fun h => Lib.hid (HR.out.step hkj hek' hek h)
      have HX : Hid (ltB e'.key e.key = false → ¬ RisingI l) := Lib.hid (fun h hr => by
        have := hr j e' e hek' (by rw [← hkj]; exact hek)
        rw [h] at this
        cases this)
      obtain ⟨r, hr⟩ : ∃ r, r = ltB e'.key e.key := ⟨_, rfl⟩
      rw [← hr] at HN HX
      have HLs : Hid (∀ W, Calls Tryz.prog 178 #[.string e'.key, .string e.key] W (QuietRes (.bool r) W)) := Lib.hid (fun W => by rw [hr]; exact less_any e'.key e.key W (by omega) (by omega))
      clear hek hek' hbe hkj s1 s2 hr h2 h3 h4 q2 q3 q4
      cases r with
      | true =>
        have HN2 := HN rfl
        clear HN HX
        go_wp2_with fail
        go_quiet ((go_at_call 178; first | exact QuietRes.more (HLs.out _) | exact Calls.quiet_of (HLs.out _)))
        go_wp2_with fail
        go_roundw
        case rel => exact ⟨k + 1, by omega, by omega, by go_num, HN2, _, rfl⟩
        case measure => simp [intOf]; omega
      | false =>
        have HX2 : Hid (¬ RisingI l) := Lib.hid (HX.out rfl)
        clear HN HX
        go_wp2_with fail
        go_quiet ((go_at_call 178; first | exact QuietRes.more (HLs.out _) | exact Calls.quiet_of (HLs.out _)))
        go_wp2_with fail
        go_ret
        exact ⟨false, rfl, ⟨(fun h => by cases h), fun h => absurd h HX2.out⟩, _, World.drewN_drewN _ _ _⟩
    · have hr : RisingI l := fun j a b ha hb => HR.out j a b (by
        have h1 := (List.getElem?_eq_some_iff.1 hb).1
        have h2 := HLn.out
        omega) ha hb
      have HRs := Lib.hid hr
      clear hr
      go_wp2_with fail
      go_ret
      exact ⟨true, rfl, ⟨fun _ => HRs.out, fun _ => rfl⟩, _, rfl⟩
end Go.Proofs.YtmdidmllaldbaaaGreat
