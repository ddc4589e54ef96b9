/- The walk of arboretumlaw29.Light (printed by wip/gen_lightl.py). -/
import Derived.Test.YtfogoebflfkknaaViewL
import Derived.Test.YtfogoebflfkknaaEntB
namespace Go.Proofs.Ytfogoebflfkknaa
open Go.RowKit
set_option linter.unusedVariables false
/-- A step that is short enough. -/
def LFew (e : LOp) : Prop := e.key.size ≤ 1000 ∧ e.val.size ≤ 1000 ∧ e.old.size ≤ 1000 ∧ e.r.val.size ≤ 1000 ∧ e.dt.size ≤ 1000
def LightRes (n : Nat) (l : List LOp) (w : World) (e : Ending) (w' : World) : Prop := ∃ r : Bool, e = .returned (.bool r) ∧ (r = true → n ≤ 200 ∧ ∀ x ∈ l, LFew x) ∧ w = w'
def LAll (l : List LOp) (k : Nat) : Prop := ∀ j e, j < k → l[j]? = some e → LFew e
theorem LAll.more {l : List LOp} {k : Nat} {e : LOp} (h : LAll l k) (he : l[k]? = some e) (hf : LFew e) : LAll l (k + 1) := by
  intro j x hj hx
  rcases Nat.lt_or_ge j k with h1 | h1
  · exact h j x h1 hx
  · have : j = k := by omega
    subst this
    rw [he] at hx
    injection hx with hx
    rw [← hx]; exact hf
theorem LAll.all {l : List LOp} {k : Nat} (h : LAll l k) (hk : l.length ≤ k) : ∀ x ∈ l, LFew x := by
  intro x hx
  obtain ⟨j, hj, rfl⟩ := List.getElem_of_mem hx
  exact h j _ (by omega) (List.getElem?_eq_getElem hj)
set_option maxHeartbeats 2000000 in
set_option maxRecDepth 20000 in
theorem light_any {ao : Option Addr} {B n c : Nat} {l : List LOp} {w : World} (hE : LOps w B ao n l) (hn : n ≤ 4611686018427387904) :
    Calls Try.prog 41 #[.slice ao n c] w (LightRes n l w) := by
  have HE := Lib.hid hE
  clear hE
  go_enter Try.func41, Try.ntmps41
  go_wp2_with fail
  go_loop [3] (fun i => ∃ k : Nat, k ≤ n ∧ k ≤ 400 ∧ i = .int .i64 k ∧ Hid (LAll l k)) (fun i => n - (intOf i).toNat)
  case atStart => exact ⟨0, Nat.zero_le _, by omega, rfl, Lib.hid (fun j e hj => by omega)⟩
  case round =>
    obtain ⟨k, hk, hk4, rfl, HA⟩ := hrel
    by_cases hlt : k < n
    · by_cases h4 : k < 400
      · obtain ⟨b, o, rfl, -, hc⟩ := HE.out.2 (by omega)
        obtain ⟨e, he⟩ : ∃ e, l[k]? = some e := ⟨l[k]'(by rw [HE.out.1]; exact hlt), List.getElem?_eq_getElem (by rw [HE.out.1]; exact hlt)⟩
        have y3 := hc k e he 3 _ rfl
        have y4 := hc k e he 4 _ rfl
        have y5 := hc k e he 5 _ rfl
        have y7 := hc k e he 7 _ rfl
        have y9 := hc k e he 9 _ rfl
        have HK := Lib.hid he
        have hx1 : (0 : Int) ≤ k := by omega
        have hx2 : (k : Int) < n := by omega
        clear hc he
        by_cases s0 : 1000 < e.key.size
        · have d0 : decide ((1000 : Int) < e.key.size) = true := by simp; omega
          clear s0
          go_wp2_with fail
          go_ret
          exact ⟨false, rfl, (fun h => by cases h), rfl⟩
        · have d0 : decide ((1000 : Int) < e.key.size) = false := by simp; omega
          by_cases s1 : 1000 < e.val.size
          · have d1 : decide ((1000 : Int) < e.val.size) = true := by simp; omega
            clear s1
            go_wp2_with fail
            go_ret
            exact ⟨false, rfl, (fun h => by cases h), rfl⟩
          · have d1 : decide ((1000 : Int) < e.val.size) = false := by simp; omega
            by_cases s2 : 1000 < e.old.size
            · have d2 : decide ((1000 : Int) < e.old.size) = true := by simp; omega
              clear s2
              go_wp2_with fail
              go_ret
              exact ⟨false, rfl, (fun h => by cases h), rfl⟩
            · have d2 : decide ((1000 : Int) < e.old.size) = false := by simp; omega
              by_cases s3 : 1000 < e.r.val.size
              · have d3 : decide ((1000 : Int) < e.r.val.size) = true := by simp; omega
                clear s3
                go_wp2_with fail
                go_ret
                exact ⟨false, rfl, (fun h => by cases h), rfl⟩
              · have d3 : decide ((1000 : Int) < e.r.val.size) = false := by simp; omega
                by_cases s4 : 1000 < e.dt.size
                · have d4 : decide ((1000 : Int) < e.dt.size) = true := by simp; omega
                  clear s4
                  go_wp2_with fail
                  go_ret
                  exact ⟨false, rfl, (fun h => by cases h), rfl⟩
                · have d4 : decide ((1000 : Int) < e.dt.size) = false := by simp; omega
                  have HF : Hid (LFew e) := Lib.hid ⟨by omega, by omega, by omega, by omega, by omega⟩
                  clear s0 s1 s2 s3 s4
                  go_wp2_with fail
                  go_round
                  case rel => exact ⟨k + 1, by omega, by omega, by go_num, Lib.hid (HA.out.more HK.out HF.out)⟩
                  case measure => simp [intOf]; omega
      · have hbig : decide ((n : Int) ≤ 200) = false := by simp; omega
        have hbig' : decide (n ≤ 200) = false := by simp; omega
        go_wp2_with fail
        go_ret
        exact ⟨false, rfl, (fun h => by cases h), rfl⟩
    · obtain rfl : k = n := by omega
      by_cases hbig : k ≤ 200
      · have d1 : decide ((k : Int) ≤ 200) = true := by simp; omega
        have HB := Lib.hid hbig
        clear hbig
        go_wp2_with fail
        go_ret
        exact ⟨true, rfl, (fun _ => ⟨HB.out, HA.out.all (by rw [HE.out.1]; exact Nat.le_refl _)⟩), rfl⟩
      · have d1 : decide ((k : Int) ≤ 200) = false := by simp; omega
        clear hbig
        go_wp2_with fail
        go_ret
        exact ⟨false, rfl, (fun h => by cases h), rfl⟩
end Go.Proofs.Ytfogoebflfkknaa
