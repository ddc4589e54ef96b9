/- The walk of arboretumlaw8.small. -/
import Derived.Test.YtmdidmllaldbaaaGreatRoom
import Derived.Test.YtmdidmllaldbaaaGreatViewIt
import Derived.Deep.RegionHeld3
namespace Go.Proofs.YtmdidmllaldbaaaGreat
open Go.RowKit
set_option linter.unusedVariables false
/-- How many bytes items have. -/
def itmSum (l : List Itm) : Nat := (l.map Itm.len).sum
theorem room_two_at (left v u : Int) {W : World} {g : Nat} {t : TypeId} (h : W.heap[g]? = some (.cells #[.int .i64 v, .int .i64 u] t (0, 0))) (h1 : -1 ≤ left) (h2 : left ≤ 9223372036854775807) (h3 : 0 ≤ v) (h4 : v ≤ 9223372036854775807) (h5 : 0 ≤ u) (h6 : u ≤ 9223372036854775807) :
    Calls Tryz.prog 113 #[.int .i64 left, .slice (some ⟨g, 0, none⟩) 2 2] W (RoomEq left (v + u) W) := by
  have hv : ∀ x ∈ [v, u], 0 ≤ x ∧ x ≤ 9223372036854775807 := by simp; omega
  have hi : IntsAt W (some ⟨g, 0, none⟩) 2 [v, u] := ⟨rfl, fun _ => ⟨g, 0, rfl, fun k x hk => by
    rw [blk_cell h]
    rcases k with _ | _ | k
    · have : x = v := by simpa using hk.symm
      subst this; rfl
    · have : x = u := by simpa using hk.symm
      subst this; rfl
    · simp at hk⟩⟩
  refine (room_any left _ 2 2 [v, u] _ hi (by omega) hv (by omega) h2).mono ?_
  rintro e w' ⟨he, hw⟩
  have := roomV_le [v, u] left (fun x hx => (hv x hx).1) h1
  refine ⟨_, he, this.1, this.2, ?_, hw⟩
  unfold roomV
  split
  · omega
  · unfold roomV roomV
    split <;> omega
theorem new_atI (W : World) (o : Obj) (g : Nat) (h : g = W.heap.size) : (W.alloc o).heap[g]? = some o := by
  subst h
  exact heap_alloc_new W o
theorem old_atI (W : World) (o o' : Obj) (g : Nat) (h : W.heap[g]? = some o) : (W.alloc o').heap[g]? = some o := by
  have hlt : g < W.heap.size := by
    rcases Nat.lt_or_ge g W.heap.size with hlt | hge
    · exact hlt
    · rw [Array.getElem?_eq_none hge] at h; cases h
  exact (Below.heap_alloc W o' g hlt).trans h
/-- Are items few and short enough? -/
def SmallIRes (n : Nat) (l : List Itm) (w : World) (e : Ending) (w' : World) : Prop := ∃ r : Bool, e = .returned (.bool r) ∧ (r = true → n ≤ 100 ∧ itmSum l ≤ 9000) ∧ Below w.heap.size w w'
set_option maxHeartbeats 400000 in
set_option maxRecDepth 20000 in
theorem smallI_any {ao : Option Addr} {n c : Nat} {l : List Itm} {w : World} (hE : ItmsIn w ao n c l) :
    Calls Tryz.prog 91 #[.slice ao n c] w (SmallIRes n l w) := by
  have HE := Lib.hid hE
  have hn : n ≤ 9223372036854775807 := by have := hE.sz; have := hE.le; omega
  clear hE
  go_enter Tryz.func91, Tryz.ntmps91
  go_wp2
  go_loopw [3, 4] (fun x i wr => ∃ (k : Nat) (R : Int), k ≤ n ∧ x = .int .i64 R ∧ i = .int .i64 k ∧ -1 ≤ R ∧ R ≤ 9000 ∧ Hid (0 ≤ R → R = 9000 - ((((l.map Itm.len).take k).sum : Nat) : Int)) ∧ Below w.heap.size w wr) (fun _ i _ => n - (intOf i).toNat)
  case atStart => exact ⟨0, 9000, Nat.zero_le _, rfl, rfl, by omega, by omega, Lib.hid (by simp), Below.refl _ _⟩
  case round =>
    obtain ⟨k, R, hk, rfl, rfl, hR1, hR2, HR, hb⟩ := hrel
    have HB := Lib.hid hb
    have hsz := hb.size
    clear hb
    by_cases hlt : k < n
    · obtain ⟨b, o, e, rfl, hbB, hek, h1, h2, h3, h4⟩ := (HE.out.itms.below HB.out).get hlt
      obtain ⟨-, -, hds, hvs⟩ := HE.out.ok e (List.mem_of_getElem? hek)
      have hst := sum_take_succ (l.map Itm.len) k e.len (by rw [List.getElem?_map, hek]; rfl)
      have HSt := Lib.hid hst
      have HEk := Lib.hid hek
      clear hek h3 h4 hst
      by_cases h6 : k < 300
      · by_cases hR0 : 0 ≤ R
        · have hd : decide (0 ≤ R) = true := by simpa using hR0
          have HC : Hid (∀ W, Below w.heap.size w W → W.cell? ⟨b, o + k * 4, none⟩ = some (.string e.key) ∧ W.cell? ⟨b, o + k * 4 + 1, none⟩ = some (.string e.vl)) := Lib.hid (fun W hb => by
            obtain ⟨b', o', e', ha, _, he', s1, s2, _, _⟩ := (HE.out.itms.below hb).get hlt
            injection ha with ha
            injection ha with h1 h2
            subst h1 h2
            rw [HEk.out] at he'
            injection he' with he'
            subst he'
            exact ⟨s1, s2⟩)
          have hb := HB.out
          have hx1 : (0 : Int) ≤ k := by omega
          have hx2 : (k : Int) < n := by omega
          clear h1 h2
          go_wp2_with fail
          go_region_held3 (fun W => W.cell? ⟨b, o + k * 4, none⟩ = some (.string e.key) ∧ W.cell? ⟨b, o + k * 4 + 1, none⟩ = some (.string e.vl))
            ((refine HC.out _ ?_; (repeat (with_reducible (first | assumption | exact Below.refl _ _ | refine Below.drew ?_ | refine Below.alloc ?_ ?_ _))); all_goals (simp <;> omega)))
            ((go_at_call 113; refine (room_two_at R (e.key.size : Int) (e.vl.size : Int) (by first | exact new_atI _ _ _ (by simp) | exact old_atI _ _ _ _ (new_atI _ _ _ (by simp))) hR1 (by omega) (by omega) (by omega) (by omega) (by omega)).mono ?_; rintro e' w2 ⟨y, rfl, hy1, hy2, hy3, rfl⟩; have HY := Lib.hid hy3; clear hy3))
          go_wp2_with fail
          go_roundw
          case rel => exact ⟨k + 1, y, by omega, rfl, by go_num, hy1, by omega, Lib.hid (fun h0 => by have := HY.out h0; have := HR.out hR0; rw [HSt.out]; have hel : e.len = e.key.size + e.vl.size := rfl; omega), by (repeat (with_reducible (first | assumption | exact Below.refl _ _ | refine Below.drew ?_ | refine Below.alloc ?_ ?_ _))); all_goals (simp <;> omega)⟩
          case measure => simp [intOf]; omega
        · have hd : decide (0 ≤ R) = false := by simpa using hR0
          go_wp2_with fail
          all_goals (go_ret; exact ⟨false, rfl, (fun h => by cases h), HB.out⟩)
      · have hbig : 100 < n := by omega
        go_wp2_with fail
        all_goals (go_ret; exact ⟨false, rfl, (fun h => by cases h), HB.out⟩)
    · obtain rfl : k = n := by omega
      have hfull : ((l.map Itm.len).take k).sum = itmSum l := by
        unfold itmSum
        rw [List.take_of_length_le (by rw [List.length_map, HE.out.itms.1]; omega)]
      have HFu := Lib.hid hfull
      clear hfull
      by_cases hbig : 100 < k
      · have hd : decide ((k : Int) ≤ 100) = false := by simp; omega
        go_wp2_with fail
        all_goals (go_ret; exact ⟨false, rfl, (fun h => by cases h), HB.out⟩)
      · by_cases hR0 : 0 ≤ R
        · have hd : decide (0 ≤ R) = true := by simpa using hR0
          go_wp2_with fail
          all_goals (go_ret; exact ⟨true, rfl, (fun _ => ⟨by omega, by have := HR.out hR0; rw [HFu.out] at this; omega⟩), HB.out⟩)
        · have hd : decide (0 ≤ R) = false := by simpa using hR0
          go_wp2_with fail
          all_goals (go_ret; exact ⟨false, rfl, (fun h => by cases h), HB.out⟩)
end Go.Proofs.YtmdidmllaldbaaaGreat
