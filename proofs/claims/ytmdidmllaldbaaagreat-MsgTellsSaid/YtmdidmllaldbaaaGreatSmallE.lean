/- The walk of arboretumlaw16.Small. -/
import Derived.Test.YtmdidmllaldbaaaGreatRoom
import Derived.Test.YtmdidmllaldbaaaGreatViewE
namespace Go.Proofs.YtmdidmllaldbaaaGreat
open Go.RowKit
set_option linter.unusedVariables false
/-- How many bytes entries have. -/
def dataSum (l : List Ent) : Nat := (l.map (·.dt.size)).sum
/-- Are entries few and short enough? -/
def SmallRes (n : Nat) (l : List Ent) (w : World) (e : Ending) (w' : World) : Prop := ∃ r : Bool, e = .returned (.bool r) ∧ (r = true → n ≤ 420 ∧ dataSum l ≤ 12000) ∧ Below w.heap.size w w'
set_option maxHeartbeats 400000 in
set_option maxRecDepth 20000 in
theorem small_any {ao : Option Addr} {n c : Nat} {l : List Ent} {w : World} (hE : EntsIn w ao n c l) :
    Calls Tryz.prog 8 #[.slice ao n c] w (SmallRes n l w) := by
  have HE := Lib.hid hE
  have hn : n ≤ 9223372036854775807 := by have := hE.sz; have := hE.le; omega
  clear hE
  go_enter Tryz.func8, Tryz.ntmps8
  go_wp2
  go_loopw [3, 4] (fun x i wr => ∃ (k : Nat) (R : Int), k ≤ n ∧ x = .int .i64 R ∧ i = .int .i64 k ∧ -1 ≤ R ∧ R ≤ 12000 ∧ Hid (0 ≤ R → R = 12000 - ((((l.map (·.dt.size)).take k).sum : Nat) : Int)) ∧ Below w.heap.size w wr) (fun _ i _ => n - (intOf i).toNat)
  case atStart => exact ⟨0, 12000, Nat.zero_le _, rfl, rfl, by omega, by omega, Lib.hid (by simp), Below.refl _ _⟩
  case round =>
    obtain ⟨k, R, hk, rfl, rfl, hR1, hR2, HR, hb⟩ := hrel
    have HB := Lib.hid hb
    have hsz := hb.size
    clear hb
    by_cases hlt : k < n
    · obtain ⟨b, o, e, rfl, hbB, hek, h1, h2, h3, h4⟩ := (HE.out.ents.below HB.out).get hlt
      have hds : e.dt.size ≤ 140737488351232 := (HE.out.ok e (List.mem_of_getElem? hek)).2.2.2
      have hst := sum_take_succ (l.map (·.dt.size)) k e.dt.size (by rw [List.getElem?_map, hek]; rfl)
      have HSt := Lib.hid hst
      clear hek h1 h2 h3 hst
      by_cases h6 : k < 600
      · by_cases hR0 : 0 ≤ R
        · have hd : decide (0 ≤ R) = true := by simpa using hR0
          go_wp2_with (go_at_call 113; refine (room_one_eq R (e.dt.size : Int) _ hR1 (by omega) (by omega) (by omega) _).mono ?_; rintro e' w2 ⟨y, rfl, hy1, hy2, hy3, rfl⟩; have HY := Lib.hid hy3; clear hy3)
          go_roundw
          case rel => exact ⟨k + 1, y, by omega, rfl, by go_num, hy1, by omega, Lib.hid (fun h0 => by have := HY.out h0; have := HR.out hR0; rw [HSt.out]; omega), HB.out.alloc hsz _⟩
          case measure => simp [intOf]; omega
        · have hd : decide (0 ≤ R) = false := by simpa using hR0
          go_wp2_with fail
          all_goals (go_ret; exact ⟨false, rfl, (fun h => by cases h), HB.out⟩)
      · have hbig : 420 < n := by omega
        go_wp2_with fail
        all_goals (go_ret; exact ⟨false, rfl, (fun h => by cases h), HB.out⟩)
    · obtain rfl : k = n := by omega
      have hfull : ((l.map (·.dt.size)).take k).sum = dataSum l := by
        unfold dataSum
        rw [List.take_of_length_le (by rw [List.length_map, HE.out.ents.1]; omega)]
      have HFu := Lib.hid hfull
      clear hfull
      by_cases hbig : 420 < k
      · have hd : decide ((k : Int) ≤ 420) = false := by simp; omega
        go_wp2_with fail
        all_goals (go_ret; exact ⟨false, rfl, (fun h => by cases h), HB.out⟩)
      · by_cases hR0 : 0 ≤ R
        · have hd : decide (0 ≤ R) = true := by simpa using hR0
          go_wp2_with fail
          all_goals (go_ret; exact ⟨true, rfl, (fun _ => ⟨by omega, by have := HR.out hR0; rw [HFu.out] at this; omega⟩), HB.out⟩)
        · have hd : decide (0 ≤ R) = false := by simpa using hR0
          go_wp2_with fail
          all_goals (go_ret; exact ⟨false, rfl, (fun h => by cases h), HB.out⟩)
end Go.Proofs.YtmdidmllaldbaaaGreat
