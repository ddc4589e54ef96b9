/- Texts and numbers that came in, opened; and the walk of arboretumbook.Short. -/
import Derived.Test.YtegiibpdkioocaaView
import Derived.Test.YtegiibpdkioocaaRoom
namespace Go.Proofs.Ytegiibpdkioocaa
open Go.ChangeShapes Go.WideShapes Go.ChangeAt Go.RowKit Go.Deep
set_option linter.unusedVariables false
/-- A slice of texts that came in. -/
structure TextsIn (w : World) (ao : Option Addr) (n c : Nat) (ss : List ByteArray) : Prop where
  len : ss.length = n
  le : n ≤ c
  nil_ : ao = none → n = 0 ∧ c = 0
  sz : c * 16 ≤ 140737488351232
  ok : ∀ s ∈ ss, s.size ≤ 140737488351232
  cell : 0 < n → ∃ b o, ao = some ⟨b, o, none⟩ ∧ b < w.heap.size ∧ ∀ (k : Nat) (s : ByteArray), ss[k]? = some s → w.cell? ⟨b, o + k, none⟩ = some (.string s)
theorem TextsIn.get {w : World} {ao : Option Addr} {n c : Nat} {ss : List ByteArray} (h : TextsIn w ao n c ss) {k : Nat} (hk : k < n) :
    ∃ b o s, ao = some ⟨b, o, none⟩ ∧ b < w.heap.size ∧ ss[k]? = some s ∧ s.size ≤ 140737488351232 ∧ w.cell? ⟨b, o + k, none⟩ = some (.string s) := by
  obtain ⟨b, o, ha, hb, hc⟩ := h.cell (by omega)
  have hkl : k < ss.length := by rw [h.len]; exact hk
  exact ⟨b, o, ss[k], ha, hb, List.getElem?_eq_getElem hkl, h.ok _ (List.getElem_mem _), hc k _ (List.getElem?_eq_getElem hkl)⟩
section
variable {H : Type} {enc : TypeId × Value → H} {w : World}
theorem view_strings {ao : Option Addr} {n c : Nat} {d : DataW H} {p : List MemPlace}
    {ts : List TypeId} {ds : List (DataW H)} (hsz : (DataW.weightsEach Try.prog ts ds).all (· ≤ reachBytes) = true) {j : Nat} (hj1 : ts[j]? = some 23) (hj2 : ds[j]? = some d)
    (h : DataW.Trod enc Try.prog w 0 (fun _ => true) true 23 (.slice ao n c) d p) : ∃ ss, TextsIn w ao n c ss := by
  obtain ⟨ss, h1, h2, h3, h4, h5, h6⟩ := open_texts_at Try.underlying23 Try.underlying9 (by kernel_rfl) (by kernel_rfl) hsz hj1 hj2 h
  exact ⟨ss, h1, h2, h3, h4, h5, h6⟩
end
/-- Are texts few? -/
def ShortRes (few room : Int) (n sz : Nat) (w : World) (e : Ending) (w' : World) : Prop := ∃ r : Bool, e = .returned (.bool r) ∧ (r = true → (n : Int) ≤ few ∧ ((sz : Nat) : Int) ≤ room) ∧ Below w.heap.size w w'
set_option maxRecDepth 20000 in
set_option maxHeartbeats 400000 in
theorem short_any {ao : Option Addr} {n c : Nat} {ss : List ByteArray} {w : World} (hE : TextsIn w ao n c ss) (few room : Int) (hr1 : 0 ≤ room) (hr2 : room ≤ 1000000) :
    Calls Try.prog 14 #[.int .i64 few, .int .i64 room, .slice ao n c] w (ShortRes few room n (ss.map (·.size)).sum w) := by
  have HE := Lib.hid hE
  have hn : n ≤ 9223372036854775807 := by have := hE.sz; have := hE.le; omega
  clear hE
  by_cases hfew : few < (n : Int)
  · have hd : decide (few < (n : Int)) = true := by simpa using hfew
    go_enter Try.func14, Try.ntmps14
    go_wp2_with fail
    go_ret
    exact ⟨false, rfl, (fun h => by cases h), Below.refl _ _⟩
  have hd : decide (few < (n : Int)) = false := by simpa using hfew
  have hfew' : (n : Int) ≤ few := by omega
  have HF := Lib.hid hfew'
  clear hfew hfew'
  go_enter Try.func14, Try.ntmps14
  go_wp2
  go_loopw [1, 7] (fun x i wr => ∃ (k : Nat) (R : Int), k ≤ n ∧ x = .int .i64 R ∧ i = .int .i64 k ∧ -1 ≤ R ∧ R ≤ 1000000 ∧ Hid (0 ≤ R → R = room - ((((ss.map (·.size)).take k).sum : Nat) : Int)) ∧ Below w.heap.size w wr) (fun _ i _ => n - (intOf i).toNat)
  case atStart => exact ⟨0, room, Nat.zero_le _, rfl, rfl, by omega, by omega, Lib.hid (by simp), Below.refl _ _⟩
  case round =>
    obtain ⟨k, R, hk, rfl, rfl, hR1, hR2, HR, hb⟩ := hrel
    have HB := Lib.hid hb
    have hsz := hb.size
    clear hb
    by_cases hlt : k < n
    · obtain ⟨b, o, s, rfl, hbB, hek, hds, h1⟩ := HE.out.get hlt
      have h4 := (HB.out.cell (p := ⟨b, o + k, none⟩) hbB).trans h1
      have hst := sum_take_succ (ss.map (·.size)) k s.size (by rw [List.getElem?_map, hek]; rfl)
      have HSt := Lib.hid hst
      clear hek h1 hst
      by_cases hR0 : 0 ≤ R
      · have hd : decide (0 ≤ R) = true := by simpa using hR0
        go_wp2_with (go_at_call 70; refine (room_one_eq R (s.size : Int) _ hR1 (by omega) (by omega) (by omega) _).mono ?_; rintro e' w2 ⟨y, rfl, hy1, hy2, hy3, rfl⟩; have HY := Lib.hid hy3; clear hy3)
        go_roundw
        case rel => exact ⟨k + 1, y, by omega, rfl, by go_num, hy1, by omega, Lib.hid (fun h0 => by have := HY.out h0; have := HR.out hR0; rw [HSt.out]; omega), HB.out.alloc hsz _⟩
        case measure => simp [intOf]; omega
      · have hd : decide (0 ≤ R) = false := by simpa using hR0
        go_wp2_with fail
        go_ret
        exact ⟨false, rfl, (fun h => by cases h), HB.out⟩
    · obtain rfl : k = n := by omega
      have hfull : ((ss.map (·.size)).take k).sum = (ss.map (·.size)).sum := by
        rw [List.take_of_length_le (by rw [List.length_map, HE.out.len]; omega)]
      have HFu := Lib.hid hfull
      clear hfull
      by_cases hR0 : 0 ≤ R
      · have hd : decide (0 ≤ R) = true := by simpa using hR0
        go_wp2_with fail
        go_ret
        exact ⟨true, rfl, (fun _ => ⟨HF.out, by have := HR.out hR0; rw [HFu.out] at this; omega⟩), HB.out⟩
      · have hd : decide (0 ≤ R) = false := by simpa using hR0
        go_wp2_with fail
        go_ret
        exact ⟨false, rfl, (fun h => by cases h), HB.out⟩
end Go.Proofs.Ytegiibpdkioocaa
