/- The walk of arboretumlaw16.EntOne. -/
import Derived.Test.YtegiibpdkioocaaAliveE
import Derived.Test.YtegiibpdkioocaaSmallE
import Derived.Deep.RegionHeld3
namespace Go.Proofs.Ytegiibpdkioocaa
open Go.ChangeShapes Go.WideShapes Go.ChangeAt Go.RowKit
set_option linter.unusedVariables false
set_option maxRecDepth 20000 in
set_option maxHeartbeats 4000000 in
theorem walk_EntOne {w : World} (ao : Option Addr) (n c : Nat) (h0 : ∃ l, EntsIn w ao n c l) :
    Calls Try.prog 7 #[.slice ao n c] w fun e w' => e = .returned (.bool true) ∧ Below w.heap.size w w' := by
  obtain ⟨l, h0⟩ := h0
  have hnn : n ≤ 140737488351232 := by have := h0.sz; have := h0.le; omega
  have HE := Lib.hid h0
  have HLn : Hid (l.length = n) := Lib.hid h0.ents.1
  clear h0
  go_enter Try.func7, Try.ntmps7
  go_wp2_with fail
  refine (small_any HE.out).mono ?_
  rintro e w1 ⟨r1, rfl, hr1, hb1⟩
  cases r1 with
  | false =>
    clear hr1
    go_wp2_with fail
    refine (aliveE_any _).mono ?_
    rintro e w2 ⟨rfl, hb2⟩
    go_wp2_with fail
    go_ret
    exact ⟨rfl, hb1.trans (hb2.mono hb1.size)⟩
  | true =>
  obtain ⟨_, hsum⟩ := hr1 rfl
  by_cases h20 : 20 < n
  · go_wp2_with fail
    refine (aliveE_any _).mono ?_
    rintro e w2 ⟨rfl, hb2⟩
    go_wp2_with fail
    go_ret
    exact ⟨rfl, hb1.trans (hb2.mono hb1.size)⟩
  have h20' : n ≤ 20 := by omega
  have HS : Hid ((l.map (·.dt.size)).sum ≤ 17592186044416) := Lib.hid (by change (l.map (·.dt.size)).sum ≤ 12000 at hsum; omega)
  have hent : Ents w1 w1.heap.size ao n l := ((HE.out.ents.below hb1).mono hb1.size)
  have HP := Lib.hid (put_any (c := c) hent HE.out.ok (by omega) HS.out)
  have hpl : (putB l).length ≤ 20000 := by
    have h1 := var1_len (l.length : Int)
    have h2 := entsB_len l
    change (l.map (·.dt.size)).sum ≤ 12000 at hsum
    have := HLn.out
    unfold putB
    rw [List.length_append]
    omega
  have HO : Hid (∀ W, Calls Try.prog 49 #[.string ⟨(putB l).toArray⟩] W (OneRes (oneP (putB l)) W)) := Lib.hid (fun W => one_any ⟨(putB l).toArray⟩ W (by show (putB l).toArray.size ≤ _; simp; omega))
  clear h20 hr1 hent hpl hsum
  go_wp2_with fail
  refine HP.out.mono ?_
  rintro e w2 ⟨rfl, hb2⟩
  have hb12 := hb1.trans (hb2.mono hb1.size)
  clear hb1 hb2 HP
  by_cases h1 : n = 1
  · subst h1
    obtain ⟨u, hu⟩ : ∃ u, l = [u] := List.length_eq_one_iff.1 HLn.out
    subst hu
    have hok := HE.out.ok u List.mem_cons_self
    have hds := hok.2.2.2
    obtain ⟨g, o, u', rfl, hgB, huk, q1, q2, q3, q4⟩ := HE.out.ents.get (k := 0) (by omega)
    have hu' : u = u' := by simpa using huk
    subst hu'
    rw [Nat.zero_mul, Nat.add_zero] at q1 q2 q3 q4
    by_cases hbig : 2200 < u.dt.size
    · have ho := HO.out w2
      rw [oneP_bad [u] (by simp) HE.out.ok (by rintro ⟨_, h⟩; have := h u List.mem_cons_self; omega)] at ho
      have HO2 := Lib.hid ho
      clear ho HO huk hok
      go_wp2_with fail
      refine HO2.out.mono ?_
      rintro e w3 ⟨rfl, hb3⟩
      have hb13 := hb12.trans (hb3.mono hb12.size)
      have k4 : ∀ ob, (w3.alloc ob).cell? ⟨g, o + 3, none⟩ = some (.string u.dt) := fun ob => (World.cell?_alloc_lt w3 ob _ (Nat.lt_of_lt_of_le hgB hb13.size)).trans ((hb13.cell (p := ⟨g, o + 3, none⟩) hgB).trans q4)
      clear q1 q2 q3 q4 hb12 hb3
      go_wp2_with fail
      refine (aliveE_any _).mono ?_
      rintro e w4 ⟨rfl, hb4⟩
      go_wp2_with fail
      go_ret
      exact ⟨rfl, (hb13.alloc hb13.size _).trans (hb4.mono (by have := hb13.size; simp; omega))⟩
    · have ho := HO.out w2
      rw [oneP_one u hok (by omega)] at ho
      have HO2 := Lib.hid ho
      clear ho HO huk hok
      go_wp2_with fail
      refine HO2.out.mono ?_
      rintro e w3 ⟨rfl, hb3⟩
      have hb13 := hb12.trans (hb3.mono hb12.size)
      have hlt3 : g < w3.heap.size := Nat.lt_of_lt_of_le hgB hb13.size
      have k4 : ∀ ob, (w3.alloc ob).cell? ⟨g, o + 3, none⟩ = some (.string u.dt) := fun ob => (World.cell?_alloc_lt w3 ob _ hlt3).trans ((hb13.cell (p := ⟨g, o + 3, none⟩) hgB).trans q4)
      have HB13 := Lib.hid hb13
      have hHC : ∀ W, Below (w3.heap.size + 1) (w3.alloc (.cells #[.int .i64 u.ix, .int .i64 u.tm, .int .i64 u.kd, .string u.dt] 55)) W → W.cell? ⟨w3.heap.size, 0, none⟩ = some (.int .i64 u.ix) ∧ W.cell? ⟨w3.heap.size, 1, none⟩ = some (.int .i64 u.tm) ∧ W.cell? ⟨w3.heap.size, 2, none⟩ = some (.int .i64 u.kd) ∧ W.cell? ⟨w3.heap.size, 3, none⟩ = some (.string u.dt) ∧
          W.cell? ⟨g, o, none⟩ = some (.int .i64 u.ix) ∧ W.cell? ⟨g, o + 1, none⟩ = some (.int .i64 u.tm) ∧ W.cell? ⟨g, o + 2, none⟩ = some (.int .i64 u.kd) ∧ W.cell? ⟨g, o + 3, none⟩ = some (.string u.dt) := by
        intro W hb
        have hc := heap_alloc_new w3 (.cells #[.int .i64 u.ix, .int .i64 u.tm, .int .i64 u.kd, .string u.dt] 55)
        have hk : W.heap[w3.heap.size]? = _ := (hb.block w3.heap.size (by omega)).trans hc
        have hww : Below w.heap.size w W := (HB13.out.alloc HB13.out.size _).trans (hb.mono (by have := HB13.out.size; omega))
        refine ⟨?_, ?_, ?_, ?_, (hww.cell (p := ⟨g, o, none⟩) hgB).trans q1, (hww.cell (p := ⟨g, o + 1, none⟩) hgB).trans q2, (hww.cell (p := ⟨g, o + 2, none⟩) hgB).trans q3, (hww.cell (p := ⟨g, o + 3, none⟩) hgB).trans q4⟩ <;> rw [blk_cell hk] <;> rfl
      have HC := Lib.hid hHC
      clear hb12 hb3 hb13 hHC q1 q2 q3 q4
      go_wp2_with fail
      go_region_held3 (fun W => W.cell? ⟨w3.heap.size, 0, none⟩ = some (.int .i64 u.ix) ∧ W.cell? ⟨w3.heap.size, 1, none⟩ = some (.int .i64 u.tm) ∧ W.cell? ⟨w3.heap.size, 2, none⟩ = some (.int .i64 u.kd) ∧ W.cell? ⟨w3.heap.size, 3, none⟩ = some (.string u.dt) ∧
          W.cell? ⟨g, o, none⟩ = some (.int .i64 u.ix) ∧ W.cell? ⟨g, o + 1, none⟩ = some (.int .i64 u.tm) ∧ W.cell? ⟨g, o + 2, none⟩ = some (.int .i64 u.kd) ∧ W.cell? ⟨g, o + 3, none⟩ = some (.string u.dt))
        ((refine HC.out _ ?_; (repeat (with_reducible (first | assumption | exact Below.refl _ _ | refine Below.drew ?_ | refine Below.alloc ?_ ?_ _))); all_goals (simp <;> omega)))
        (first
          | (go_at_call 42; refine (aliveE_any _).mono ?_; rintro e4 w4 ⟨rfl, hb4⟩; have hv4 : Below (w3.heap.size + 1) (w3.alloc (.cells #[.int .i64 u.ix, .int .i64 u.tm, .int .i64 u.kd, .string u.dt] 55)) w4 := (by (refine Below.trans ?_ (hb4.mono ?_)); (repeat (with_reducible (first | assumption | exact Below.refl _ _ | refine Below.drew ?_ | refine Below.alloc ?_ ?_ _))); all_goals (simp <;> omega))))
      all_goals (
        go_wp2_with fail
        go_ret
        exact ⟨rfl, (HB13.out.alloc HB13.out.size _).trans (hv4.mono (by have := HB13.out.size; omega))⟩)
  · have hd : ((n : Int) != 1) = true := by simp; omega
    have HR : Hid (oneP (putB l) = (ent00, 2) ∨ oneP (putB l) = (ent00, 4)) := Lib.hid (by
      by_cases hg : l.length ≤ 400 ∧ ∀ e ∈ l, e.dt.size ≤ 2200
      · exact .inr (oneP_many l HE.out.ok (by rw [HLn.out]; exact h1) hg)
      · exact .inl (oneP_bad l (by rw [HLn.out]; omega) HE.out.ok hg))
    rcases HR.out with hr | hr
    all_goals
      have ho := HO.out w2
      rw [hr] at ho
      have HO2 := Lib.hid ho
      clear ho hr
      go_wp2_with fail
      refine HO2.out.mono ?_
      rintro e w3 ⟨rfl, hb3⟩
      have hb13 := hb12.trans (hb3.mono hb12.size)
      go_wp2_with fail
      refine (aliveE_any _).mono ?_
      rintro e w4 ⟨rfl, hb4⟩
      have hk : ∀ j, w4.cell? ⟨w3.heap.size, j, none⟩ = (#[Value.int .i64 0, .int .i64 0, .int .i64 0, .string ⟨#[]⟩] : Array Value)[j]? := fun j => by
        have h := (hb4.block w3.heap.size (by simp)).trans (heap_alloc_new w3 _)
        rw [blk_cell h]; rfl
      have m0 := hk 0
      have m1 := hk 1
      have m2 := hk 2
      have m3 := hk 3
      simp only [List.getElem?_toArray] at m0 m1 m2 m3
      clear hk
      go_wp2_with fail
      go_ret
      exact ⟨rfl, (hb13.alloc hb13.size _).trans (hb4.mono (by have := hb13.size; simp; omega))⟩
end Go.Proofs.Ytegiibpdkioocaa
