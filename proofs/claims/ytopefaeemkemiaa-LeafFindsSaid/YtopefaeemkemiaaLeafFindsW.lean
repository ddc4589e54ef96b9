/- The walk of arboretumlaw8.LeafFinds. -/
import Derived.Test.YtopefaeemkemiaaAliveI
import Derived.Test.YtopefaeemkemiaaSmallI
import Derived.IntWalk
namespace Go.Proofs.Ytopefaeemkemiaa
open Go.RowKit
set_option linter.unusedVariables false
/-- Of items that rise each is found at its place. -/
theorem findOkI_own {l : List Itm} {j k : Nat} {is : Bool} {e : Itm} (hr : RisingI l) (he : l[j]? = some e) (h : FindOkI l e.key k is) : k = j ∧ is = true := by
  have hj := (List.getElem?_eq_some_iff.1 he).1
  refine findOkI_one hr h ⟨by omega, fun a h0 ha => ?_, fun a ha => ?_, ⟨fun _ => ⟨e, he, rfl⟩, fun _ => rfl⟩⟩
  · exact hr (j - 1) a e ha (by rw [show j - 1 + 1 = j from by omega]; exact he)
  · rw [he] at ha
    injection ha with ha
    rw [← ha, ltB_irrefl]
set_option maxRecDepth 20000 in
set_option maxHeartbeats 8000000 in
theorem walk_LeafFinds {w : World} (ao : Option Addr) (n c : Nat) (h0 : ∃ l, ItmsIn w ao n c l) (key : ByteArray) (hk : key.size ≤ maxLen) :
    Calls Try.prog 3 #[.slice ao n c, .string key] w fun e w' => e = .returned (.bool true) ∧ Below w.heap.size w w' := by
  obtain ⟨l, hE⟩ := h0
  unfold maxLen at hk
  have hn9 : n ≤ 140737488351232 := by have := hE.sz; have := hE.le; omega
  have HSm := Lib.hid (smallI_any hE)
  have HE := Lib.hid hE
  have HLn := Lib.hid hE.itms.1
  have HRi : Hid (∀ W, Below w.heap.size w W → Calls Try.prog 8 #[.slice ao n c] W (RiseIRes l W)) := Lib.hid (fun W hb => risesI_any (hE.itms.below hb) (fun e he => (hE.ok e he).2.2.1) hn9)
  have HFi : Hid (∀ (ky : ByteArray) W, Below w.heap.size w W → Calls Try.prog 10 #[.slice ao n c, .string ky] W (FindIRes l ky W)) := Lib.hid (fun ky W hb => findI_any ((hE.itms.below hb).mono hb.size) (by omega) ky)
  clear hE
  go_enter Try.func3, Try.ntmps3
  go_wp2_with fail
  refine HSm.out.mono ?_
  rintro e w1 ⟨r1, rfl, hr1, hb1⟩
  clear HSm
  cases r1 with
  | false =>
    clear hr1
    go_wp2_with fail
    refine (aliveI_any _).mono ?_
    rintro e wa ⟨rfl, hba⟩
    go_wp2_with fail
    go_ret
    exact ⟨rfl, hb1.trans (hba.mono hb1.size)⟩
  | true =>
  obtain ⟨hn100, -⟩ := hr1 rfl
  clear hr1
  go_wp2_with fail
  refine (HRi.out w1 hb1).mono ?_
  rintro e w2 ⟨r2, rfl, hrise, m2, rfl⟩
  have hb2 : Below w.heap.size w (w1.drewN m2) := below_drewN hb1 _
  obtain ⟨w2, hw2⟩ : ∃ w2, w2 = w1.drewN m2 := ⟨_, rfl⟩
  rw [← hw2] at hb2 ⊢
  clear hw2 hb1 HRi
  cases r2 with
  | false =>
    clear hrise
    go_wp2_with fail
    refine (aliveI_any _).mono ?_
    rintro e wa ⟨rfl, hba⟩
    go_wp2_with fail
    go_ret
    exact ⟨rfl, hb2.trans (hba.mono hb2.size)⟩
  | true =>
  have HRs : Hid (RisingI l) := Lib.hid (hrise.1 rfl)
  clear hrise
  by_cases hk3 : 300 < key.size
  · have d3 : decide (300 < (key.size : Int)) = true := by simp <;> omega
    go_wp2_with fail
    refine (aliveI_any _).mono ?_
    rintro e wa ⟨rfl, hba⟩
    go_wp2_with fail
    go_ret
    exact ⟨rfl, hb2.trans (hba.mono hb2.size)⟩
  have d3 : decide (300 < (key.size : Int)) = false := by simp <;> omega
  have HB2 := Lib.hid hb2
  clear hb2
  go_wp2_with fail
  go_loopw [5] (fun i wr => ∃ k : Nat, k ≤ n ∧ i = .int .i64 k ∧ Hid (Below w.heap.size w wr)) (fun i _ => n - (intOf i).toNat)
  case atStart => exact ⟨0, Nat.zero_le _, rfl, HB2⟩
  case round =>
    obtain ⟨k, hkn, rfl, HB⟩ := hrel
    by_cases hlt : k < n
    · obtain ⟨b, o, e, rfl, hbB, hek, h1, h2, h3, h4⟩ := (HE.out.itms.below HB.out).get hlt
      have HC := Lib.hid (HFi.out e.key wr HB.out)
      have HOwn : Hid (∀ k' is, FindOkI l e.key k' is → k' = k ∧ is = true) := Lib.hid (fun k' is h => findOkI_own HRs.out hek h)
      have hx1 : (0 : Int) ≤ k := by omega
      have hx2 : (k : Int) < n := by omega
      clear hek h2 h3 h4
      go_wp2_with fail
      refine HC.out.mono ?_
      rintro e1 w5 ⟨k', is, rfl, hok, hb5⟩
      obtain ⟨hk', his⟩ := HOwn.out k' is hok
      subst his
      have hd : ((k' : Int) != k) = false := by rw [hk']; simp
      have HB5 := Lib.hid (HB.out.trans (hb5.mono HB.out.size))
      clear hok hk' hb5 HC HOwn
      go_wp2_with fail
      go_roundw
      case rel => exact ⟨k + 1, by omega, by go_num, HB5⟩
      case measure => simp [intOf]; omega
    · have HC := Lib.hid (HFi.out key wr HB.out)
      go_wp2_with fail
      refine HC.out.mono ?_
      rintro e1 w5 ⟨k', is, rfl, hok, hb5⟩
      have hb6 : Below w.heap.size w w5 := HB.out.trans (hb5.mono HB.out.size)
      obtain ⟨o1, o2, o3, o4⟩ := hok
      rw [HLn.out] at o1
      have x0 : decide ((k' : Int) < 0) = false := by simp <;> omega
      have x1 : decide ((n : Int) < (k' : Int)) = false := by simp <;> omega
      have x2 : decide (n < k') = false := by simp <;> omega
      clear hb5 HC
      have hprev : 0 < k' → ∃ (j : Nat) (b o : Nat) (a : Itm), k' = j + 1 ∧ ao = some ⟨b, o, none⟩ ∧ b < w.heap.size ∧ w5.cell? ⟨b, o + j * 4, none⟩ = some (.string a.key) ∧ Op.bytesLess a.key.toList key.toList = true := fun h0 => by
        obtain ⟨b, o, a, ha, hbB, hek, q, _, _, _⟩ := (HE.out.itms.below hb6).get (k := k' - 1) (by omega)
        exact ⟨k' - 1, b, o, a, by omega, ha, hbB, q, o2 a h0 hek⟩
      have hat : k' < n → ∃ (b o : Nat) (a : Itm), ao = some ⟨b, o, none⟩ ∧ b < w.heap.size ∧ w5.cell? ⟨b, o + k' * 4, none⟩ = some (.string a.key) ∧ l[k']? = some a := fun h0 => by
        obtain ⟨b, o, a, ha, hbB, hek, q, _, _, _⟩ := (HE.out.itms.below hb6).get (k := k') h0
        exact ⟨b, o, a, ha, hbB, q, hek⟩
      have y0 : (0 : Int) ≤ k' := by omega
      cases is with
      | true =>
        obtain ⟨e, he, hek⟩ := o4.1 rfl
        have hkn' : k' < n := by
          have h1 := (List.getElem?_eq_some_iff.1 he).1
          have h2 := HLn.out
          omega
        obtain ⟨b, o, a, rfl, hbB, q0, ha⟩ := hat hkn'
        rw [he] at ha
        injection ha with ha
        subst ha
        subst hek
        have y1 : (k' : Int) < n := by omega
        have e1 : (e.key.toList != e.key.toList) = false := by simp
        clear he hat o2 o3 o4
        by_cases hk0 : k' = 0
        · have z0 : ((k' : Int) == 0) = true := by rw [hk0]; rfl
          clear hprev hk0
          go_wp2_with fail
          refine (aliveI_any _).mono ?_
          rintro e wa ⟨rfl, hba⟩
          have hbA : Below w.heap.size w wa := hb6.trans (hba.mono hb6.size)
          have c0 := (hba.cell (p := ⟨b, o + k' * 4, none⟩) (Nat.lt_of_lt_of_le hbB hb6.size)).trans q0
          go_wp2_with fail
          go_ret
          exact ⟨rfl, hbA⟩
        · obtain ⟨j, b', o', a, hj, hbe, hbB', q1, hlt1⟩ := hprev (by omega)
          obtain ⟨rfl, rfl⟩ : b' = b ∧ o' = o := by injection hbe with h; injection h with h1 h2; exact ⟨h1.symm, h2.symm⟩
          have z0 : ((k' : Int) == 0) = false := by simp; omega
          have z1 : (k' : Int) - 1 = j := by omega
          have z2 : IntKind.i64.wrap (j : Int) = j := IntWalk.i64_in _ (by omega)
          have z3 : (0 : Int) ≤ j := by omega
          have z4 : (j : Int) < n := by omega
          clear hprev hk0 hbe hj
          go_wp2_with fail
          refine (aliveI_any _).mono ?_
          rintro e wa ⟨rfl, hba⟩
          have hbA : Below w.heap.size w wa := hb6.trans (hba.mono hb6.size)
          have c0 := (hba.cell (p := ⟨b', o' + k' * 4, none⟩) (Nat.lt_of_lt_of_le hbB hb6.size)).trans q0
          have c1 := (hba.cell (p := ⟨b', o' + j * 4, none⟩) (Nat.lt_of_lt_of_le hbB hb6.size)).trans q1
          go_wp2_with fail
          go_ret
          exact ⟨rfl, hbA⟩
      | false =>
        by_cases hkn' : k' < n
        · obtain ⟨b, o, a, rfl, hbB, q0, ha⟩ := hat hkn'
          have hl1 : Op.bytesLess a.key.toList key.toList = false := o3 a ha
          have hl2 : (a.key.toList == key.toList) = false := by
            cases h : (a.key.toList == key.toList) with
            | false => rfl
            | true =>
              have := o4.2 ⟨a, ha, eqB_iff.1 h⟩
              cases this
          have y1 : (k' : Int) < n := by omega
          have y2 : ((k' : Int) == n) = false := by simp; omega
          clear hat o2 o3 o4 ha
          by_cases hk0 : k' = 0
          · have z0 : ((k' : Int) == 0) = true := by rw [hk0]; rfl
            clear hprev hk0
            go_wp2_with fail
            refine (aliveI_any _).mono ?_
            rintro e wa ⟨rfl, hba⟩
            have hbA : Below w.heap.size w wa := hb6.trans (hba.mono hb6.size)
            have c0 := (hba.cell (p := ⟨b, o + k' * 4, none⟩) (Nat.lt_of_lt_of_le hbB hb6.size)).trans q0
            go_wp2_with fail
            go_ret
            exact ⟨rfl, hbA⟩
          · obtain ⟨j, b', o', a', hj, hbe, hbB', q1, hlt1⟩ := hprev (by omega)
            obtain ⟨rfl, rfl⟩ : b' = b ∧ o' = o := by injection hbe with h; injection h with h1 h2; exact ⟨h1.symm, h2.symm⟩
            have z0 : ((k' : Int) == 0) = false := by simp; omega
            have z1 : (k' : Int) - 1 = j := by omega
            have z2 : IntKind.i64.wrap (j : Int) = j := IntWalk.i64_in _ (by omega)
            have z3 : (0 : Int) ≤ j := by omega
            have z4 : (j : Int) < n := by omega
            clear hprev hk0 hbe hj
            go_wp2_with fail
            refine (aliveI_any _).mono ?_
            rintro e wa ⟨rfl, hba⟩
            have hbA : Below w.heap.size w wa := hb6.trans (hba.mono hb6.size)
            have c0 := (hba.cell (p := ⟨b', o' + k' * 4, none⟩) (Nat.lt_of_lt_of_le hbB hb6.size)).trans q0
            have c1 := (hba.cell (p := ⟨b', o' + j * 4, none⟩) (Nat.lt_of_lt_of_le hbB hb6.size)).trans q1
            go_wp2_with fail
            go_ret
            exact ⟨rfl, hbA⟩
        · have y2 : ((k' : Int) == n) = true := by simp; omega
          clear hat o3 o4
          by_cases hk0 : k' = 0
          · have z0 : ((k' : Int) == 0) = true := by rw [hk0]; rfl
            clear hprev hk0
            go_wp2_with fail
            refine (aliveI_any _).mono ?_
            rintro e wa ⟨rfl, hba⟩
            have hbA : Below w.heap.size w wa := hb6.trans (hba.mono hb6.size)
            go_wp2_with fail
            go_ret
            exact ⟨rfl, hbA⟩
          · obtain ⟨j, b, o, a', hj, rfl, hbB, q1, hlt1⟩ := hprev (by omega)
            have z0 : ((k' : Int) == 0) = false := by simp; omega
            have z1 : (k' : Int) - 1 = j := by omega
            have z2 : IntKind.i64.wrap (j : Int) = j := IntWalk.i64_in _ (by omega)
            have z3 : (0 : Int) ≤ j := by omega
            have z4 : (j : Int) < n := by omega
            clear hprev hk0 hj
            go_wp2_with fail
            refine (aliveI_any _).mono ?_
            rintro e wa ⟨rfl, hba⟩
            have hbA : Below w.heap.size w wa := hb6.trans (hba.mono hb6.size)
            have c1 := (hba.cell (p := ⟨b, o + j * 4, none⟩) (Nat.lt_of_lt_of_le hbB hb6.size)).trans q1
            go_wp2_with fail
            go_ret
            exact ⟨rfl, hbA⟩
end Go.Proofs.Ytopefaeemkemiaa
