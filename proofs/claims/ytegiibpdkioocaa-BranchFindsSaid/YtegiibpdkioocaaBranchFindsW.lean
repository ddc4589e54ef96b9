/- The walk of arboretumlaw9.BranchFinds. -/
import Derived.Test.YtegiibpdkioocaaAliveC9
import Derived.Test.YtegiibpdkioocaaSmallC
namespace Go.Proofs.Ytegiibpdkioocaa
open Go.RowKit
set_option linter.unusedVariables false
theorem ChdsIn.okC {w : World} {ao : Option Addr} {n c : Nat} {l : List Chd} (h : ChdsIn w ao n c l) : ∀ e ∈ l, ChdOk e := h.ok
set_option maxRecDepth 20000 in
set_option maxHeartbeats 8000000 in
theorem walk_BranchFinds {w : World} (ao : Option Addr) (n c : Nat) (h0 : ∃ l, ChdsIn w ao n c l) (key : ByteArray) (hk : key.size ≤ maxLen) :
    Calls Try.prog 10 #[.slice ao n c, .string key] w fun e w' => e = .returned (.bool true) ∧ Below w.heap.size w w' := by
  obtain ⟨l, hE⟩ := h0
  unfold maxLen at hk
  have hn9 : n ≤ 140737488351232 := by have := hE.sz; have := hE.le; omega
  have HSm := Lib.hid (smallC_any hE)
  have HE := Lib.hid hE
  have HLn := Lib.hid hE.chds.1
  have HRi : Hid (∀ W, Below w.heap.size w W → Calls Try.prog 59 #[.slice ao n c] W (RiseRes l W)) := Lib.hid (fun W hb => rises_any ((hE.chds.below hb).mono hb.size) hE.ok hn9)
  have HFi : Hid (∀ W, Below w.heap.size w W → Calls Try.prog 61 #[.slice ao n c, .string key] W (FindRes l key W)) := Lib.hid (fun W hb => find_any ((hE.chds.below hb).mono hb.size) (by omega) key)
  clear hE
  go_enter Try.func10, Try.ntmps10
  go_wp2_with fail
  refine HSm.out.mono ?_
  rintro e w1 ⟨r1, rfl, hr1, hb1⟩
  clear HSm
  cases r1 with
  | false =>
    clear hr1
    by_cases hn0 : n = 0
    · have d0 : ((n : Int) != 0) = false := by rw [hn0]; rfl
      have hl0 : l.length = 0 := by rw [HLn.out, hn0]
      have HL0 := Lib.hid hl0
      clear hl0 hn0
      go_wp2_with fail
      refine (aliveC9_any _).mono ?_
      rintro e wa ⟨rfl, hba⟩
      have hbA : Below w.heap.size w wa := hb1.trans (hba.mono hb1.size)
      clear hba
      go_wp2_with fail
      refine (HFi.out wa hbA).mono ?_
      rintro e wf ⟨kf, rfl, hkf, rfl⟩
      have hk0 : kf = 0 := hkf.1 HL0.out
      have d1 : ((kf : Int) == 0) = true := by rw [hk0]; rfl
      clear hkf hk0
      go_wp2_with fail
      go_ret
      exact ⟨rfl, hbA⟩
    · have d0 : ((n : Int) != 0) = true := by simpa using hn0
      clear hn0
      go_wp2_with fail
      refine (aliveC9_any _).mono ?_
      rintro e wa ⟨rfl, hba⟩
      have hbA : Below w.heap.size w wa := hb1.trans (hba.mono hb1.size)
      clear hba
      go_wp2_with fail
      go_ret
      exact ⟨rfl, hbA⟩
  | true =>
  obtain ⟨hn100, -⟩ := hr1 rfl
  clear hr1
  go_wp2_with fail
  refine (HRi.out w1 hb1).mono ?_
  rintro e w2 ⟨r2, rfl, -, m2, rfl⟩
  have hb2 : Below w.heap.size w (w1.drewN m2) := below_drewN hb1 _
  obtain ⟨w2, hw2⟩ : ∃ w2, w2 = w1.drewN m2 := ⟨_, rfl⟩
  rw [← hw2] at hb2 ⊢
  clear hw2 hb1 HRi
  cases r2 with
  | false =>
    by_cases hn0 : n = 0
    · have d0 : ((n : Int) != 0) = false := by rw [hn0]; rfl
      have hl0 : l.length = 0 := by rw [HLn.out, hn0]
      have HL0 := Lib.hid hl0
      clear hl0 hn0
      go_wp2_with fail
      refine (aliveC9_any _).mono ?_
      rintro e wa ⟨rfl, hba⟩
      have hbA : Below w.heap.size w wa := hb2.trans (hba.mono hb2.size)
      clear hba
      go_wp2_with fail
      refine (HFi.out wa hbA).mono ?_
      rintro e wf ⟨kf, rfl, hkf, rfl⟩
      have hk0 : kf = 0 := hkf.1 HL0.out
      have d1 : ((kf : Int) == 0) = true := by rw [hk0]; rfl
      clear hkf hk0
      go_wp2_with fail
      go_ret
      exact ⟨rfl, hbA⟩
    · have d0 : ((n : Int) != 0) = true := by simpa using hn0
      clear hn0
      go_wp2_with fail
      refine (aliveC9_any _).mono ?_
      rintro e wa ⟨rfl, hba⟩
      have hbA : Below w.heap.size w wa := hb2.trans (hba.mono hb2.size)
      clear hba
      go_wp2_with fail
      go_ret
      exact ⟨rfl, hbA⟩
  | true =>
  by_cases hk3 : 300 < key.size
  · have d3 : decide (300 < (key.size : Int)) = true := by simp <;> omega
    by_cases hn0 : n = 0
    · have d0 : ((n : Int) != 0) = false := by rw [hn0]; rfl
      have hl0 : l.length = 0 := by rw [HLn.out, hn0]
      have HL0 := Lib.hid hl0
      clear hl0 hn0
      go_wp2_with fail
      refine (aliveC9_any _).mono ?_
      rintro e wa ⟨rfl, hba⟩
      have hbA : Below w.heap.size w wa := hb2.trans (hba.mono hb2.size)
      clear hba
      go_wp2_with fail
      refine (HFi.out wa hbA).mono ?_
      rintro e wf ⟨kf, rfl, hkf, rfl⟩
      have hk0 : kf = 0 := hkf.1 HL0.out
      have d1 : ((kf : Int) == 0) = true := by rw [hk0]; rfl
      clear hkf hk0
      go_wp2_with fail
      go_ret
      exact ⟨rfl, hbA⟩
    · have d0 : ((n : Int) != 0) = true := by simpa using hn0
      clear hn0
      go_wp2_with fail
      refine (aliveC9_any _).mono ?_
      rintro e wa ⟨rfl, hba⟩
      have hbA : Below w.heap.size w wa := hb2.trans (hba.mono hb2.size)
      clear hba
      go_wp2_with fail
      go_ret
      exact ⟨rfl, hbA⟩
  have d3 : decide (300 < (key.size : Int)) = false := by simp <;> omega
  by_cases hn1 : n = 0
  · have d4 : ((n : Int) == 0) = true := by rw [hn1]; rfl
    clear hn1
    by_cases hn0 : n = 0
    · have d0 : ((n : Int) != 0) = false := by rw [hn0]; rfl
      have hl0 : l.length = 0 := by rw [HLn.out, hn0]
      have HL0 := Lib.hid hl0
      clear hl0 hn0
      go_wp2_with fail
      refine (aliveC9_any _).mono ?_
      rintro e wa ⟨rfl, hba⟩
      have hbA : Below w.heap.size w wa := hb2.trans (hba.mono hb2.size)
      clear hba
      go_wp2_with fail
      refine (HFi.out wa hbA).mono ?_
      rintro e wf ⟨kf, rfl, hkf, rfl⟩
      have hk0 : kf = 0 := hkf.1 HL0.out
      have d1 : ((kf : Int) == 0) = true := by rw [hk0]; rfl
      clear hkf hk0
      go_wp2_with fail
      go_ret
      exact ⟨rfl, hbA⟩
    · have d0 : ((n : Int) != 0) = true := by simpa using hn0
      clear hn0
      go_wp2_with fail
      refine (aliveC9_any _).mono ?_
      rintro e wa ⟨rfl, hba⟩
      have hbA : Below w.heap.size w wa := hb2.trans (hba.mono hb2.size)
      clear hba
      go_wp2_with fail
      go_ret
      exact ⟨rfl, hbA⟩
  have d4 : ((n : Int) == 0) = false := by simpa using hn1
  have hnp : 0 < n := by omega
  clear hn1
  go_wp2_with fail
  refine (HFi.out w2 hb2).mono ?_
  rintro e wf ⟨k, rfl, hkf, rfl⟩
  obtain ⟨-, f1, f2, f3⟩ := hkf
  have hkn : k < n := by have := f1 (by rw [HLn.out]; exact hnp); rw [HLn.out] at this; exact this
  obtain ⟨b, o, e0, rfl, hbB, hek, q1, q2⟩ := HE.out.chds.get hkn
  have s0 := (HE.out.ok e0 (List.mem_of_getElem? hek)).2
  have x0 : decide ((k : Int) < 0) = false := by simp <;> omega
  have x1 : decide ((n : Int) ≤ (k : Int)) = false := by simp <;> omega
  have x2 : decide (n ≤ k) = false := by simp <;> omega
  have x3 : (0 : Int) ≤ k := by omega
  have x4 : (k : Int) < n := by omega
  have c2 : w2.cell? ⟨b, o + k * 2, none⟩ = some (.string e0.key) := (hb2.cell (p := ⟨b, o + k * 2, none⟩) hbB).trans q1
  have F2 : Hid (0 < k → ltB key e0.key = false) := Lib.hid (fun h => leB_not.1 (f2 e0 h hek))
  have HF3 := Lib.hid f3
  have hks : key.size ≤ 9223372036854775807 := by omega
  have hL0 : Hid (∀ W, Calls Try.prog 62 #[.string key, .string e0.key] W (QuietRes (.bool (ltB key e0.key)) W)) := Lib.hid (fun W => less_any key e0.key W hks (by omega))
  clear f1 f2 f3 hek q2 s0
  by_cases hk0 : k = 0
  · have y0 : decide (0 < (k : Int)) = false := by rw [hk0]; rfl
    have y1 : decide (0 < k) = false := by rw [hk0]; rfl
    have HK0 := Lib.hid hk0
    clear hk0 F2 hL0
    go_wp2_with fail
    refine (aliveC9_any _).mono ?_
    rintro e wa ⟨rfl, hba⟩
    have hbA : Below w.heap.size w wa := hb2.trans (hba.mono hb2.size)
    clear hba c2
    by_cases hke : k + 1 = n
    · have z0 : ((k : Int) == (n : Int) - 1) = true := by simp <;> omega
      clear hke HF3
      go_wp2_with fail
      go_ret
      exact ⟨rfl, hbA⟩
    · have z0 : ((k : Int) == (n : Int) - 1) = false := by simp <;> omega
      obtain ⟨b', o', e1, hbe, hbB', hek', q1', q2'⟩ := HE.out.chds.get (k := k + 1) (by omega)
      obtain ⟨rfl, rfl⟩ : b' = b ∧ o' = o := by injection hbe with h; injection h with h1 h2; exact ⟨h1.symm, h2.symm⟩
      have s1 := (HE.out.ok e1 (List.mem_of_getElem? hek')).2
      have hlt : ltB key e1.key = true := not_leB.1 (HF3.out e1 hek')
      have hL2 : ∀ W, Calls Try.prog 62 #[.string key, .string e1.key] W (QuietRes (.bool true) W) := fun W => by rw [← hlt]; exact less_any key e1.key W hks (by omega)
      have HL2 := Lib.hid hL2
      have cA : wa.cell? ⟨b', o' + (k + 1) * 2, none⟩ = some (.string e1.key) := (hbA.cell (p := ⟨b', o' + (k + 1) * 2, none⟩) hbB').trans q1'
      have u1 : (0 : Int) ≤ (k : Int) + 1 := by omega
      have u2 : (k : Int) + 1 < n := by omega
      have u3 : ((k : Int) + 1).toNat = k + 1 := by omega
      clear hbe hek' q1' q2' s1 hlt hL2 HF3 hke
      go_wp2_with fail
      refine (HL2.out _).mono ?_
      rintro e w9 ⟨rfl, m9, rfl⟩
      go_wp2_with fail
      go_ret
      exact ⟨rfl, below_drewN hbA _⟩
  · have y0 : decide (0 < (k : Int)) = true := by simp <;> omega
    have y1 : decide (0 < k) = true := by simp <;> omega
    have hL1 := hL0.out
    rw [F2.out (by omega)] at hL1
    have HL1 := Lib.hid hL1
    clear hL1 hL0 F2 hk0
    go_wp2_with fail
    refine (HL1.out _).mono ?_
    rintro e w5 ⟨rfl, m5, rfl⟩
    have hb5 : Below w.heap.size w (w2.drewN m5) := below_drewN hb2 _
    go_wp2_with fail
    refine (aliveC9_any _).mono ?_
    rintro e wa ⟨rfl, hba⟩
    have hbA : Below w.heap.size w wa := hb5.trans (hba.mono hb5.size)
    clear hba c2
    by_cases hke : k + 1 = n
    · have z0 : ((k : Int) == (n : Int) - 1) = true := by simp <;> omega
      clear hke HF3
      go_wp2_with fail
      go_ret
      exact ⟨rfl, hbA⟩
    · have z0 : ((k : Int) == (n : Int) - 1) = false := by simp <;> omega
      obtain ⟨b', o', e1, hbe, hbB', hek', q1', q2'⟩ := HE.out.chds.get (k := k + 1) (by omega)
      obtain ⟨rfl, rfl⟩ : b' = b ∧ o' = o := by injection hbe with h; injection h with h1 h2; exact ⟨h1.symm, h2.symm⟩
      have s1 := (HE.out.ok e1 (List.mem_of_getElem? hek')).2
      have hlt : ltB key e1.key = true := not_leB.1 (HF3.out e1 hek')
      have hL2 : ∀ W, Calls Try.prog 62 #[.string key, .string e1.key] W (QuietRes (.bool true) W) := fun W => by rw [← hlt]; exact less_any key e1.key W hks (by omega)
      have HL2 := Lib.hid hL2
      have cA : wa.cell? ⟨b', o' + (k + 1) * 2, none⟩ = some (.string e1.key) := (hbA.cell (p := ⟨b', o' + (k + 1) * 2, none⟩) hbB').trans q1'
      have u1 : (0 : Int) ≤ (k : Int) + 1 := by omega
      have u2 : (k : Int) + 1 < n := by omega
      have u3 : ((k : Int) + 1).toNat = k + 1 := by omega
      clear hbe hek' q1' q2' s1 hlt hL2 HF3 hke
      go_wp2_with fail
      refine (HL2.out _).mono ?_
      rintro e w9 ⟨rfl, m9, rfl⟩
      go_wp2_with fail
      go_ret
      exact ⟨rfl, below_drewN hbA _⟩
end Go.Proofs.Ytegiibpdkioocaa
