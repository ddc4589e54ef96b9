/- The walk of the document's Members. -/
import Derived.Test.YtmdidmllaldbaaaGreatRefLogA
import Derived.Test.YtmdidmllaldbaaaGreatRefEntM
import Derived.Test.YtmdidmllaldbaaaGreatMembers
namespace Go.Proofs.YtmdidmllaldbaaaGreat
open Go.RowKit
set_option linter.unusedVariables false
set_option linter.unusedSimpArgs false
set_option maxRecDepth 20000 in
set_option maxHeartbeats 4000000 in
theorem rmembers_any {w : World} {B b : Nat} {x : LogV} (h : RLogAt w B b x) (tq : Int) (hdt : ∀ e ∈ x.l, e.dt.size ≤ 281474976710656) (hlen : x.l.length ≤ 1000000) :
    Calls Tryz.prog 74 #[.pointer (some ⟨b, 0, none⟩), .int .i64 tq] w (MemsRes x.l tq w.heap.size w) := by
  obtain ⟨ao, cap, c0, c1, c2, ho, hlt, _⟩ := h.facts
  have HEn := Lib.hid (ents_own ho)
  obtain ⟨l, hl⟩ : ∃ l, l = x.l := ⟨_, rfl⟩
  rw [← hl] at c2 HEn hdt hlen ⊢
  have HDt := Lib.hid hdt
  obtain ⟨n, hne⟩ : ∃ n, n = l.length := ⟨_, rfl⟩
  rw [← hne] at c2 HEn hlen
  have HLn := Lib.hid hne
  have HC2 : Hid (∀ W, Below w.heap.size w W → W.cell? ⟨b, 2, none⟩ = some (.slice ao n cap)) := Lib.hid (fun W hb => (hb.cell (p := ⟨b, 2, none⟩) hlt).trans c2)
  have hw0 : IntKind.i64.wrap ((n : Int) - 1) = (n : Int) - 1 := IntWalk.i64_in _ (by omega)
  clear ho h hl hne c0 c1 hdt
  go_enter Tryz.func74, Tryz.ntmps74
  go_wp2_with fail
  go_loopw [6] (fun i wr => ∃ (k : Nat), k ≤ n ∧ i = .int .i64 ((k : Int) - 1) ∧ Hid (∀ (j : Nat) (z : Ent), k ≤ j → l[j]? = some z → ¬ hitE tq z) ∧ Hid (Below w.heap.size w wr)) (fun i _ => (intOf i + 1).toNat)
  case atStart => exact ⟨n, Nat.le_refl _, rfl, Lib.hid (fun j z hj hz => by have := (List.getElem?_eq_some_iff.1 hz).1; have := HLn.out; omega), Lib.hid (Below.refl _ _)⟩
  case round =>
    obtain ⟨k, hk, rfl, HN, HB⟩ := hrel
    have cc2 := HC2.out wr HB.out
    by_cases hk0 : k = 0
    · subst hk0
      have hd0 : decide ((0 : Int) ≤ ((0 : Nat) : Int) - 1) = false := by decide
      have hd1 : ¬ (0 : Int) ≤ ((0 : Nat) : Int) - 1 := by omega
      have HRes : Hid (∀ y ∈ l, ¬ hitE tq y) := Lib.hid (fun y hy => by
        obtain ⟨j, hj⟩ := List.getElem?_of_mem hy
        exact HN.out j y (Nat.zero_le _) hj)
      go_wp2_with fail
      go_ret2
      exact ⟨HB.out, .inl ⟨rfl, HRes.out⟩⟩
    · obtain ⟨m, rfl⟩ : ∃ m, k = m + 1 := ⟨k - 1, by omega⟩
      obtain ⟨I, hI⟩ : ∃ I : Int, I = ((m + 1 : Nat) : Int) - 1 := ⟨_, rfl⟩
      have hIm : I = m := by omega
      rw [← hI]
      subst hIm
      clear hI
      obtain ⟨g, o, e, rfl, hgB, hek, h1, h2, h3, h4⟩ := (HEn.out.below HB.out).get (k := m) (by omega)
      have HEk := Lib.hid hek
      have hx1 : (0 : Int) ≤ m := by omega
      have hx2 : (m : Int) < n := by omega
      have hd0 : decide ((0 : Int) ≤ (m : Int)) = true := by simp
      have hw1 : IntKind.i64.wrap ((m : Int) - 1) = (m : Int) - 1 := IntWalk.i64_in _ (by omega)
      have HNx : Hid (¬ hitE tq e → ∀ (j : Nat) (z : Ent), m ≤ j → l[j]? = some z → ¬ hitE tq z) := Lib.hid (fun hh j z hj hz => by
        by_cases hjm : j = m
        · subst hjm
          rw [HEk.out] at hz
          injection hz with hz
          rw [← hz]; exact hh
        · exact HN.out j z (by omega) hz)
      clear hek h2
      by_cases hi : e.ix ≤ tq
      · have hdi : decide (e.ix ≤ tq) = true := by simpa using hi
        by_cases hkd : e.kd = 2
        · have hdk : (e.kd == 2) = true := by simpa using hkd
          have HG := Lib.hid (rgetMembers16_any e.dt wr (HDt.out e (List.mem_of_getElem? HEk.out)))
          obtain ⟨q, hq⟩ : ∃ q, q = membersP e.dt.data.toList := ⟨_, rfl⟩
          rw [← hq] at HG
          have HQ := Lib.hid hq
          have HHit : Hid (q.2 = 0 → hitE tq e) := Lib.hid (fun h => ⟨hkd, hi, by rw [← HQ.out]; exact h⟩)
          have HNo : Hid (q.2 ≠ 0 → ¬ hitE tq e) := Lib.hid (fun h hh => h (by rw [HQ.out]; exact hh.2.2))
          have HL : Hid (∀ W, Below wr.heap.size wr W → W.cell? ⟨g, o + m * 4, none⟩ = some (.int .i64 e.ix)) := Lib.hid (fun W hb => cell_later hb h1)
          clear hq hi hkd
          go_wp2_with fail
          refine HG.out.mono ?_
          rintro e1 w1 h1'
          obtain ⟨aoM, NM, cM, rfl, hoM, hlM, hbM⟩ := h1'
          have HOM := Lib.hid hoM
          have HLM := Lib.hid hlM
          have HBM := Lib.hid (HB.out.trans (hbM.mono HB.out.size))
          have cc3 := HC2.out _ HBM.out
          have d1 := HL.out _ hbM
          have hszr := HB.out.size
          clear hoM hlM hbM HG h1 h3 h4 cc2
          by_cases hq0 : q.2 = 0
          · have hdq : (q.2 == 0) = true := by simpa using hq0
            have HH := Lib.hid (HHit.out hq0)
            clear hq0
            go_wp2_with fail
            go_quiet (fail)
            go_wp2_with fail
            go_ret2
            exact ⟨below_drewN HBM.out _, .inr ⟨m, e, aoM, NM, cM, HEk.out, HH.out, fun j z hj hz => HN.out j z (by omega) hz, rfl, by rw [← HQ.out]; exact row_mono (HOM.out.kept (row := none) ⟨rfl, rfl, rfl, by simp, fun _ _ _ => by simp⟩ (by cases (Value.slice aoM NM cM).ownBlock <;> simp)) hszr, by rw [← HQ.out]; exact HLM.out⟩⟩
          · have hdq : (q.2 == 0) = false := by simpa using hq0
            have HH := Lib.hid (HNx.out (HNo.out hq0))
            clear hq0
            go_wp2_with fail
            go_roundw
            case rel => exact ⟨m, by omega, rfl, HH, HBM⟩
            case measure => simp [intOf] <;> omega
        · have hdk : (e.kd == 2) = false := by simpa using hkd
          have HH := Lib.hid (HNx.out (fun hh => hkd hh.1))
          clear hkd
          go_wp2_with fail
          go_roundw
          case rel => exact ⟨m, by omega, rfl, HH, HB⟩
          case measure => simp [intOf] <;> omega
      · have hdi : decide (e.ix ≤ tq) = false := by simpa using hi
        have HH := Lib.hid (HNx.out (fun hh => hi hh.2.1))
        clear hi
        go_wp2_with fail
        go_roundw
        case rel => exact ⟨m, by omega, rfl, HH, HB⟩
        case measure => simp [intOf] <;> omega
end Go.Proofs.YtmdidmllaldbaaaGreat
