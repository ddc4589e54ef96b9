/- The walk of a Book's Told, of one message. -/
import Derived.Test.YtmdidmllaldbaaaGreatBsEIPM
import Derived.Test.YtmdidmllaldbaaaGreatBsPend
namespace Go.Proofs.YtmdidmllaldbaaaGreat
open Go.RowKit
set_option linter.unusedVariables false
theorem NS.tags {W : World} {base i j k : Nat} {m : MsgR} {o : Nat → Tag} (h : MsgOwn W base m) (t1 : Tagged o W.heap.size (77, i, 0) (.slice m.eo m.en m.ec)) (t2 : Tagged o W.heap.size (77, j, 0) (.slice m.mo m.mn m.mc)) (t3 : Tagged o W.heap.size (77, k, 0) (.slice m.po m.pn m.pc)) : NS o m :=
  ⟨fun g hg => by rw [t1 g hg (h.lt.1 g hg).2]; exact not_ss77 _, fun g hg => by rw [t2 g hg (h.lt.2.1 g hg).2]; exact not_ss77 _, fun g hg => by rw [t3 g hg (h.lt.2.2 g hg).2]; exact not_ss77 _⟩
set_option maxRecDepth 20000 in
set_option maxHeartbeats 4000000 in
theorem told_any {w W : World} {bn c : Nat} {o : Nat → Tag} {ao : Option Addr} {m : MsgR} (h : BsEIPM w W bn o) (hown : W.ownsRow w.heap.size 118 14 (.slice ao 1 c) 1 m.cells) (hm : MsgOwn W w.heap.size m) (hok : MsgOk m.v) (hsm : MsgSm m.v)
    (t1 : Tagged o W.heap.size (77, 1, 0) (.slice m.eo m.en m.ec)) (t2 : Tagged o W.heap.size (77, 2, 0) (.slice m.mo m.mn m.mc)) (t3 : Tagged o W.heap.size (77, 3, 0) (.slice m.po m.pn m.pc)) (t4 : Tagged o W.heap.size (77, 4, 0) (.slice ao 1 c)) :
    Calls Tryz.prog 87 #[.pointer (some ⟨bn, 0, none⟩), .slice ao 1 c] W fun e W' => e = .returned (.tuple #[]) ∧ ∃ o', BsEIPM w W' bn o' ∧ Turn o SS W W' := by
  obtain ⟨g, hg0⟩ : ∃ g, ao = some ⟨g, 0, none⟩ := by
    obtain ⟨g0, c0', hv0, _, _⟩ := hown.form (by omega)
    injection hv0 with hv0 _ _
    exact ⟨g0, hv0⟩
  subst hg0
  have hen : m.en ≤ 100000 := by have := hm.el; have := hsm.el; omega
  have hmn : m.mn ≤ 100000 := by have := hm.ml; have := hsm.ml; omega
  have hpn : m.pn ≤ 100000 := by have := hm.pl; have := hsm.pl; omega
  have HA := Lib.hid (h.addE hm.es hm.el hen t1)
  have HM := Lib.hid hm
  have HN := Lib.hid (NS.tags hm t1 t2 t3)
  have HP : Hid (Pend W w.heap.size o 4 118 14 (.slice (some ⟨g, 0, none⟩) 1 c) 1 m.cells) := Lib.hid ⟨hown, t4⟩
  have HT := Lib.hid (And.intro t2 t3)
  have HOk := Lib.hid (And.intro hok hsm)
  have HC : Hid (∀ (W1 : World) (o1 : Nat → Tag), Pend W1 w.heap.size o1 4 118 14 (.slice (some ⟨g, 0, none⟩) 1 c) 1 m.cells → W1.cell? ⟨g, 10, none⟩ = some (.slice m.eo m.en m.ec) ∧ W1.cell? ⟨g, 11, none⟩ = some (.slice m.mo m.mn m.mc) ∧ W1.cell? ⟨g, 13, none⟩ = some (.slice m.po m.pn m.pc)) := Lib.hid (fun W1 o1 h => ⟨by rw [h.own.cellAt 10 (by omega)]; rfl, by rw [h.own.cellAt 11 (by omega)]; rfl, by rw [h.own.cellAt 13 (by omega)]; rfl⟩)
  obtain ⟨c10, c11, c13⟩ := HC.out W o HP.out
  clear h hown hm hok hsm t1 t2 t3 t4
  go_enter Tryz.func87, Tryz.ntmps87
  go_wp2_with fail
  go_loopw [4] (fun x wr => ∃ k : Nat, k ≤ 1 ∧ x = .int .i64 k ∧ (k = 0 → wr = W) ∧ (k = 1 → Hid (∃ o', BsEIPM w wr bn o' ∧ Turn o SS W wr ∧ Pend wr w.heap.size o' 4 118 14 (.slice (some ⟨g, 0, none⟩) 1 c) 1 m.cells ∧ MsgOwn wr w.heap.size m ∧ NS o' m ∧ ∀ g, g < W.heap.size → ¬ SS (o g) → ¬ SS (o' g)))) (fun x _ => 1 - (intOf x).toNat)
  case atStart => exact ⟨0, by omega, rfl, fun _ => rfl, fun h => by omega⟩
  case round =>
    obtain ⟨k, hk, rfl, h0, h1⟩ := hrel
    by_cases hk0 : k = 0
    · subst hk0
      have e8 := h0 rfl
      subst e8
      rename World => W
      clear h0 h1 hk
      go_wp2_with fail
      refine HA.out.mono ?_
      rintro e W1 ⟨rfl, o1, B1, U1, T1⟩
      have hm1 := HM.out.ns HN.out (fun _ h => h) T1
      have hn1 := HN.out.map HM.out (fun g hg hs => U1.not hg hs)
      have hp1 := HP.out.step U1 T1 (by decide)
      have HA1 := Lib.hid (B1.addI (i := 2) (l := m.v.ms) hm1.ms hm1.ml hmn ((U1.wait (by decide) HT.out.1).more HM.out.ms _))
      have HM1 := Lib.hid hm1
      have HN1 := Lib.hid hn1
      have HP1 := Lib.hid hp1
      have HT1 := Lib.hid T1
      have HU1 := Lib.hid U1
      have HTp := Lib.hid ((U1.wait (by decide) HT.out.2).more HM.out.ps W1.heap.size)
      obtain ⟨-, c11, c13⟩ := HC.out _ _ hp1
      clear B1 U1 T1 hm1 hn1 hp1 HA c10
      go_wp2_with fail
      refine HA1.out.mono ?_
      rintro e W2 ⟨rfl, o2, B2, U2, T2⟩
      have hm2 := HM1.out.ns HN1.out (fun _ h => h) T2
      have hn2 := HN1.out.map HM1.out (fun g hg hs => U2.not hg hs)
      have hp2 := HP1.out.step U2 T2 (by decide)
      have HA2 := Lib.hid (B2.addP (i := 3) (l := m.v.ps) hm2.ps hm2.pl hpn ((U2.wait (by decide) HTp.out).more HM1.out.ps _))
      have HM2 := Lib.hid hm2
      have HN2 := Lib.hid hn2
      have HP2 := Lib.hid hp2
      have HT2 := Lib.hid T2
      have HU2 := Lib.hid U2
      obtain ⟨-, -, c13⟩ := HC.out _ _ hp2
      clear B2 U2 T2 hm2 hn2 hp2 HA1 c11
      go_wp2_with fail
      refine HA2.out.mono ?_
      rintro e W3 ⟨rfl, o3, B3, U3, T3⟩
      have hm3 := HM2.out.ns HN2.out (fun _ h => h) T3
      have hn3 := HN2.out.map HM2.out (fun g hg hs => U3.not hg hs)
      have hp3 := HP2.out.step U3 T3 (by decide)
      have HF : Hid (∃ o', BsEIPM w W3 bn o' ∧ Turn o SS W W3 ∧ Pend W3 w.heap.size o' 4 118 14 (.slice (some ⟨g, 0, none⟩) 1 c) 1 m.cells ∧ MsgOwn W3 w.heap.size m ∧ NS o' m ∧ ∀ g, g < W.heap.size → ¬ SS (o g) → ¬ SS (o' g)) := Lib.hid (by
        have z1 := HT1.out.size
        have z2 := HT2.out.size
        have s1 : ∀ g, g < W.heap.size → ¬ SS (o g) → ¬ SS (o1 g) := fun g hg hs => HU1.out.not hg hs
        have s2 : ∀ g, g < W.heap.size → ¬ SS (o g) → ¬ SS (o2 g) := fun g hg hs => HU2.out.not (by omega) (s1 g hg hs)
        have s3 : ∀ g, g < W.heap.size → ¬ SS (o g) → ¬ SS (o3 g) := fun g hg hs => U3.not (by omega) (s2 g hg hs)
        refine ⟨o3, B3, ⟨T3.os.trans (HT2.out.os.trans HT1.out.os), T3.tape.trans (HT2.out.tape.trans HT1.out.tape), T3.output.trans (HT2.out.output.trans HT1.out.output), Nat.le_trans z1 (Nat.le_trans z2 T3.size), fun g hg hs => ?_⟩, hp3, hm3, hn3, s3⟩
        exact (T3.block g (by omega) (s2 g hg hs)).trans ((HT2.out.block g (by omega) (s1 g hg hs)).trans (HT1.out.block g hg hs)))
      clear B3 U3 T3 hm3 hn3 hp3 HA2 c13
      go_wp2_with fail
      go_roundw
      case rel => exact ⟨1, by omega, by go_num, fun h => by omega, fun _ => HF⟩
      case measure => simp [intOf]
    · obtain rfl : k = 1 := by omega
      obtain ⟨o3, B3, T3, P3, M3, N3, S3⟩ := (h1 rfl).out
      have HAm := Lib.hid (B3.addM (i := 4) P3.own M3 N3 HOk.out.1 HOk.out.2 P3.tag)
      have HT3 := Lib.hid (And.intro T3 S3)
      clear h0 h1 B3 T3 P3 M3 N3 S3 HA
      go_wp2_with fail
      refine HAm.out.mono ?_
      rintro e W4 ⟨rfl, o4, B4, U4, T4⟩
      have HF : Hid (BsEIPM w W4 bn o4 ∧ Turn o SS W W4) := Lib.hid (by
        have z3 := HT3.out.1.size
        exact ⟨B4, T4.os.trans HT3.out.1.os, T4.tape.trans HT3.out.1.tape, T4.output.trans HT3.out.1.output, Nat.le_trans z3 T4.size, fun g hg hs => (T4.block g (by omega) (HT3.out.2 g hg hs)).trans (HT3.out.1.block g hg hs)⟩)
      clear B4 U4 T4 HAm
      go_wp2_with fail
      go_end0
      exact ⟨rfl, o4, HF.out⟩
end Go.Proofs.YtmdidmllaldbaaaGreat
