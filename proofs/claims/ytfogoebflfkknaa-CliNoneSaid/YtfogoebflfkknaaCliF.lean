/- The walks of a client's Tick. -/
import Derived.Test.YtfogoebflfkknaaCliE
namespace Go.Proofs.Ytfogoebflfkknaa
open Go.Conc Go.RowKit
set_option linter.unusedVariables false
variable {w0 W : World} {B b gn ch cap : Nat} {v : CliV} {q : List (Int × RepV)}
theorem tick_idle (h : Cli w0 W B b gn ch cap v q) (ha : v.asked = false) : Calls Try.prog 38 #[.pointer (some ⟨b, 0, none⟩)] W fun e w' => e = .returned (.slice none 0 0) ∧ W = w' := by
  have HN := Lib.hid (none_yes h)
  have c6 : W.cell? ⟨b, 6, none⟩ = some (.bool v.asked) := h.cell 6
  rw [ha] at c6
  clear h ha
  go_enter Try.func38, Try.ntmps38
  go_wp2_with fail
  refine HN.out.mono ?_
  rintro e w1 ⟨rfl, rfl⟩
  go_wp2_with fail
  go_ret
  exact ⟨rfl, rfl⟩
theorem tick_first (h : Cli w0 W B b gn ch cap v q) (ha : v.asked = true) (ho : v.opn = false) (hnum : v.num ≤ 999999) (hsq : 0 ≤ v.sq ∧ v.sq ≤ 1000000) (hok : OpOk (askQ v)) (hv : validV (askQ v) = 0) (n : Int) (hn : v.nodes[v.cur]? = some n) :
    Calls Try.prog 38 #[.pointer (some ⟨b, 0, none⟩)] W (Sent w0 W B b gn ch cap (sentV (askV v)) q n ⟨(askB (v.num + 1 : Nat) (askQ v)).toArray⟩) := by
  have HN := Lib.hid (none_yes h)
  have HA := Lib.hid (mkask_any h (by omega) hsq)
  have HS := Lib.hid (fun W' (h' : Cli w0 W' B b gn ch cap (askV v) q) => send_any h' (show v.num + 1 ≤ 1000000 by omega) hok hv n hn)
  have c6 : W.cell? ⟨b, 6, none⟩ = some (.bool v.asked) := h.cell 6
  have c14 : W.cell? ⟨b, 14, none⟩ = some (.bool v.opn) := h.cell 14
  rw [ha] at c6
  rw [ho] at c14
  have HB := Lib.hid h.below
  clear h ha ho hnum hsq hok hv hn
  go_enter Try.func38, Try.ntmps38
  go_wp2_with fail
  refine HN.out.mono ?_
  rintro e w1 ⟨rfl, rfl⟩
  go_wp2_with fail
  refine HA.out.mono ?_
  rintro e w1 ⟨rfl, h1, f1⟩
  have HS1 := Lib.hid (HS.out w1 h1)
  have HF := Lib.hid f1
  clear h1 HS HA f1
  go_wp2_with fail
  refine HS1.out.mono ?_
  rintro e w2 ⟨g, rfl, h2, h3, h4, h5⟩
  go_wp2_with fail
  go_ret
  exact ⟨g, rfl, h2, h3, Nat.le_trans HF.out.1 h4, HF.out.trans h5⟩
theorem tick_wait (h : Cli w0 W B b gn ch cap v q) (ha : v.asked = true) (ho : v.opn = true) (hw : 1 < v.wait ∧ v.wait ≤ 1000000) :
    Calls Try.prog 38 #[.pointer (some ⟨b, 0, none⟩)] W fun e w' => e = .returned (.slice none 0 0) ∧ Cli w0 w' B b gn ch cap { v with wait := v.wait - 1 } q ∧ FarC W w' b ch := by
  have HH := Lib.hid h
  have HN := Lib.hid (none_yes h)
  have c6 : W.cell? ⟨b, 6, none⟩ = some (.bool v.asked) := h.cell 6
  have c14 : W.cell? ⟨b, 14, none⟩ = some (.bool v.opn) := h.cell 14
  have c21 : W.cell? ⟨b, 21, none⟩ = some (.int .i64 v.wait) := h.cell 21
  have f21 := h.fr 21
  rw [ha] at c6
  rw [ho] at c14
  obtain ⟨hw1, hw2⟩ := hw
  have d1 : decide ((0 : Int) < v.wait - 1) = true := by simp; omega
  clear h ha ho
  go_enter Try.func38, Try.ntmps38
  go_wp2_with fail
  refine HN.out.mono ?_
  rintro e w1 ⟨rfl, rfl⟩
  go_wp2_with fail
  go_ret
  exact ⟨rfl, HH.out.upd2 _ (blk_set HH.out.blk 21 _) (grown_set _ _ _ _) (HH.out.below.setCell HH.out.hb _) (by simp [cliCells]) rfl HH.out.curlt⟩
def againV (v : CliV) : CliV := if v.stays then { v with wait := v.wait - 1 } else { v with wait := v.wait - 1, cur := (v.cur + 1) % v.nodes.length }
theorem tick_again (h : Cli w0 W B b gn ch cap v q) (ha : v.asked = true) (ho : v.opn = true) (hw : -1000000 ≤ v.wait ∧ v.wait ≤ 1) (hnum : v.num ≤ 1000000) (hok : OpOk v.qu) (hv : validV v.qu = 0) (n : Int) (hn : (againV v).nodes[(againV v).cur]? = some n) :
    Calls Try.prog 38 #[.pointer (some ⟨b, 0, none⟩)] W (Sent w0 W B b gn ch cap (sentV (againV v)) q n ⟨(askB v.num v.qu).toArray⟩) := by
  have HH := Lib.hid h
  have HN := Lib.hid (none_yes h)
  have c6 : W.cell? ⟨b, 6, none⟩ = some (.bool v.asked) := h.cell 6
  have c14 : W.cell? ⟨b, 14, none⟩ = some (.bool v.opn) := h.cell 14
  have c21 : W.cell? ⟨b, 21, none⟩ = some (.int .i64 v.wait) := h.cell 21
  have c22 : W.cell? ⟨b, 22, none⟩ = some (.bool v.stays) := h.cell 22
  have f21 := h.fr 21
  have h1 : Cli w0 (W.setCell ⟨b, 21, none⟩ (.int .i64 (v.wait - 1))) B b gn ch cap { v with wait := v.wait - 1 } q ∧ FarC W (W.setCell ⟨b, 21, none⟩ (.int .i64 (v.wait - 1))) b ch :=
    HH.out.upd2 _ (blk_set HH.out.blk 21 _) (grown_set _ _ _ _) (HH.out.below.setCell HH.out.hb _) (by simp [cliCells]) rfl HH.out.curlt
  have H1 := Lib.hid h1
  rw [ha] at c6
  rw [ho] at c14
  obtain ⟨hw1, hw2⟩ := hw
  have d1 : decide ((0 : Int) < v.wait - 1) = false := by simp; omega
  by_cases hs : v.stays = true
  · have hA : againV v = { v with wait := v.wait - 1 } := by unfold againV; rw [if_pos hs]
    rw [hA] at hn ⊢
    rw [hs] at c22
    have HS := Lib.hid (send_any H1.out.1 hnum hok hv n hn)
    clear h ha ho h1 hs hA hnum hok hv hn
    go_enter Try.func38, Try.ntmps38
    go_wp2_with fail
    refine HN.out.mono ?_
    rintro e w1 ⟨rfl, rfl⟩
    go_wp2_with fail
    refine HS.out.mono ?_
    rintro e w2 ⟨g, rfl, h2, h3, h4, h5⟩
    go_wp2_with fail
    go_ret
    exact ⟨g, rfl, h2, h3, Nat.le_trans H1.out.2.1 h4, H1.out.2.trans h5⟩
  · have hs' : v.stays = false := by simpa using hs
    have hA : againV v = { v with wait := v.wait - 1, cur := (v.cur + 1) % v.nodes.length } := by unfold againV; rw [if_neg hs]
    rw [hA] at hn ⊢
    rw [hs'] at c22
    have HX := Lib.hid (next_any H1.out.1)
    have HS := Lib.hid (fun W' (h' : Cli w0 W' B b gn ch cap { v with wait := v.wait - 1, cur := (v.cur + 1) % v.nodes.length } q) => send_any h' hnum hok hv n hn)
    clear h ha ho h1 hs hs' hA hnum hok hv hn
    go_enter Try.func38, Try.ntmps38
    go_wp2_with fail
    refine HN.out.mono ?_
    rintro e w1 ⟨rfl, rfl⟩
    go_wp2_with fail
    refine HX.out.mono ?_
    rintro e w1 ⟨rfl, h2, h3⟩
    have HS1 := Lib.hid (HS.out w1 h2)
    have HF := Lib.hid (H1.out.2.trans h3)
    clear h2 h3 HS HX
    go_wp2_with fail
    refine HS1.out.mono ?_
    rintro e w2 ⟨g, rfl, h2, h3, h4, h5⟩
    go_wp2_with fail
    go_ret
    exact ⟨g, rfl, h2, h3, Nat.le_trans HF.out.1 h4, HF.out.trans h5⟩
end Go.Proofs.Ytfogoebflfkknaa
