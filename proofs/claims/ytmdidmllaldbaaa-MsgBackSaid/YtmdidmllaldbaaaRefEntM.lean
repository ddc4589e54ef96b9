/- The walks of arboretumref16: One, members, Put: the document's own bytes of entries. -/
import Derived.Test.YtmdidmllaldbaaaRefEnt
import Derived.Test.YtmdidmllaldbaaaBytesB
import Derived.Test.YtmdidmllaldbaaaEntM
import Derived.Deep.QuietTactic
import Derived.BigQuiet
namespace Go.Proofs.Ytmdidmllaldbaaa
open Go.RowKit
theorem rputMembers16_any {ao : Option Addr} {n c : Nat} {vs : List Int} {w : World} (h : IntsOf w ao n vs) (hn : n ≤ 1000000) :
    Calls Try.prog 39 #[.slice ao n c] w fun e w' => e = .returned (.string ⟨(memB vs).toArray⟩) ∧ Below w.heap.size w w' := by
  have hl : Hid (vs.length = n) := Lib.hid h.1
  have HV : Hid (∀ W, Below w.heap.size w W → Calls Try.prog 36 #[.slice ao n c] W fun e w' => e = .returned (.string ⟨(vars vs).toArray⟩) ∧ Below W.heap.size W w') := Lib.hid (fun W hb => by
    refine rvars_any ao n c vs W h.1 (by omega) (fun k hk => ?_) h.2.1
    obtain ⟨b, o, v, ha, hlt, hv, hc⟩ := (h.below hb).get hk
    exact ⟨b, o, ha, hlt, by rw [hc]; simp [List.getD, hv]⟩)
  clear h
  go_enter Try.func39, Try.ntmps39
  go_wp2_with fail
  refine (rvar1_any (n : Int) (by omega) (by omega) _).mono ?_
  rintro e w1 ⟨rfl, hb1⟩
  go_wp2_with fail
  refine (HV.out _ hb1).mono ?_
  rintro e w2 ⟨rfl, hb2⟩
  have hcat := cat_run (var1 (n : Int)) (vars vs) w2 (by have := var1_len (n : Int); have := vars_len vs; have := hl.out; omega)
  go_wp2_with fail
  go_ret
  exact ⟨by unfold memB; rw [hl.out]; rfl, hb1.trans (hb2.mono hb1.size)⟩
theorem getMs_ok16 : ∀ (n : Nat) (st : RSt) (acc : List Int), (∀ v ∈ acc, -9223372036854775808 ≤ v ∧ v ≤ 9223372036854775807) → ∀ v ∈ (getMs n st acc).1, -9223372036854775808 ≤ v ∧ v ≤ 9223372036854775807 := by
  intro n
  induction n with
  | zero => intro st acc h; exact h
  | succ n ih =>
    intro st acc h
    rw [getMs]
    refine ih _ _ (fun v hv => ?_)
    rcases List.mem_append.1 hv with hv | hv
    · exact h v hv
    · simp at hv; subst hv; exact rVar_range st
theorem getMs_len16 : ∀ (n : Nat) (st : RSt) (acc : List Int), (getMs n st acc).1.length = acc.length + n := by
  intro n
  induction n with
  | zero => intro st acc; rfl
  | succ n ih => intro st acc; rw [getMs, ih]; simp; omega
/-- Members that rise, read one by one. -/
def Prev (vs : List Int) (k : Nat) (la : Int) : Prop := (k = 0 ∧ la = 0) ∨ (0 < k ∧ vs[k - 1]? = some la ∧ 1 ≤ la)
end Go.Proofs.Ytmdidmllaldbaaa
