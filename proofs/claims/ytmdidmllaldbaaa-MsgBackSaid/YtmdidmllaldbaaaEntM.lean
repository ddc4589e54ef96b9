/- The walks of ent.PutMembers and ent.GetMembers. -/
import Derived.Test.YtmdidmllaldbaaaRowsN
import Derived.Test.YtmdidmllaldbaaaRdr
import Derived.Test.YtmdidmllaldbaaaEntP
namespace Go.Proofs.Ytmdidmllaldbaaa
open Go.RowKit
set_option linter.unusedVariables false
theorem intinfo : (Try.prog.info? 3).map (fun i => (i.zero, i.size, i.bytes)) = some (some (.int .i64 0), 1, 8) := by kernel_rfl
/-- A slice of numbers, wherever it lies. -/
def IntsOf (w : World) (ao : Option Addr) (n : Nat) (vs : List Int) : Prop :=
  vs.length = n ∧ (∀ v ∈ vs, -9223372036854775808 ≤ v ∧ v ≤ 9223372036854775807) ∧ (0 < n → ∃ b o, ao = some ⟨b, o, none⟩ ∧ b < w.heap.size ∧ ∀ (k : Nat) (v : Int), vs[k]? = some v → w.cell? ⟨b, o + k, none⟩ = some (.int .i64 v))
theorem IntsIn.of {w : World} {ao : Option Addr} {n c : Nat} {vs : List Int} (h : IntsIn w ao n c vs) : IntsOf w ao n vs := ⟨h.len, h.ok, h.cell⟩
theorem IntsOf.below {w W : World} {ao : Option Addr} {n : Nat} {vs : List Int} (h : IntsOf w ao n vs) (hb : Below w.heap.size w W) : IntsOf W ao n vs :=
  ⟨h.1, h.2.1, fun hn => by
    obtain ⟨b, o, ha, hlt, hc⟩ := h.2.2 hn
    exact ⟨b, o, ha, Nat.lt_of_lt_of_le hlt hb.size, fun k v hv => (hb.cell (p := ⟨b, o + k, none⟩) hlt).trans (hc k v hv)⟩⟩
theorem IntsOf.get {w : World} {ao : Option Addr} {n : Nat} {vs : List Int} (h : IntsOf w ao n vs) {k : Nat} (hk : k < n) :
    ∃ b o v, ao = some ⟨b, o, none⟩ ∧ b < w.heap.size ∧ vs[k]? = some v ∧ w.cell? ⟨b, o + k, none⟩ = some (.int .i64 v) := by
  obtain ⟨b, o, ha, hb, hc⟩ := h.2.2 (by omega)
  have hkl : k < vs.length := by rw [h.1]; exact hk
  exact ⟨b, o, vs[k], ha, hb, List.getElem?_eq_getElem hkl, hc k _ (List.getElem?_eq_getElem hkl)⟩
theorem IntsOf.var {w : World} {ao : Option Addr} {n c : Nat} {vs : List Int} (h : IntsOf w ao n vs) (hn : n ≤ 1000000) :
    Calls Try.prog 13 #[.slice ao n c] w fun e w' => e = .returned (.string ⟨(vars vs).toArray⟩) ∧ Below w.heap.size w w' := by
  refine nvar_any ao n c vs w h.1 (by omega) (fun k hk => ?_) h.2.1
  obtain ⟨b, o, v, ha, hlt, hv, hc⟩ := h.get hk
  refine ⟨⟨b, o, none⟩, ha, hlt, ?_⟩
  rw [add_plain, hc]
  simp [List.getD, hv]
theorem putMembers_any {ao : Option Addr} {n c : Nat} {vs : List Int} {w : World} (h : IntsOf w ao n vs) (hn : n ≤ 1000000) :
    Calls Try.prog 16 #[.slice ao n c] w fun e w' => e = .returned (.string ⟨(memB vs).toArray⟩) ∧ Below w.heap.size w w' := by
  have HI := Lib.hid h
  have hl : Hid (vs.length = n) := Lib.hid h.1
  clear h
  go_enter Try.func16, Try.ntmps16
  go_wp2_with fail
  refine (var_one (n : Int) _ _ (by omega) (by omega)).mono ?_
  rintro e w1 ⟨rfl, hb1⟩
  go_wp2_with fail
  refine ((HI.out.below hb1).var hn).mono ?_
  rintro e w2 ⟨rfl, hb2⟩
  have hcat := cat_run (var1 (n : Int)) (vars vs) w2 (by have := var1_len (n : Int); have := vars_len vs; have := hl.out; omega)
  go_wp2_with fail
  go_ret
  exact ⟨by unfold memB; rw [hl.out]; rfl, hb1.trans (hb2.mono hb1.size)⟩
/-- What GetMembers answers. -/
def MemRes (r : List Int × Int) (w : World) (e : Ending) (w' : World) : Prop :=
  ∃ ao N c, e = .returned (.tuple #[.slice ao N c, .int .i64 r.2]) ∧ w'.ownsRow w.heap.size 3 1 (.slice ao N c) N (r.1.map (Value.int .i64)) ∧ r.1.length = N ∧ Below w.heap.size w w'
end Go.Proofs.Ytmdidmllaldbaaa
