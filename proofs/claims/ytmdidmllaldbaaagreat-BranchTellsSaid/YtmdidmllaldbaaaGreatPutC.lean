/- The walks of branch.Put, Size and Fits. -/
import Derived.Test.YtmdidmllaldbaaaGreatLayC
namespace Go.Proofs.YtmdidmllaldbaaaGreat
open Go.RowKit
set_option linter.unusedVariables false
/-- What Put answers. -/
def putC (l : List Chd) : List UInt8 × Int := if rightC l = true then (if 240 < (layB l).length then ([], 2) else (layB l, 0)) else ([], 1)
/-- Children along a walk: a slice of them that is not too long. -/
structure ChdsOk (w : World) (ao : Option Addr) (n : Nat) (l : List Chd) : Prop where
  chds : Chds w w.heap.size ao n l
  ok : ∀ e ∈ l, ChdOk e
  few : n ≤ 2000000
  sum : (l.map (·.key.size)).sum ≤ 17592186044416
theorem ChdsOk.below {w w' : World} {ao : Option Addr} {n : Nat} {l : List Chd} (h : ChdsOk w ao n l) (hb : Below w.heap.size w w') : ChdsOk w' ao n l :=
  ⟨(h.chds.below hb).mono hb.size, h.ok, h.few, h.sum⟩
theorem ChdsOk.len {w : World} {ao : Option Addr} {n : Nat} {l : List Chd} (h : ChdsOk w ao n l) : l.length = n := h.chds.1
theorem ChdsOk.bytes {w : World} {ao : Option Addr} {n : Nat} {l : List Chd} (h : ChdsOk w ao n l) : (layB l).length ≤ 17600000000000 := by
  have h1 := layB_len l
  have h2 := h.len
  have h3 := h.few
  have h4 := h.sum
  omega
section
variable {w : World} {ao : Option Addr} {n c : Nat} {l : List Chd} (h : ChdsOk w ao n l)
include h
theorem putC_any : Calls Tryz.prog 36 #[.slice ao n c] w fun e w' => e = .returned (.tuple #[.string ⟨(putC l).1.toArray⟩, .int .i64 (putC l).2]) ∧ Below w.heap.size w w' := by
  have HR := Lib.hid (right_anyC (c := c) h.chds h.ok (by have := h.few; omega))
  have HL : Hid (∀ W, Below w.heap.size w W → Calls Tryz.prog 177 #[.slice ao n c] W fun e w' => e = .returned (.string ⟨(layB l).toArray⟩) ∧ Below W.heap.size W w') :=
    Lib.hid (fun W hb => lay_any (h.below hb).chds h.ok h.few h.sum)
  have hby := h.bytes
  obtain ⟨r, hr⟩ : ∃ r, r = rightC l := ⟨_, rfl⟩
  obtain ⟨L, hL⟩ : ∃ L, L = layB l := ⟨_, rfl⟩
  unfold putC
  rw [← hr] at HR ⊢
  rw [← hL] at HL hby ⊢
  clear hr hL h
  cases r with
  | false =>
    go_enter Tryz.func36, Tryz.ntmps36
    go_wp2_with fail
    refine HR.out.mono ?_
    rintro e w1 ⟨rfl, hb1⟩
    go_wp2_with fail
    go_ret2
    exact ⟨rfl, hb1⟩
  | true =>
    rw [if_pos rfl]
    have hsz : (ByteArray.mk L.toArray).size = L.length := by show L.toArray.size = _; simp
    obtain ⟨S, hS⟩ : ∃ S, S = ByteArray.mk L.toArray := ⟨_, rfl⟩
    rw [← hS] at HL hsz
    have HS := Lib.hid hS
    by_cases hg : 240 < L.length
    · have d0 : decide (240 < (S.size : Int)) = true := by rw [hsz]; simp; omega
      rw [if_pos hg]
      have hs9 : S.size ≤ 9223372036854775807 := by omega
      clear hS hsz hg hby
      go_enter Tryz.func36, Tryz.ntmps36
      go_wp2_with fail
      refine HR.out.mono ?_
      rintro e w1 ⟨rfl, hb1⟩
      go_wp2_with fail
      refine (HL.out w1 hb1).mono ?_
      rintro e w2 ⟨rfl, hb2⟩
      have hb3 := hb1.trans (hb2.mono hb1.size)
      go_wp2_with fail
      go_ret2
      exact ⟨rfl, hb3⟩
    · have d0 : decide (240 < (S.size : Int)) = false := by rw [hsz]; simp; omega
      rw [if_neg hg]
      have hs9 : S.size ≤ 9223372036854775807 := by omega
      rw [← hS]
      clear hS hsz hg hby
      go_enter Tryz.func36, Tryz.ntmps36
      go_wp2_with fail
      refine HR.out.mono ?_
      rintro e w1 ⟨rfl, hb1⟩
      go_wp2_with fail
      refine (HL.out w1 hb1).mono ?_
      rintro e w2 ⟨rfl, hb2⟩
      have hb3 := hb1.trans (hb2.mono hb1.size)
      go_wp2_with fail
      go_ret2
      exact ⟨rfl, hb3⟩
theorem sizeC_any : Calls Tryz.prog 45 #[.slice ao n c] w fun e w' => e = .returned (.int .i64 (layB l).length) ∧ Below w.heap.size w w' := by
  have HL := Lib.hid (lay_any (c := c) h.chds h.ok h.few h.sum)
  have hsz : (ByteArray.mk (layB l).toArray).size = (layB l).length := by show (layB l).toArray.size = _; simp
  have hby := h.bytes
  rw [← hsz] at hby ⊢
  obtain ⟨S, hS⟩ : ∃ S, S = ByteArray.mk (layB l).toArray := ⟨_, rfl⟩
  rw [← hS] at HL hby ⊢
  clear hS h hsz
  go_enter Tryz.func45, Tryz.ntmps45
  go_wp2_with fail
  refine HL.out.mono ?_
  rintro e w1 ⟨rfl, hb1⟩
  go_wp2_with fail
  go_ret
  exact ⟨rfl, hb1⟩
theorem fitsC_any : Calls Tryz.prog 47 #[.slice ao n c] w fun e w' => e = .returned (.bool ((putC l).2 == 0)) ∧ Below w.heap.size w w' := by
  have HP := Lib.hid (putC_any (c := c) h)
  obtain ⟨q, hq⟩ : ∃ q, q = putC l := ⟨_, rfl⟩
  rw [← hq] at HP ⊢
  clear hq h
  go_enter Tryz.func47, Tryz.ntmps47
  go_wp2_with fail
  refine HP.out.mono ?_
  rintro e w1 ⟨rfl, hb1⟩
  go_wp2_with fail
  go_ret
  exact ⟨rfl, hb1⟩
end
end Go.Proofs.YtmdidmllaldbaaaGreat
