/- The walks of leaf.Put, Size and Fits. -/
import Derived.Test.YtopefaeemkemiaaLayI
namespace Go.Proofs.Ytopefaeemkemiaa
open Go.RowKit
set_option linter.unusedVariables false
/-- What Put answers. -/
def putI (l : List Itm) : List UInt8 × Int := if riseI l = true then (if 240 < (layI l).length then ([], 2) else (layI l, 0)) else ([], 1)
/-- Items along a walk: a slice of them that is not too long. -/
structure ItmsOk (w : World) (ao : Option Addr) (n : Nat) (l : List Itm) : Prop where
  itms : Itms w w.heap.size ao n l
  ok : ∀ e ∈ l, ItmOk e
  few : n ≤ 2000000
  sum : (l.map Itm.len).sum ≤ 17592186044416
theorem ItmsOk.below {w w' : World} {ao : Option Addr} {n : Nat} {l : List Itm} (h : ItmsOk w ao n l) (hb : Below w.heap.size w w') : ItmsOk w' ao n l :=
  ⟨(h.itms.below hb).mono hb.size, h.ok, h.few, h.sum⟩
theorem ItmsOk.len {w : World} {ao : Option Addr} {n : Nat} {l : List Itm} (h : ItmsOk w ao n l) : l.length = n := h.itms.1
theorem ItmsOk.bytes {w : World} {ao : Option Addr} {n : Nat} {l : List Itm} (h : ItmsOk w ao n l) : (layI l).length ≤ 17600000000000 := by
  have h1 := layI_len l
  have h2 := h.len
  have h3 := h.few
  have h4 := h.sum
  omega
section
variable {w : World} {ao : Option Addr} {n c : Nat} {l : List Itm} (h : ItmsOk w ao n l)
include h
theorem putI_any : Calls Try.prog 11 #[.slice ao n c] w fun e w' => e = .returned (.tuple #[.string ⟨(putI l).1.toArray⟩, .int .i64 (putI l).2]) ∧ Below w.heap.size w w' := by
  have HR := Lib.hid (rise_anyI (c := c) h.itms h.ok (by have := h.few; omega))
  have HL : Hid (∀ W, Below w.heap.size w W → Calls Try.prog 25 #[.slice ao n c] W fun e w' => e = .returned (.string ⟨(layI l).toArray⟩) ∧ Below W.heap.size W w') :=
    Lib.hid (fun W hb => lay_anyI (h.below hb).itms h.ok h.few h.sum)
  have hby := h.bytes
  obtain ⟨r, hr⟩ : ∃ r, r = riseI l := ⟨_, rfl⟩
  obtain ⟨L, hL⟩ : ∃ L, L = layI l := ⟨_, rfl⟩
  unfold putI
  rw [← hr] at HR ⊢
  rw [← hL] at HL hby ⊢
  clear hr hL h
  cases r with
  | false =>
    go_enter Try.func11, Try.ntmps11
    go_wp2_with fail
    refine HR.out.mono ?_
    rintro e w1 ⟨rfl, hb1⟩
    go_wp2_with fail
    go_ret2
    exact ⟨rfl, hb1⟩
  | true =>
    rw [if_pos rfl]
    have hsz : (ByteArray.mk L.toArray).size = L.length := by show L.toArray.size = _; simp
    obtain ⟨S, hS⟩ : ∃ S, S = ByteArray.mk L.toArray := ⟨_, rfl⟩
    rw [← hS] at HL hsz
    have HS := Lib.hid hS
    by_cases hg : 240 < L.length
    · have d0 : decide (240 < (S.size : Int)) = true := by rw [hsz]; simp; omega
      rw [if_pos hg]
      have hs9 : S.size ≤ 9223372036854775807 := by omega
      clear hS hsz hg hby
      go_enter Try.func11, Try.ntmps11
      go_wp2_with fail
      refine HR.out.mono ?_
      rintro e w1 ⟨rfl, hb1⟩
      go_wp2_with fail
      refine (HL.out w1 hb1).mono ?_
      rintro e w2 ⟨rfl, hb2⟩
      have hb3 := hb1.trans (hb2.mono hb1.size)
      go_wp2_with fail
      go_ret2
      exact ⟨rfl, hb3⟩
    · have d0 : decide (240 < (S.size : Int)) = false := by rw [hsz]; simp; omega
      rw [if_neg hg]
      have hs9 : S.size ≤ 9223372036854775807 := by omega
      rw [← hS]
      clear hS hsz hg hby
      go_enter Try.func11, Try.ntmps11
      go_wp2_with fail
      refine HR.out.mono ?_
      rintro e w1 ⟨rfl, hb1⟩
      go_wp2_with fail
      refine (HL.out w1 hb1).mono ?_
      rintro e w2 ⟨rfl, hb2⟩
      have hb3 := hb1.trans (hb2.mono hb1.size)
      go_wp2_with fail
      go_ret2
      exact ⟨rfl, hb3⟩
theorem sizeI_any : Calls Try.prog 17 #[.slice ao n c] w fun e w' => e = .returned (.int .i64 (layI l).length) ∧ Below w.heap.size w w' := by
  have HL := Lib.hid (lay_anyI (c := c) h.itms h.ok h.few h.sum)
  have hsz : (ByteArray.mk (layI l).toArray).size = (layI l).length := by show (layI l).toArray.size = _; simp
  have hby := h.bytes
  rw [← hsz] at hby ⊢
  obtain ⟨S, hS⟩ : ∃ S, S = ByteArray.mk (layI l).toArray := ⟨_, rfl⟩
  rw [← hS] at HL hby ⊢
  clear hS h hsz
  go_enter Try.func17, Try.ntmps17
  go_wp2_with fail
  refine HL.out.mono ?_
  rintro e w1 ⟨rfl, hb1⟩
  go_wp2_with fail
  go_ret
  exact ⟨rfl, hb1⟩
theorem fitsI_any : Calls Try.prog 15 #[.slice ao n c] w fun e w' => e = .returned (.bool ((putI l).2 == 0)) ∧ Below w.heap.size w w' := by
  have HP := Lib.hid (putI_any (c := c) h)
  obtain ⟨q, hq⟩ : ∃ q, q = putI l := ⟨_, rfl⟩
  rw [← hq] at HP ⊢
  clear hq h
  go_enter Try.func15, Try.ntmps15
  go_wp2_with fail
  refine HP.out.mono ?_
  rintro e w1 ⟨rfl, hb1⟩
  go_wp2_with fail
  go_ret
  exact ⟨rfl, hb1⟩
end
end Go.Proofs.Ytopefaeemkemiaa
