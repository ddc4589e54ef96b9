/- A law's Book with lists of the kinds Children (printed by wip/gen_bkset.py). -/
import Derived.Test.YtmdidmllaldbaaaGreatBkSet
import Derived.Test.YtmdidmllaldbaaaGreatApartC
namespace Go.Proofs.YtmdidmllaldbaaaGreat
open Go.RowKit
set_option linter.unusedVariables false
/-- The Book at block bn, with rows apart from each other; below w nothing has turned. -/
structure BsCX (w W : World) (bn : Nat) (o : Nat → Tag) (cs : Array Value) (ovC wvC : Value) (rowsC : List (KRow Chd)) : Prop where
  at_ : BookAt W w.heap.size 39 o bn cs
  old : ∀ g, g < w.heap.size → o g = (1000, 0, 0)
  bel : Below w.heap.size w W
  c0 : cs[0]? = some (.slice none 0 0)
  c2 : cs[2]? = some (.slice none 0 0)
  c4 : cs[4]? = some (.slice none 0 0)
  c6 : cs[6]? = some ovC
  c7 : cs[7]? = some wvC
  kC : Kept W w.heap.size o 3 66 192 2 chdCells ovC wvC rowsC
  c8 : cs[8]? = some (.slice none 0 0)
  c10 : cs[10]? = some (.slice none 0 0)
  c12 : cs[12]? = some (.slice none 0 0)
  c14 : cs[14]? = some (.slice none 0 0)
  c16 : cs[16]? = some (.slice none 0 0)
  c18 : cs[18]? = some (.slice none 0 0)
  c20 : cs[20]? = some (.slice none 0 0)
def BsC (w W : World) (bn : Nat) (o : Nat → Tag) : Prop := ∃ cs ovC wvC rowsC, BsCX w W bn o cs ovC wvC rowsC
theorem BsC.start {w W : World} (hb : Below w.heap.size w W) : BsC w (W.alloc (.cells book0 39)) W.heap.size (fun g => if g < w.heap.size then (1000, 0, 0) else (99, 0, 0)) :=
  ⟨book0, .slice none 0 0, .slice none 0 0, [], ⟨⟨heap_alloc_new W _, rfl, hb.size, by show (if _ then _ else _) = _; rw [if_neg (by have := hb.size; omega)]⟩, fun g hg => by show (if _ then _ else _) = _; rw [if_pos hg], hb.alloc hb.size _, rfl, rfl, rfl, rfl, rfl, Kept.nil_, rfl, rfl, rfl, rfl, rfl, rfl, rfl⟩⟩
theorem BsC.agree {w W : World} {bn : Nat} {o o' : Nat → Tag} (h : BsC w W bn o) (ha : Agree o o' W.heap.size) : BsC w W bn o' := by
  obtain ⟨cs, ovC, wvC, rowsC, h⟩ := h
  have hT : Turn o (fun _ => False) W W := Turn.refl _ _ _
  exact ⟨cs, ovC, wvC, rowsC, h.at_.turn hT id ha, fun g hg => (ha g (Nat.lt_of_lt_of_le hg h.bel.size)).trans (h.old g hg), h.bel, h.c0, h.c2, h.c4, h.c6, h.c7, h.kC.turn hT (fun _ _ => id) ha, h.c8, h.c10, h.c12, h.c14, h.c16, h.c18, h.c20⟩
theorem BsC.below {w W W' : World} {bn : Nat} {o : Nat → Tag} (h : BsC w W bn o) (hb : Below W.heap.size W W') : BsC w W' bn o := by
  obtain ⟨cs, ovC, wvC, rowsC, h⟩ := h
  exact ⟨cs, ovC, wvC, rowsC, h.at_.below hb, h.old, h.bel.trans (hb.mono h.bel.size), h.c0, h.c2, h.c4, h.c6, h.c7, h.kC.below hb, h.c8, h.c10, h.c12, h.c14, h.c16, h.c18, h.c20⟩
theorem BsC.bel {w W : World} {bn : Nat} {o : Nat → Tag} (h : BsC w W bn o) : Below w.heap.size w W := by
  obtain ⟨cs, ovC, wvC, rowsC, h⟩ := h
  exact h.bel
theorem BsC.apart {w W : World} {bn : Nat} {o : Nat → Tag} (h : BsC w W bn o) : Calls Tryz.prog 32 #[.pointer (some ⟨bn, 0, none⟩)] W fun e W' => e = .returned (.bool true) ∧ Below w.heap.size w W' := by
  obtain ⟨cs, ovC, wvC, rowsC, h⟩ := h
  refine (apartC_any h.at_ h.bel.size h.c0 h.c2 h.c4 h.c6 h.c7 h.kC h.c8 h.c10 h.c12 h.c14 h.c16 h.c18 h.c20).mono ?_
  rintro e W' ⟨rfl, hT⟩
  exact ⟨rfl, h.bel.trans (hT.lower h.bel.size (fun g hg => by rw [h.old g hg]; decide))⟩
theorem BsC.addC {w W : World} {bn n c i : Nat} {o : Nat → Tag} {ao : Option Addr} {l : List Chd} (h : BsC w W bn o) (hown : W.ownsRow w.heap.size 192 2 (.slice ao n c) n (chdCells l)) (hl : l.length = n) (hn : n ≤ 100000) (ht : Tagged o W.heap.size (77, i, 0) (.slice ao n c)) :
    Calls Tryz.prog 43 #[.pointer (some ⟨bn, 0, none⟩), .slice ao n c] W fun e W' => e = .returned (.tuple #[]) ∧ ∃ o', BsC w W' bn o' ∧ Upd i o o' W.heap.size ∧ Turn o SS W W' := by
  obtain ⟨cs, ovC, wvC, rowsC, h⟩ := h
  have hS : ∀ g, g < w.heap.size → settle o i 3 rowsC.length g = (1000, 0, 0) := fun g hg => settle_other (h.old g hg) (by decide)
  have hB : BookAt W w.heap.size 39 (settle o i 3 rowsC.length) bn cs := ⟨h.at_.1, h.at_.2.1, h.at_.2.2.1, settle_other h.at_.2.2.2 (by decide)⟩
  refine (addC_any hB h.bel.size h.c6 h.c7 (h.kC.settle (by decide)) hown hl hn (settle_own ht)).mono ?_
  rintro e W' ⟨rfl, o', ov', wv', rows', ha, hb, hk, hT⟩
  have hsz : cs.size = 22 := h.at_.2.1
  refine ⟨rfl, o', ⟨(cs.setIfInBounds 6 ov').setIfInBounds 7 wv', ov', wv', rows', ?_⟩, settle_upd ha, settle_turn (by decide) hT⟩
  refine ⟨hb, fun g hg => (ha g (Nat.lt_of_lt_of_le hg h.bel.size)).trans (hS g hg), h.bel.trans (hT.lower h.bel.size (fun g hg => by rw [hS g hg]; simp)), by rw [Array.getElem?_setIfInBounds, if_neg (by decide), Array.getElem?_setIfInBounds, if_neg (by decide)]; exact h.c0, by rw [Array.getElem?_setIfInBounds, if_neg (by decide), Array.getElem?_setIfInBounds, if_neg (by decide)]; exact h.c2, by rw [Array.getElem?_setIfInBounds, if_neg (by decide), Array.getElem?_setIfInBounds, if_neg (by decide)]; exact h.c4, by rw [Array.getElem?_setIfInBounds, if_neg (by decide)]; simp [hsz], by simp [hsz], hk, by rw [Array.getElem?_setIfInBounds, if_neg (by decide), Array.getElem?_setIfInBounds, if_neg (by decide)]; exact h.c8, by rw [Array.getElem?_setIfInBounds, if_neg (by decide), Array.getElem?_setIfInBounds, if_neg (by decide)]; exact h.c10, by rw [Array.getElem?_setIfInBounds, if_neg (by decide), Array.getElem?_setIfInBounds, if_neg (by decide)]; exact h.c12, by rw [Array.getElem?_setIfInBounds, if_neg (by decide), Array.getElem?_setIfInBounds, if_neg (by decide)]; exact h.c14, by rw [Array.getElem?_setIfInBounds, if_neg (by decide), Array.getElem?_setIfInBounds, if_neg (by decide)]; exact h.c16, by rw [Array.getElem?_setIfInBounds, if_neg (by decide), Array.getElem?_setIfInBounds, if_neg (by decide)]; exact h.c18, by rw [Array.getElem?_setIfInBounds, if_neg (by decide), Array.getElem?_setIfInBounds, if_neg (by decide)]; exact h.c20⟩
end Go.Proofs.YtmdidmllaldbaaaGreat
