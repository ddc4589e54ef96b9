/- A law's Book with lists of the kinds Ints, Pairs, Entries, Msgs (printed by wip/gen_bkset.py). -/
import Derived.Test.YtmdidmllaldbaaaGreatBkSet
import Derived.Test.YtmdidmllaldbaaaGreatApartEIPM
namespace Go.Proofs.YtmdidmllaldbaaaGreat
open Go.RowKit
set_option linter.unusedVariables false
/-- The Book at block bn, with rows apart from each other; below w nothing has turned. -/
structure BsEIPMX (w W : World) (bn : Nat) (o : Nat → Tag) (cs : Array Value) (ovI wvI : Value) (rowsI : List (KRow Int)) (ovP wvP : Value) (rowsP : List (KRow Par)) (ovE wvE : Value) (rowsE : List (KRow Ent)) (ovM wvM : Value) (rowsM : List (KRow MM)) : Prop where
  at_ : BookAt W w.heap.size 39 o bn cs
  old : ∀ g, g < w.heap.size → o g = (1000, 0, 0)
  bel : Below w.heap.size w W
  c0 : cs[0]? = some (.slice none 0 0)
  c2 : cs[2]? = some ovI
  c3 : cs[3]? = some wvI
  kI : Kept W w.heap.size o 1 23 3 1 encI ovI wvI rowsI
  c4 : cs[4]? = some (.slice none 0 0)
  c6 : cs[6]? = some (.slice none 0 0)
  c8 : cs[8]? = some ovP
  c9 : cs[9]? = some wvP
  kP : Kept W w.heap.size o 4 116 202 2 parCells ovP wvP rowsP
  c10 : cs[10]? = some ovE
  c11 : cs[11]? = some wvE
  kE : Kept W w.heap.size o 5 22 51 4 entCells ovE wvE rowsE
  c12 : cs[12]? = some ovM
  c13 : cs[13]? = some wvM
  kM : KeptM W w.heap.size o 6 127 118 14 encM ovM wvM rowsM
  c14 : cs[14]? = some (.slice none 0 0)
  c16 : cs[16]? = some (.slice none 0 0)
  c18 : cs[18]? = some (.slice none 0 0)
  c20 : cs[20]? = some (.slice none 0 0)
def BsEIPM (w W : World) (bn : Nat) (o : Nat → Tag) : Prop := ∃ cs ovI wvI rowsI ovP wvP rowsP ovE wvE rowsE ovM wvM rowsM, BsEIPMX w W bn o cs ovI wvI rowsI ovP wvP rowsP ovE wvE rowsE ovM wvM rowsM
theorem BsEIPM.start {w W : World} (hb : Below w.heap.size w W) : BsEIPM w (W.alloc (.cells book0 39)) W.heap.size (fun g => if g < w.heap.size then (1000, 0, 0) else (99, 0, 0)) :=
  ⟨book0, .slice none 0 0, .slice none 0 0, [], .slice none 0 0, .slice none 0 0, [], .slice none 0 0, .slice none 0 0, [], .slice none 0 0, .slice none 0 0, [], ⟨⟨heap_alloc_new W _, rfl, hb.size, by show (if _ then _ else _) = _; rw [if_neg (by have := hb.size; omega)]⟩, fun g hg => by show (if _ then _ else _) = _; rw [if_pos hg], hb.alloc hb.size _, rfl, rfl, rfl, Kept.nil_, rfl, rfl, rfl, rfl, Kept.nil_, rfl, rfl, Kept.nil_, rfl, rfl, KeptM.nil_, rfl, rfl, rfl, rfl⟩⟩
theorem BsEIPM.agree {w W : World} {bn : Nat} {o o' : Nat → Tag} (h : BsEIPM w W bn o) (ha : Agree o o' W.heap.size) : BsEIPM w W bn o' := by
  obtain ⟨cs, ovI, wvI, rowsI, ovP, wvP, rowsP, ovE, wvE, rowsE, ovM, wvM, rowsM, h⟩ := h
  have hT : Turn o (fun _ => False) W W := Turn.refl _ _ _
  exact ⟨cs, ovI, wvI, rowsI, ovP, wvP, rowsP, ovE, wvE, rowsE, ovM, wvM, rowsM, h.at_.turn hT id ha, fun g hg => (ha g (Nat.lt_of_lt_of_le hg h.bel.size)).trans (h.old g hg), h.bel, h.c0, h.c2, h.c3, h.kI.turn hT (fun _ _ => id) ha, h.c4, h.c6, h.c8, h.c9, h.kP.turn hT (fun _ _ => id) ha, h.c10, h.c11, h.kE.turn hT (fun _ _ => id) ha, h.c12, h.c13, h.kM.turn hT (fun _ _ => id) (fun _ h => h.elim) ha, h.c14, h.c16, h.c18, h.c20⟩
theorem BsEIPM.below {w W W' : World} {bn : Nat} {o : Nat → Tag} (h : BsEIPM w W bn o) (hb : Below W.heap.size W W') : BsEIPM w W' bn o := by
  obtain ⟨cs, ovI, wvI, rowsI, ovP, wvP, rowsP, ovE, wvE, rowsE, ovM, wvM, rowsM, h⟩ := h
  exact ⟨cs, ovI, wvI, rowsI, ovP, wvP, rowsP, ovE, wvE, rowsE, ovM, wvM, rowsM, h.at_.below hb, h.old, h.bel.trans (hb.mono h.bel.size), h.c0, h.c2, h.c3, h.kI.below hb, h.c4, h.c6, h.c8, h.c9, h.kP.below hb, h.c10, h.c11, h.kE.below hb, h.c12, h.c13, h.kM.below hb, h.c14, h.c16, h.c18, h.c20⟩
theorem BsEIPM.bel {w W : World} {bn : Nat} {o : Nat → Tag} (h : BsEIPM w W bn o) : Below w.heap.size w W := by
  obtain ⟨cs, ovI, wvI, rowsI, ovP, wvP, rowsP, ovE, wvE, rowsE, ovM, wvM, rowsM, h⟩ := h
  exact h.bel
theorem BsEIPM.apart {w W : World} {bn : Nat} {o : Nat → Tag} (h : BsEIPM w W bn o) : Calls Tryz.prog 32 #[.pointer (some ⟨bn, 0, none⟩)] W fun e W' => e = .returned (.bool true) ∧ Below w.heap.size w W' := by
  obtain ⟨cs, ovI, wvI, rowsI, ovP, wvP, rowsP, ovE, wvE, rowsE, ovM, wvM, rowsM, h⟩ := h
  refine (apartEIPM_any h.at_ h.bel.size h.c0 h.c2 h.c3 h.kI h.c4 h.c6 h.c8 h.c9 h.kP h.c10 h.c11 h.kE h.c12 h.c13 h.kM h.c14 h.c16 h.c18 h.c20).mono ?_
  rintro e W' ⟨rfl, hT⟩
  exact ⟨rfl, h.bel.trans (hT.lower h.bel.size (fun g hg => by rw [h.old g hg]; decide))⟩
theorem BsEIPM.addI {w W : World} {bn n c i : Nat} {o : Nat → Tag} {ao : Option Addr} {l : List Int} (h : BsEIPM w W bn o) (hown : W.ownsRow w.heap.size 3 1 (.slice ao n c) n (encI l)) (hl : l.length = n) (hn : n ≤ 100000) (ht : Tagged o W.heap.size (77, i, 0) (.slice ao n c)) :
    Calls Tryz.prog 20 #[.pointer (some ⟨bn, 0, none⟩), .slice ao n c] W fun e W' => e = .returned (.tuple #[]) ∧ ∃ o', BsEIPM w W' bn o' ∧ Upd i o o' W.heap.size ∧ Turn o SS W W' := by
  obtain ⟨cs, ovI, wvI, rowsI, ovP, wvP, rowsP, ovE, wvE, rowsE, ovM, wvM, rowsM, h⟩ := h
  have hS : ∀ g, g < w.heap.size → settle o i 1 rowsI.length g = (1000, 0, 0) := fun g hg => settle_other (h.old g hg) (by decide)
  have hB : BookAt W w.heap.size 39 (settle o i 1 rowsI.length) bn cs := ⟨h.at_.1, h.at_.2.1, h.at_.2.2.1, settle_other h.at_.2.2.2 (by decide)⟩
  refine (addI_any hB h.bel.size h.c2 h.c3 (h.kI.settle (by decide)) hown hl hn (settle_own ht)).mono ?_
  rintro e W' ⟨rfl, o', ov', wv', rows', ha, hb, hk, hT⟩
  have hsz : cs.size = 22 := h.at_.2.1
  refine ⟨rfl, o', ⟨(cs.setIfInBounds 2 ov').setIfInBounds 3 wv', ov', wv', rows', ovP, wvP, rowsP, ovE, wvE, rowsE, ovM, wvM, rowsM, ?_⟩, settle_upd ha, settle_turn (by decide) hT⟩
  refine ⟨hb, fun g hg => (ha g (Nat.lt_of_lt_of_le hg h.bel.size)).trans (hS g hg), h.bel.trans (hT.lower h.bel.size (fun g hg => by rw [hS g hg]; simp)), by rw [Array.getElem?_setIfInBounds, if_neg (by decide), Array.getElem?_setIfInBounds, if_neg (by decide)]; exact h.c0, by rw [Array.getElem?_setIfInBounds, if_neg (by decide)]; simp [hsz], by simp [hsz], hk, by rw [Array.getElem?_setIfInBounds, if_neg (by decide), Array.getElem?_setIfInBounds, if_neg (by decide)]; exact h.c4, by rw [Array.getElem?_setIfInBounds, if_neg (by decide), Array.getElem?_setIfInBounds, if_neg (by decide)]; exact h.c6, by rw [Array.getElem?_setIfInBounds, if_neg (by decide), Array.getElem?_setIfInBounds, if_neg (by decide)]; exact h.c8, by rw [Array.getElem?_setIfInBounds, if_neg (by decide), Array.getElem?_setIfInBounds, if_neg (by decide)]; exact h.c9, (h.kP.settle (by decide)).turn hT (by intro r i; simp) ha, by rw [Array.getElem?_setIfInBounds, if_neg (by decide), Array.getElem?_setIfInBounds, if_neg (by decide)]; exact h.c10, by rw [Array.getElem?_setIfInBounds, if_neg (by decide), Array.getElem?_setIfInBounds, if_neg (by decide)]; exact h.c11, (h.kE.settle (by decide)).turn hT (by intro r i; simp) ha, by rw [Array.getElem?_setIfInBounds, if_neg (by decide), Array.getElem?_setIfInBounds, if_neg (by decide)]; exact h.c12, by rw [Array.getElem?_setIfInBounds, if_neg (by decide), Array.getElem?_setIfInBounds, if_neg (by decide)]; exact h.c13, (h.kM.settle (by decide)).turn hT (by intro r i; simp) (add_ss (by decide)) ha, by rw [Array.getElem?_setIfInBounds, if_neg (by decide), Array.getElem?_setIfInBounds, if_neg (by decide)]; exact h.c14, by rw [Array.getElem?_setIfInBounds, if_neg (by decide), Array.getElem?_setIfInBounds, if_neg (by decide)]; exact h.c16, by rw [Array.getElem?_setIfInBounds, if_neg (by decide), Array.getElem?_setIfInBounds, if_neg (by decide)]; exact h.c18, by rw [Array.getElem?_setIfInBounds, if_neg (by decide), Array.getElem?_setIfInBounds, if_neg (by decide)]; exact h.c20⟩
theorem BsEIPM.addP {w W : World} {bn n c i : Nat} {o : Nat → Tag} {ao : Option Addr} {l : List Par} (h : BsEIPM w W bn o) (hown : W.ownsRow w.heap.size 202 2 (.slice ao n c) n (parCells l)) (hl : l.length = n) (hn : n ≤ 100000) (ht : Tagged o W.heap.size (77, i, 0) (.slice ao n c)) :
    Calls Tryz.prog 196 #[.pointer (some ⟨bn, 0, none⟩), .slice ao n c] W fun e W' => e = .returned (.tuple #[]) ∧ ∃ o', BsEIPM w W' bn o' ∧ Upd i o o' W.heap.size ∧ Turn o SS W W' := by
  obtain ⟨cs, ovI, wvI, rowsI, ovP, wvP, rowsP, ovE, wvE, rowsE, ovM, wvM, rowsM, h⟩ := h
  have hS : ∀ g, g < w.heap.size → settle o i 4 rowsP.length g = (1000, 0, 0) := fun g hg => settle_other (h.old g hg) (by decide)
  have hB : BookAt W w.heap.size 39 (settle o i 4 rowsP.length) bn cs := ⟨h.at_.1, h.at_.2.1, h.at_.2.2.1, settle_other h.at_.2.2.2 (by decide)⟩
  refine (addP_any hB h.bel.size h.c8 h.c9 (h.kP.settle (by decide)) hown hl hn (settle_own ht)).mono ?_
  rintro e W' ⟨rfl, o', ov', wv', rows', ha, hb, hk, hT⟩
  have hsz : cs.size = 22 := h.at_.2.1
  refine ⟨rfl, o', ⟨(cs.setIfInBounds 8 ov').setIfInBounds 9 wv', ovI, wvI, rowsI, ov', wv', rows', ovE, wvE, rowsE, ovM, wvM, rowsM, ?_⟩, settle_upd ha, settle_turn (by decide) hT⟩
  refine ⟨hb, fun g hg => (ha g (Nat.lt_of_lt_of_le hg h.bel.size)).trans (hS g hg), h.bel.trans (hT.lower h.bel.size (fun g hg => by rw [hS g hg]; simp)), by rw [Array.getElem?_setIfInBounds, if_neg (by decide), Array.getElem?_setIfInBounds, if_neg (by decide)]; exact h.c0, by rw [Array.getElem?_setIfInBounds, if_neg (by decide), Array.getElem?_setIfInBounds, if_neg (by decide)]; exact h.c2, by rw [Array.getElem?_setIfInBounds, if_neg (by decide), Array.getElem?_setIfInBounds, if_neg (by decide)]; exact h.c3, (h.kI.settle (by decide)).turn hT (by intro r i; simp) ha, by rw [Array.getElem?_setIfInBounds, if_neg (by decide), Array.getElem?_setIfInBounds, if_neg (by decide)]; exact h.c4, by rw [Array.getElem?_setIfInBounds, if_neg (by decide), Array.getElem?_setIfInBounds, if_neg (by decide)]; exact h.c6, by rw [Array.getElem?_setIfInBounds, if_neg (by decide)]; simp [hsz], by simp [hsz], hk, by rw [Array.getElem?_setIfInBounds, if_neg (by decide), Array.getElem?_setIfInBounds, if_neg (by decide)]; exact h.c10, by rw [Array.getElem?_setIfInBounds, if_neg (by decide), Array.getElem?_setIfInBounds, if_neg (by decide)]; exact h.c11, (h.kE.settle (by decide)).turn hT (by intro r i; simp) ha, by rw [Array.getElem?_setIfInBounds, if_neg (by decide), Array.getElem?_setIfInBounds, if_neg (by decide)]; exact h.c12, by rw [Array.getElem?_setIfInBounds, if_neg (by decide), Array.getElem?_setIfInBounds, if_neg (by decide)]; exact h.c13, (h.kM.settle (by decide)).turn hT (by intro r i; simp) (add_ss (by decide)) ha, by rw [Array.getElem?_setIfInBounds, if_neg (by decide), Array.getElem?_setIfInBounds, if_neg (by decide)]; exact h.c14, by rw [Array.getElem?_setIfInBounds, if_neg (by decide), Array.getElem?_setIfInBounds, if_neg (by decide)]; exact h.c16, by rw [Array.getElem?_setIfInBounds, if_neg (by decide), Array.getElem?_setIfInBounds, if_neg (by decide)]; exact h.c18, by rw [Array.getElem?_setIfInBounds, if_neg (by decide), Array.getElem?_setIfInBounds, if_neg (by decide)]; exact h.c20⟩
theorem BsEIPM.addE {w W : World} {bn n c i : Nat} {o : Nat → Tag} {ao : Option Addr} {l : List Ent} (h : BsEIPM w W bn o) (hown : W.ownsRow w.heap.size 51 4 (.slice ao n c) n (entCells l)) (hl : l.length = n) (hn : n ≤ 100000) (ht : Tagged o W.heap.size (77, i, 0) (.slice ao n c)) :
    Calls Tryz.prog 19 #[.pointer (some ⟨bn, 0, none⟩), .slice ao n c] W fun e W' => e = .returned (.tuple #[]) ∧ ∃ o', BsEIPM w W' bn o' ∧ Upd i o o' W.heap.size ∧ Turn o SS W W' := by
  obtain ⟨cs, ovI, wvI, rowsI, ovP, wvP, rowsP, ovE, wvE, rowsE, ovM, wvM, rowsM, h⟩ := h
  have hS : ∀ g, g < w.heap.size → settle o i 5 rowsE.length g = (1000, 0, 0) := fun g hg => settle_other (h.old g hg) (by decide)
  have hB : BookAt W w.heap.size 39 (settle o i 5 rowsE.length) bn cs := ⟨h.at_.1, h.at_.2.1, h.at_.2.2.1, settle_other h.at_.2.2.2 (by decide)⟩
  refine (addE_any hB h.bel.size h.c10 h.c11 (h.kE.settle (by decide)) hown hl hn (settle_own ht)).mono ?_
  rintro e W' ⟨rfl, o', ov', wv', rows', ha, hb, hk, hT⟩
  have hsz : cs.size = 22 := h.at_.2.1
  refine ⟨rfl, o', ⟨(cs.setIfInBounds 10 ov').setIfInBounds 11 wv', ovI, wvI, rowsI, ovP, wvP, rowsP, ov', wv', rows', ovM, wvM, rowsM, ?_⟩, settle_upd ha, settle_turn (by decide) hT⟩
  refine ⟨hb, fun g hg => (ha g (Nat.lt_of_lt_of_le hg h.bel.size)).trans (hS g hg), h.bel.trans (hT.lower h.bel.size (fun g hg => by rw [hS g hg]; simp)), by rw [Array.getElem?_setIfInBounds, if_neg (by decide), Array.getElem?_setIfInBounds, if_neg (by decide)]; exact h.c0, by rw [Array.getElem?_setIfInBounds, if_neg (by decide), Array.getElem?_setIfInBounds, if_neg (by decide)]; exact h.c2, by rw [Array.getElem?_setIfInBounds, if_neg (by decide), Array.getElem?_setIfInBounds, if_neg (by decide)]; exact h.c3, (h.kI.settle (by decide)).turn hT (by intro r i; simp) ha, by rw [Array.getElem?_setIfInBounds, if_neg (by decide), Array.getElem?_setIfInBounds, if_neg (by decide)]; exact h.c4, by rw [Array.getElem?_setIfInBounds, if_neg (by decide), Array.getElem?_setIfInBounds, if_neg (by decide)]; exact h.c6, by rw [Array.getElem?_setIfInBounds, if_neg (by decide), Array.getElem?_setIfInBounds, if_neg (by decide)]; exact h.c8, by rw [Array.getElem?_setIfInBounds, if_neg (by decide), Array.getElem?_setIfInBounds, if_neg (by decide)]; exact h.c9, (h.kP.settle (by decide)).turn hT (by intro r i; simp) ha, by rw [Array.getElem?_setIfInBounds, if_neg (by decide)]; simp [hsz], by simp [hsz], hk, by rw [Array.getElem?_setIfInBounds, if_neg (by decide), Array.getElem?_setIfInBounds, if_neg (by decide)]; exact h.c12, by rw [Array.getElem?_setIfInBounds, if_neg (by decide), Array.getElem?_setIfInBounds, if_neg (by decide)]; exact h.c13, (h.kM.settle (by decide)).turn hT (by intro r i; simp) (add_ss (by decide)) ha, by rw [Array.getElem?_setIfInBounds, if_neg (by decide), Array.getElem?_setIfInBounds, if_neg (by decide)]; exact h.c14, by rw [Array.getElem?_setIfInBounds, if_neg (by decide), Array.getElem?_setIfInBounds, if_neg (by decide)]; exact h.c16, by rw [Array.getElem?_setIfInBounds, if_neg (by decide), Array.getElem?_setIfInBounds, if_neg (by decide)]; exact h.c18, by rw [Array.getElem?_setIfInBounds, if_neg (by decide), Array.getElem?_setIfInBounds, if_neg (by decide)]; exact h.c20⟩
theorem BsEIPM.addM {w W : World} {bn c i : Nat} {o : Nat → Tag} {ao : Option Addr} {m : MsgR} (h : BsEIPM w W bn o) (hown : W.ownsRow w.heap.size 118 14 (.slice ao 1 c) 1 m.cells) (hm : MsgOwn W w.heap.size m) (hns : NS o m) (hok : MsgOk m.v) (hsm : MsgSm m.v) (ht : Tagged o W.heap.size (77, i, 0) (.slice ao 1 c)) :
    Calls Tryz.prog 197 #[.pointer (some ⟨bn, 0, none⟩), .slice ao 1 c] W fun e W' => e = .returned (.tuple #[]) ∧ ∃ o', BsEIPM w W' bn o' ∧ Upd i o o' W.heap.size ∧ Turn o SS W W' := by
  obtain ⟨cs, ovI, wvI, rowsI, ovP, wvP, rowsP, ovE, wvE, rowsE, ovM, wvM, rowsM, h⟩ := h
  have hS : ∀ g, g < w.heap.size → settle o i 6 rowsM.length g = (1000, 0, 0) := fun g hg => settle_other (h.old g hg) (by decide)
  have hB : BookAt W w.heap.size 39 (settle o i 6 rowsM.length) bn cs := ⟨h.at_.1, h.at_.2.1, h.at_.2.2.1, settle_other h.at_.2.2.2 (by decide)⟩
  refine (addM_any hB h.bel.size h.c12 h.c13 (h.kM.settle (by decide)) hown hm (hns.map hm (fun g _ => settle_ns g)) hok hsm (settle_own ht)).mono ?_
  rintro e W' ⟨rfl, o', ov', wv', rows', ha, hb, hk, hT⟩
  have hsz : cs.size = 22 := h.at_.2.1
  refine ⟨rfl, o', ⟨(cs.setIfInBounds 12 ov').setIfInBounds 13 wv', ovI, wvI, rowsI, ovP, wvP, rowsP, ovE, wvE, rowsE, ov', wv', rows', ?_⟩, settle_upd ha, settle_turn (by decide) hT⟩
  refine ⟨hb, fun g hg => (ha g (Nat.lt_of_lt_of_le hg h.bel.size)).trans (hS g hg), h.bel.trans (hT.lower h.bel.size (fun g hg => by rw [hS g hg]; simp)), by rw [Array.getElem?_setIfInBounds, if_neg (by decide), Array.getElem?_setIfInBounds, if_neg (by decide)]; exact h.c0, by rw [Array.getElem?_setIfInBounds, if_neg (by decide), Array.getElem?_setIfInBounds, if_neg (by decide)]; exact h.c2, by rw [Array.getElem?_setIfInBounds, if_neg (by decide), Array.getElem?_setIfInBounds, if_neg (by decide)]; exact h.c3, (h.kI.settle (by decide)).turn hT (by intro r i; simp) ha, by rw [Array.getElem?_setIfInBounds, if_neg (by decide), Array.getElem?_setIfInBounds, if_neg (by decide)]; exact h.c4, by rw [Array.getElem?_setIfInBounds, if_neg (by decide), Array.getElem?_setIfInBounds, if_neg (by decide)]; exact h.c6, by rw [Array.getElem?_setIfInBounds, if_neg (by decide), Array.getElem?_setIfInBounds, if_neg (by decide)]; exact h.c8, by rw [Array.getElem?_setIfInBounds, if_neg (by decide), Array.getElem?_setIfInBounds, if_neg (by decide)]; exact h.c9, (h.kP.settle (by decide)).turn hT (by intro r i; simp) ha, by rw [Array.getElem?_setIfInBounds, if_neg (by decide), Array.getElem?_setIfInBounds, if_neg (by decide)]; exact h.c10, by rw [Array.getElem?_setIfInBounds, if_neg (by decide), Array.getElem?_setIfInBounds, if_neg (by decide)]; exact h.c11, (h.kE.settle (by decide)).turn hT (by intro r i; simp) ha, by rw [Array.getElem?_setIfInBounds, if_neg (by decide)]; simp [hsz], by simp [hsz], hk, by rw [Array.getElem?_setIfInBounds, if_neg (by decide), Array.getElem?_setIfInBounds, if_neg (by decide)]; exact h.c14, by rw [Array.getElem?_setIfInBounds, if_neg (by decide), Array.getElem?_setIfInBounds, if_neg (by decide)]; exact h.c16, by rw [Array.getElem?_setIfInBounds, if_neg (by decide), Array.getElem?_setIfInBounds, if_neg (by decide)]; exact h.c18, by rw [Array.getElem?_setIfInBounds, if_neg (by decide), Array.getElem?_setIfInBounds, if_neg (by decide)]; exact h.c20⟩
end Go.Proofs.YtmdidmllaldbaaaGreat
