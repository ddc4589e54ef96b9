/- The walks of leaf.Set and leaf.Del. -/
import Derived.Test.YtmdidmllaldbaaaGreatFindI
import Derived.Test.YtmdidmllaldbaaaGreatDelI
import Derived.Deep.OwnRows
import Derived.Laws.OwnMore
namespace Go.Proofs.YtmdidmllaldbaaaGreat
open Go.RowKit
set_option linter.unusedVariables false
def setI (l : List Itm) (k : Nat) (is : Bool) (x : Itm) : List Itm := if is = true then l.set k x else insI l k x
def takeI (l : List Itm) (k : Nat) (is : Bool) : List Itm := if is = true then delI l k else l
theorem itmCells_set (l : List Itm) (k : Nat) (x : Itm) :
    ((((itmCells l).set (k * 4) (.string x.key)).set (k * 4 + 1) (.string x.vl)).set (k * 4 + 2) (.int .i64 x.ov)).set (k * 4 + 3) (.int .i64 x.sz) = itmCells (l.set k x) := by
  induction l generalizing k with
  | nil => rfl
  | cons a r ih =>
    cases k with
    | zero => rfl
    | succ k =>
      have h := ih k
      show ((((a.cells ++ itmCells r).set ((k + 1) * 4) (.string x.key)).set ((k + 1) * 4 + 1) (.string x.vl)).set ((k + 1) * 4 + 2) (.int .i64 x.ov)).set ((k + 1) * 4 + 3) (.int .i64 x.sz) = a.cells ++ itmCells (r.set k x)
      rw [← h]
      have ha : a.cells.length = 4 := rfl
      have e : ∀ (L : List Value) (j : Nat) (u : Value), (a.cells ++ L).set (j + 4) u = a.cells ++ L.set j u := fun L j u => by
        rw [List.set_append_right _ _ (by omega), ha, Nat.add_sub_cancel]
      rw [show (k + 1) * 4 = k * 4 + 4 from by omega, show k * 4 + 4 + 1 = (k * 4 + 1) + 4 from by omega, show k * 4 + 4 + 2 = (k * 4 + 2) + 4 from by omega, show k * 4 + 4 + 3 = (k * 4 + 3) + 4 from by omega, e, e, e, e]
theorem setI_len {l : List Itm} {k : Nat} {is : Bool} {x : Itm} {key : ByteArray} (h : FindOkI l key k is) : (setI l k is x).length = if is = true then l.length else l.length + 1 := by
  unfold setI
  split
  · exact List.length_set
  · exact insI_len _ _ _ h.1
/-- What Set answers. -/
def SetRes (l : List Itm) (x : Itm) (w : World) (e : Ending) (w' : World) : Prop :=
  ∃ (k : Nat) (is : Bool) (N : Nat) (ao : Option Addr) (cap : Nat), FindOkI l x.key k is ∧ N = (setI l k is x).length ∧ e = .returned (.slice ao N cap) ∧ w'.ownsRow w.heap.size 133 4 (.slice ao N cap) N (itmCells (setI l k is x)) ∧ Below w.heap.size w w'
set_option maxRecDepth 100000 in
set_option maxHeartbeats 8000000 in
theorem setI_any {w : World} {ao : Option Addr} {n c : Nat} {l : List Itm} (hE : Itms w w.heap.size ao n l) (hnil : ao = none → n = 0) (hn : n ≤ 1000000) (x : Itm) :
    Calls Tryz.prog 107 #[.slice ao n c, x.agg] w (SetRes l x w) := by
  obtain ⟨bx, hbx⟩ : ∃ bx, bx = w.heap.size := ⟨_, rfl⟩
  have hb0 : Below w.heap.size w (w.alloc (.cells #[.string x.key, .string x.vl, .int .i64 x.ov, .int .i64 x.sz] 133)) := (Below.refl _ _).alloc (Nat.le_refl _) _
  have hx0 := heap_alloc_new w (.cells #[.string x.key, .string x.vl, .int .i64 x.ov, .int .i64 x.sz] 133)
  have HB0 := Lib.hid hb0
  have HX0 := Lib.hid hx0
  have HE := Lib.hid hE
  have HLl := Lib.hid hE.1
  have HF := Lib.hid (findI_any (c := c) ((hE.below hb0).mono hb0.size) (by omega) x.key)
  have HC : Hid (∀ W, Below w.heap.size w W → Calls Tryz.prog 208 #[.slice ao n c] W (OwnsItms W.heap.size n l W)) := Lib.hid (fun W hW => cloneI_any _ _ _ _ _ ((hE.below hW).mono hW.size) (by omega) hnil)
  clear hb0 hx0 hE hbx
  unfold Itm.agg
  go_enter Tryz.func107, Tryz.ntmps107
  go_wp2_with fail
  refine HF.out.mono ?_
  rintro e w1 ⟨k, is, rfl, hok, hb1⟩
  have HOk := Lib.hid hok
  have hbw1 : Below w.heap.size w w1 := HB0.out.trans (hb1.mono HB0.out.size)
  have HB1 := Lib.hid hbw1
  have HX1 : Hid (w1.heap[w.heap.size]? = some (.cells #[.string x.key, .string x.vl, .int .i64 x.ov, .int .i64 x.sz] 133 (0, 0))) := Lib.hid ((hb1.block w.heap.size (by simp)).trans HX0.out)
  have HCl := Lib.hid (HC.out w1 hbw1)
  clear hok hb1 hbw1 HF HX0 HB0
  go_wp2_with fail
  refine HCl.out.mono ?_
  rintro e w2 ⟨ao2, cap2, rfl, hown2, hb2⟩
  have hX2 : w2.heap[w.heap.size]? = some (.cells #[.string x.key, .string x.vl, .int .i64 x.ov, .int .i64 x.sz] 133 (0, 0)) := (hb2.block w.heap.size (blk_lt HX1.out)).trans HX1.out
  have hbw2 : Below w.heap.size w w2 := HB1.out.trans (hb2.mono HB1.out.size)
  have HO2 := Lib.hid hown2
  have HB2 := Lib.hid hbw2
  have HX2 := Lib.hid hX2
  have hltb := blk_lt HX1.out
  have c0 : w2.cell? ⟨w.heap.size, 0, none⟩ = some (.string x.key) := by rw [blk_cell hX2]; rfl
  have c1 : w2.cell? ⟨w.heap.size, 1, none⟩ = some (.string x.vl) := by rw [blk_cell hX2]; rfl
  have c2 : w2.cell? ⟨w.heap.size, 2, none⟩ = some (.int .i64 x.ov) := by rw [blk_cell hX2]; rfl
  have c3 : w2.cell? ⟨w.heap.size, 3, none⟩ = some (.int .i64 x.sz) := by rw [blk_cell hX2]; rfl
  have hsz12 := hb2.size
  clear hX2 hbw2 HCl HC hb2
  cases is with
  | true =>
    have hkn : k < n := by
      obtain ⟨e, he, _⟩ := HOk.out.2.2.2.1 rfl
      have h1 := (List.getElem?_eq_some_iff.1 he).1
      have h2 := HLl.out
      omega
    obtain ⟨g, cap, hs, hgb, hgl⟩ := HO2.out.form (by omega)
    injection hs with h1 _ h3
    subst h1 h3
    have hy1 : (k : Int) < n := by omega
    have hy2 : (0 : Int) ≤ k := by omega
    have hlc : (itmCells l).length = n * 4 := by rw [itmCells_len, HLl.out]
    have cc : ∀ r, r < 4 → ∃ u, w2.cell? ⟨g, k * 4 + r, none⟩ = some u := fun r hr => by
      rw [hown2.cellAt (k * 4 + r) (by omega)]
      exact ⟨_, List.getElem?_eq_getElem (by omega)⟩
    obtain ⟨u0, d0⟩ := cc 0 (by omega)
    obtain ⟨u1, d1⟩ := cc 1 (by omega)
    obtain ⟨u2, d2⟩ := cc 2 (by omega)
    obtain ⟨u3, d3⟩ := cc 3 (by omega)
    rw [Nat.add_zero] at d0
    have f0 := hown2.frozenAt (k * 4)
    have f1 := hown2.frozenAt (k * 4 + 1)
    have f2 := hown2.frozenAt (k * 4 + 2)
    have f3 := hown2.frozenAt (k * 4 + 3)
    have HGl : Hid (w.heap.size ≤ g) := Lib.hid (by omega)
    clear hown2 hlc cc
    go_wp2_with fail
    go_ret
    have q1 := HO2.out.stored (k * 4) (.string x.key)
    have q2 := q1.1.stored (k * 4 + 1) (.string x.vl)
    have q3 := q2.1.stored (k * 4 + 2) (.int .i64 x.ov)
    have q4 := q3.1.stored (k * 4 + 3) (.int .i64 x.sz)
    have hown := q4.1
    rw [itmCells_set] at hown
    refine ⟨k, true, n, some ⟨g, 0, none⟩, _, HOk.out, by unfold setI; rw [if_pos rfl, List.length_set, HLl.out], rfl, own_mono (by unfold setI; rw [if_pos rfl]; exact hown) HB1.out.size, ?_⟩
    exact (((HB2.out.setCell (p := ⟨g, k * 4, none⟩) HGl.out _).setCell (p := ⟨g, k * 4 + 1, none⟩) HGl.out _).setCell (p := ⟨g, k * 4 + 2, none⟩) HGl.out _).setCell (p := ⟨g, k * 4 + 3, none⟩) HGl.out _
  | false =>
    have hkn : k ≤ n := by have := HOk.out.1; rw [HLl.out] at this; exact this
    have hnx : ∀ a, ao2 = some a → w2.heap.size ≠ a.block := fun a ha => by
      have := (hown2.lt a.block (by rw [ha]; rfl)).2
      omega
    have hins := insI_any (w := w2.alloc (.cells #[.string x.key, .string x.vl, .int .i64 x.ov, .int .i64 x.sz] 133)) (x := x) (vb := w2.heap.size) (hown2.alloc _) (heap_alloc_new w2 _) hnx (Nat.le_trans hsz12 (by simp)) hn hkn
    have HIns := Lib.hid hins
    clear hins hown2 hnx
    go_wp2_with fail
    refine HIns.out.mono ?_
    rintro e w3 ⟨ao3, cap3, rfl, hown3, hb3⟩
    go_wp2_with fail
    go_ret
    refine ⟨k, false, n + 1, ao3, cap3, HOk.out, by unfold setI; rw [if_neg (by decide), insI_len _ _ _ HOk.out.1, HLl.out], rfl, own_mono (by unfold setI; rw [if_neg (by decide)]; exact hown3) HB1.out.size, ?_⟩
    exact (HB2.out.alloc HB2.out.size _).trans (hb3.mono HB1.out.size)
/-- What Del answers. -/
def DelRes (l : List Itm) (key : ByteArray) (w : World) (e : Ending) (w' : World) : Prop :=
  ∃ (k : Nat) (is : Bool) (N : Nat) (ao : Option Addr) (cap : Nat), FindOkI l key k is ∧ N = (takeI l k is).length ∧ e = .returned (.slice ao N cap) ∧ w'.ownsRow w.heap.size 133 4 (.slice ao N cap) N (itmCells (takeI l k is)) ∧ Below w.heap.size w w'
set_option maxRecDepth 100000 in
set_option maxHeartbeats 8000000 in
theorem delF_any {w : World} {ao : Option Addr} {n c : Nat} {l : List Itm} (hE : Itms w w.heap.size ao n l) (hnil : ao = none → n = 0) (hn : n ≤ 1000000) (key : ByteArray) :
    Calls Tryz.prog 108 #[.slice ao n c, .string key] w (DelRes l key w) := by
  have HLl := Lib.hid hE.1
  have HF := Lib.hid (findI_any (c := c) hE (by omega) key)
  have HC : Hid (∀ W, Below w.heap.size w W → Calls Tryz.prog 208 #[.slice ao n c] W (OwnsItms W.heap.size n l W)) := Lib.hid (fun W hW => cloneI_any _ _ _ _ _ ((hE.below hW).mono hW.size) (by omega) hnil)
  clear hE
  go_enter Tryz.func108, Tryz.ntmps108
  go_wp2_with fail
  refine HF.out.mono ?_
  rintro e w1 ⟨k, is, rfl, hok, hb1⟩
  have HOk := Lib.hid hok
  have HB1 := Lib.hid hb1
  have HCl := Lib.hid (HC.out w1 hb1)
  clear hok hb1 HF HC
  go_wp2_with fail
  refine HCl.out.mono ?_
  rintro e w2 ⟨ao2, cap2, rfl, hown2, hb2⟩
  have HB2 := Lib.hid (HB1.out.trans (hb2.mono HB1.out.size))
  have hsz12 := hb2.size
  clear HCl hb2
  cases is with
  | false =>
    have HO2 := Lib.hid hown2
    clear hown2
    go_wp2_with fail
    go_ret
    exact ⟨k, false, n, ao2, cap2, HOk.out, by unfold takeI; rw [if_neg (by decide), HLl.out], rfl, own_mono (by unfold takeI; rw [if_neg (by decide)]; exact HO2.out) HB1.out.size, HB2.out⟩
  | true =>
    have hkn : k < n := by
      obtain ⟨e, he, _⟩ := HOk.out.2.2.2.1 rfl
      have h1 := (List.getElem?_eq_some_iff.1 he).1
      have h2 := HLl.out
      omega
    have HD := Lib.hid (delI_any hown2 hsz12 hn hkn)
    clear hown2
    go_wp2_with fail
    refine HD.out.mono ?_
    rintro e w3 ⟨ao3, cap3, rfl, hown3, hb3⟩
    go_wp2_with fail
    go_ret
    exact ⟨k, true, n - 1, ao3, cap3, HOk.out, by unfold takeI; rw [if_pos rfl, delI_len _ _ (by rw [HLl.out]; exact hkn), HLl.out], rfl, own_mono (by unfold takeI; rw [if_pos rfl]; exact hown3) HB1.out.size, HB2.out.trans (hb3.mono HB1.out.size)⟩
end Go.Proofs.YtmdidmllaldbaaaGreat
