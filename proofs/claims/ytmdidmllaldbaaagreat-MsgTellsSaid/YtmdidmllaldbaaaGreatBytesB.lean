/- A row of bytes that '[]byte(s)' made (a place behind its last cell is frozen), and append of a string onto it. -/
import Derived.Test.YtmdidmllaldbaaaGreatBase
import Derived.Lib.FrozenHead
import Derived.Laws.IdiomStrings
namespace Go.Proofs.YtmdidmllaldbaaaGreat
open Go.RowKit
set_option linter.unusedVariables false
/-- The call's own row of bytes; no cell behind the elements is frozen. -/
def OwnB (w : World) (base : Nat) (e : TypeId) (v : Value) (l : List UInt8) : Prop :=
  ∃ g cap cur fz, v = .slice (some ⟨g, 0, none⟩) l.length cap ∧ base ≤ g ∧ w.heap[g]? = some (.cells cur e fz) ∧ (fz.2 ≤ l.length ∨ cur.size ≤ fz.1) ∧ l.length ≤ cap ∧ cap ≤ maxLen ∧ cur.size = cap ∧ cur.toList.take l.length = Lib.byteCells l
theorem OwnB.below {w w' : World} {base : Nat} {e : TypeId} {v : Value} {l : List UInt8} (h : OwnB w base e v l) (hb : Below w.heap.size w w') : OwnB w' base e v l := by
  obtain ⟨g, cap, cur, fz, hv, hg, hh, hr⟩ := h
  have hlt : g < w.heap.size := by
    rcases Nat.lt_or_ge g w.heap.size with hlt | hge
    · exact hlt
    · rw [Array.getElem?_eq_none hge] at hh; cases hh
  exact ⟨g, cap, cur, fz, hv, hg, (hb.block g hlt).trans hh, hr⟩
theorem OwnB.lt {w : World} {base : Nat} {e : TypeId} {v : Value} {l : List UInt8} (h : OwnB w base e v l) : ∀ k, v.ownBlock = some k → base ≤ k ∧ k < w.heap.size := by
  intro k hk
  obtain ⟨g, cap, cur, fz, rfl, hg, hh, _⟩ := h
  have : g = k := by simpa [Value.ownBlock] using hk
  subst this
  refine ⟨hg, ?_⟩
  rcases Nat.lt_or_ge g w.heap.size with hlt | hge
  · exact hlt
  · rw [Array.getElem?_eq_none hge] at hh; cases hh
theorem byteCells_eq (s : ByteArray) : (s.data.map fun b => Value.int .u8 b.toNat).toList = Lib.byteCells s.data.toList := by
  simp [Lib.byteCells]
theorem strCells_eq (s : ByteArray) : Lib.strCells s = Lib.byteCells s.data.toList := rfl
/-- '[]byte(s)'. -/
theorem run_bytes_own {P : Program} (w : World) (base : Nat) (hb : base ≤ w.heap.size) (src dst e : TypeId) (s : ByteArray) (hs : P.underlying src = some .string) (hd : P.underlying dst = some (.slice e)) (he : P.underlying e = some (.int .u8)) (hz : s.size ≤ 140737488355328) :
    ∃ c w', (convert src dst (.string s)).run P w = .ok (.slice (some ⟨w.heap.size, 0, none⟩) s.size c) w' ∧ OwnB w' base e (.slice (some ⟨w.heap.size, 0, none⟩) s.size c) s.data.toList ∧ Below w.heap.size w w' := by
  refine ⟨_, _, run_bytes_of_string w src dst e s hs hd he, ?_, ?_⟩
  · have hge := grownCap_ge w s.size 0 e
    have hsz : (bytesRow s (grownCap w s.size 0 e)).size = grownCap w s.size 0 e := by
      unfold bytesRow
      simp only [Array.size_append, Array.size_map, Array.size_replicate]
      have : s.data.size = s.size := rfl
      omega
    refine ⟨w.heap.size, _, _, _, rfl, hb, heap_alloc_new w.drew _, .inr (Nat.le_refl _), hge, grownCap_le_maxLen w _ _ _ (by unfold maxLen; omega), hsz, ?_⟩
    unfold bytesRow
    rw [Array.toList_append, List.take_append_of_le_length (by simp), List.take_of_length_le (by simp), byteCells_eq]
  · exact ((Below.refl _ _).drew).alloc (Nat.le_refl _) _
theorem run_storeCells_atG (P : Program) (g o : Nat) (t : TypeId) (fz : Nat × Nat) : ∀ (vs : List Value) (i : Nat) (cur : Array Value) (w : World), w.heap[g]? = some (.cells cur t fz) → (fz.2 ≤ o + i ∨ cur.size ≤ fz.1) → o + i + vs.length ≤ cur.size → (∀ v ∈ vs, v.oneCell' = true) →
    (storeCells ⟨g, o, none⟩ vs i).run P w = .ok () (w.setRow g (cur.toList.take (o + i) ++ vs ++ cur.toList.drop (o + i + vs.length)).toArray)
  | [], i, cur, w, hg, _, _, _ => by
    simp only [storeCells, List.append_nil, List.length_nil, Nat.add_zero, List.take_append_drop, Array.toArray_toList]
    rw [setRow_self w g cur t fz hg]
    rfl
  | v :: rest, i, cur, w, hg, hfz, hl, h1 => by
    have hi : o + i < cur.size := by simp at hl; omega
    have hcell : w.cell? ⟨g, o + i, none⟩ = some cur[o + i] := by simp [World.cell?, hg, hi]
    have hfro : w.frozen? ⟨g, o + i, none⟩ = false := by
      obtain ⟨lo, hi'⟩ := fz
      simp only [World.frozen?, hg, Bool.and_eq_false_iff, decide_eq_false_iff_not]
      simp only at hfz
      omega
    have hst : (store ((⟨g, o, none⟩ : Addr).add i) v).run P w = .ok () (w.setRow g (cur.setIfInBounds (o + i) v)) := by
      rw [Addr.add_lit, run_store P w _ v _ (h1 v (by simp)), hcell]
      simp [hfro, setCell_eq_setRow w g (o + i) cur t fz v hg]
    have ih := run_storeCells_atG P g o t fz rest (i + 1) (cur.setIfInBounds (o + i) v) (w.setRow g (cur.setIfInBounds (o + i) v)) (setRow_heap w g cur _ t _ hg) (by rcases hfz with h | h; exact .inl (by omega); exact .inr (by simpa using h)) (by simp at hl ⊢; omega) (fun x hx => h1 x (by simp [hx]))
    simp only [storeCells, Sem.run_bind, hst, Result.andThen_ok, ih, setRow_setRow]
    congr 3
    have e := list_seg_step cur.toList (o + i) v rest (by simp at hl ⊢; omega)
    simpa [Array.toList_setIfInBounds, Nat.add_assoc] using e
theorem run_append_stringB {P : Program} (w : World) (base : Nat) (t u ty e : TypeId) (i : TypeInfo) (ht : P.underlying t = some (.slice e)) (hu : P.underlying u = some .string) (hi : P.info? e = some i) (hz : i.zero = some (.int .u8 0))
    (hsize : i.size = 1) (hby : i.bytes = 1) (v : Value) (l : List UInt8) (hown : OwnB w base e v l) (s : ByteArray) (hbytes : l.length + s.size ≤ 140737488355328) (hbase : base ≤ w.heap.size) :
    ∃ v' w', (Builtin.append_ #[t, u] ty #[v, .string s]).run P w = .ok v' w' ∧ OwnB w' base e v' (l ++ s.data.toList) ∧ w.grownBy w' v.ownBlock := by
  obtain ⟨g, cap, cur, fz, rfl, hbg, hg, hfz, hnc, hcm, hcs, htake⟩ := hown
  have hsd : s.data.toList.length = s.size := rfl
  have hbl : (Lib.byteCells l).length = l.length := Lib.byteCells_length l
  have hsl := Lib.strCells_length s
  have e2 : Lib.byteCells (l ++ s.data.toList) = Lib.byteCells l ++ Lib.strCells s := by rw [Lib.byteCells_append]; rfl
  by_cases hroom : l.length + s.size ≤ cap
  · have hf := Lib.run_firstCells_string (P := P) w 1 s
    have hst := run_storeCells_atG P g l.length e fz (Lib.strCells s) 0 cur w hg (by simpa using hfz) (by rw [hsl]; omega) (Lib.strCells_oneCell s)
    simp only [Nat.add_zero, hsl] at hst
    have hr : (Builtin.append_ #[t, u] ty #[.slice (some ⟨g, 0, none⟩) l.length cap, .string s]).run P w = .ok (.slice (some ⟨g, 0, none⟩) (l.length + s.size) cap) (w.setRow g (cur.toList.take l.length ++ Lib.strCells s ++ cur.toList.drop (l.length + s.size)).toArray) := by
      simp [Builtin.append_, run_underlying ht, run_underlying hu, sizeOf, typeInfo, hi, hsize, Builtin.lenOf, hroom, hf, Addr.add_lit, hst]
    refine ⟨_, _, hr, ⟨g, cap, _, fz, by rw [List.length_append, hsd], hbg, setRow_heap w g cur _ e _ hg, ?_, by rw [List.length_append, hsd]; exact hroom, hcm, ?_, ?_⟩, ⟨rfl, rfl, rfl, by simp, fun k _ hk => setRow_other w g k _ (fun e => hk (by simp [Value.ownBlock, e]))⟩⟩
    · rcases hfz with h | h
      · exact .inl (by rw [List.length_append]; omega)
      · refine .inr ?_
        simp only [List.size_toArray, List.length_append, List.length_take, List.length_drop, Array.length_toList, hsl]
        omega
    · simp only [List.size_toArray, List.length_append, List.length_take, List.length_drop, Array.length_toList, hsl]
      omega
    · rw [htake, e2]
      show List.take _ (Lib.byteCells l ++ Lib.strCells s ++ _) = _
      rw [show (l ++ s.data.toList).length = (Lib.byteCells l ++ Lib.strCells s).length from by rw [List.length_append, List.length_append, hbl, hsl, hsd]]
      exact List.take_left
  · have holds : ∀ j x, (Lib.byteCells l)[j]? = some x → w.cell? ((⟨g, 0, none⟩ : Addr).add j) = some x := fun j x hj => by
      have hjl : j < l.length := by rw [← hbl]; exact (List.getElem?_eq_some_iff.1 hj).1
      rw [add_lit, cell_of_row w g j cur e fz hg]
      rw [← htake, List.getElem?_take, if_pos hjl] at hj
      simpa using hj
    have hr := Lib.run_append_grow_string (P := P) w t u ty e i (.int .u8 0) ht hu hi hz ⟨g, 0, none⟩ l.length cap (Lib.byteCells l) (by rw [hsize, hbl]; omega) holds s (by omega) (by omega) (by rw [hby]; exact growslice_fits (by omega) (by omega))
    have hge := grownCap_ge w (l.length + s.size) cap e
    have hcm2 : grownCap w (l.length + s.size) cap e ≤ maxLen := grownCap_le_maxLen w (l.length + s.size) cap e (by unfold maxLen; omega)
    refine ⟨_, _, hr, ⟨w.heap.size, _, _, (0, 0), by rw [List.length_append, hsd], hbase, heap_alloc_new w.drew _, .inl (Nat.zero_le _), by rw [List.length_append, hsd]; exact hge, hcm2, ?_, ?_⟩, ⟨rfl, rfl, rfl, by simp, fun k hk _ => Go.heap_alloc_old w.drew _ hk⟩⟩
    · have hz1 : (Value.int IntKind.u8 0).cells.size = 1 := rfl
      simp only [Array.size_append, List.size_toArray, size_zeroCells, hz1, hbl, hsl]
      omega
    · simp only [Array.toList_append, List.append_assoc]
      rw [← List.append_assoc, e2, show (l ++ s.data.toList).length = (Lib.byteCells l ++ Lib.strCells s).length from by rw [List.length_append, List.length_append, hbl, hsl, hsd]]
      exact List.take_left
theorem wpList_append_stringB {P : Program} (w : World) {ops : Array Oper} {rest : List Oper} {o : Oper} {a : Act} {Q : Exit → Act → World → Prop} (hgd : o.guard = none) (sl x : Operand) (t u : TypeId)
    (ho : o.op = .call { callee := .builtin .append, args := #[sl, x], argTypes := #[t, u] })
    (base : Nat) (e : TypeId) (i : TypeInfo) (ht : P.underlying t = some (.slice e)) (hu : P.underlying u = some .string) (hi : P.info? e = some i) (hz : i.zero = some (.int .u8 0))
    (hsize : i.size = 1) (hby : i.bytes = 1) (v : Value) (l : List UInt8) (hs : a.eval sl = v) (hown : OwnB w base e v l) (s : ByteArray) (hx : a.eval x = .string s) (hbytes : l.length + s.size ≤ 140737488355328) (hbase : base ≤ w.heap.size)
    (h : ∀ v' w', OwnB w' base e v' (l ++ s.data.toList) → w.grownBy w' v.ownBlock → wpList P ops Q rest (a.put o.dst v') w') : wpList P ops Q (o :: rest) a w := by
  refine wpList_plain hgd fun K hK => ?_
  obtain ⟨v', w', hr, h2, h3⟩ := run_append_stringB (P := P) w base t u o.type e i ht hu hi hz hsize hby v l hown s hbytes hbase
  unfold Oper.wp execOp
  simp only [ho, resolve, invoke, builtin, Sem.run_bind, Sem.run_pure, Result.andThen_ok, List.map_toArray, List.map_cons, List.map_nil, hs, hx, hr]
  exact hK _ _ (h v' w' h2 h3)
theorem run_string_ownB {P : Program} {w : World} {base : Nat} {e : TypeId} {v : Value} {l : List UInt8} (h : OwnB w base e v l) (src dst : TypeId)
    (hs : P.underlying src = some (.slice e)) (he : P.underlying e = some (.int .u8)) (hd : P.underlying dst = some .string) :
    (convert src dst v).run P w = .ok (.string ⟨l.toArray⟩) w := by
  obtain ⟨g, cap, cur, fz, rfl, hbg, hg, hfz, hnc, hcm, hcs, htake⟩ := h
  refine run_string_at src dst e hs he hd rfl (fun i hi => ?_)
  rw [Nat.zero_add, cell_of_row w g i cur e fz hg, ← htake, List.getElem?_take, if_pos hi]
  simp
end Go.Proofs.YtmdidmllaldbaaaGreat
