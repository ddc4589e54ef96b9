/- The walk of slices.Insert, of one item into a row of the call's own. -/
import Derived.Test.YtmdidmllaldbaaaGreatCopyK
import Derived.Test.YtmdidmllaldbaaaGreatOwnI
import Derived.Lib.AppendZerosOnto
import Derived.Lib.Overlaps
import Derived.IntWalk
import Derived.Deep.DeepCutAuto
namespace Go.Proofs.YtmdidmllaldbaaaGreat
open Go.RowKit
set_option linter.unusedVariables false
theorem splice_grow {α : Type} (L Y C : List α) (a : Nat) (h : a + Y.length + C.length ≤ L.length) :
    (splice (splice L a Y) (a + Y.length) C).take (a + Y.length + C.length) = L.take a ++ (Y ++ C) := by
  have e1 : (splice L a Y).take (a + Y.length) = L.take a ++ Y := by
    unfold splice
    rw [← List.append_assoc, List.take_append_of_le_length (by simp; omega)]
    exact List.take_of_length_le (by simp; omega)
  have e2 : splice (splice L a Y) (a + Y.length) C = (splice L a Y).take (a + Y.length) ++ (C ++ (splice L a Y).drop (a + Y.length + C.length)) := rfl
  rw [e2, e1, ← List.append_assoc, List.take_append_of_le_length (by simp; omega), List.take_of_length_le (by simp; omega), List.append_assoc]
theorem splice_room {α : Type} (L Y C : List α) (a : Nat) (h : a + Y.length + C.length ≤ L.length) :
    (splice (splice L (a + Y.length) C) a Y).take (a + Y.length + C.length) = L.take a ++ (Y ++ C) := by
  have e1 : (splice L (a + Y.length) C).take a = L.take a := by
    unfold splice
    rw [List.take_append_of_le_length (by simp; omega), List.take_take]
    congr 1
    omega
  have e2 : (splice L (a + Y.length) C).drop (a + Y.length) = C ++ L.drop (a + Y.length + C.length) := by
    unfold splice
    rw [List.drop_append_of_le_length (by simp; omega), List.drop_of_length_le (by simp; omega)]
    rfl
  have e3 : splice (splice L (a + Y.length) C) a Y = (splice L (a + Y.length) C).take a ++ (Y ++ (splice L (a + Y.length) C).drop (a + Y.length)) := rfl
  rw [e3, e1, e2, ← List.append_assoc, ← List.append_assoc, List.take_append_of_le_length (by simp; omega), List.take_of_length_le (by simp; omega), List.append_assoc]
def insI (l : List Itm) (k : Nat) (x : Itm) : List Itm := l.take k ++ x :: l.drop k
theorem insI_cells (l : List Itm) (k : Nat) (x : Itm) : itmCells (insI l k x) = itmCells (l.take k) ++ (x.cells ++ itmCells (l.drop k)) := by
  unfold insI
  rw [itmCells_append]
  rfl
theorem insI_len (l : List Itm) (k : Nat) (x : Itm) (h : k ≤ l.length) : (insI l k x).length = l.length + 1 := by
  unfold insI
  rw [List.length_append, List.length_cons, List.length_take, List.length_drop]
  omega
theorem itmCells_take (l : List Itm) (k : Nat) : (itmCells l).take (k * 4) = itmCells (l.take k) := by
  have h : itmCells l = itmCells (l.take k) ++ itmCells (l.drop k) := by rw [← itmCells_append, List.take_append_drop]
  rcases Nat.lt_or_ge k l.length with h1 | h1
  · rw [h, List.take_append_of_le_length (by rw [itmCells_len, List.length_take]; omega), List.take_of_length_le (by rw [itmCells_len, List.length_take]; omega)]
  · rw [List.take_of_length_le (by rw [itmCells_len]; omega), List.take_of_length_le h1]
theorem itmCells_drop (l : List Itm) (k : Nat) : (itmCells l).drop (k * 4) = itmCells (l.drop k) := by
  have h : itmCells l = itmCells (l.take k) ++ itmCells (l.drop k) := by rw [← itmCells_append, List.take_append_drop]
  rcases Nat.lt_or_ge k l.length with h1 | h1
  · have hl : (itmCells (l.take k)).length = k * 4 := by rw [itmCells_len, List.length_take]; omega
    conv => lhs; rw [h, ← hl]
    exact List.drop_left
  · rw [List.drop_of_length_le (by rw [itmCells_len]; omega), List.drop_of_length_le h1]
    rfl
theorem cells_oneI (x : Itm) : ∀ u ∈ x.cells, u.oneCell' = true := fun u hu => itmCells_one [x] u (by simpa [itmCells] using hu)
theorem itmSize4 : (Tryz.prog.info? 133).map (·.size) = some 4 := by kernel_rfl
theorem cells_atI {w : World} {g o : Nat} {xs : List Value} {cs : Array Value} {t : TypeId} (h : w.heap[g]? = some (.cells cs t (0, 0))) (hx : ∀ j u, xs[j]? = some u → cs[o + j]? = some u) : ∀ j u, xs[j]? = some u → w.cell? ((⟨g, o, none⟩ : Addr).add j) = some u := by
  intro j u hu
  have : (⟨g, o, none⟩ : Addr).add j = ⟨g, o + j, none⟩ := by unfold Addr.add; split <;> simp_all
  rw [this, blk_cell h]
  exact hx j u hu
/-- A row that the call owns and its new one. -/
def InsRes (B n : Nat) (l : List Itm) (w : World) (e : Ending) (w' : World) : Prop :=
  ∃ ao cap, e = .returned (.slice ao n cap) ∧ w'.ownsRow B 133 4 (.slice ao n cap) n (itmCells l) ∧ Below B w w'
set_option maxRecDepth 100000 in
set_option maxHeartbeats 8000000 in
theorem ins_end {w : World} {B : Nat} {ao : Option Addr} {n c vb : Nat} {l : List Itm} {x : Itm} (h : w.ownsRow B 133 4 (.slice ao n c) n (itmCells l)) (hv : w.heap[vb]? = some (.cells x.cells.toArray 133 (0, 0))) (hB : B ≤ w.heap.size) (hn : n ≤ 1000000) :
    Calls Tryz.prog 209 #[.slice ao n c, .int .i64 n, .slice (some ⟨vb, 0, none⟩) 1 1] w (InsRes B (n + 1) (insI l n x) w) := by
  obtain ⟨i0, hi, hz0, hz1, hz2⟩ := info_parts itmInfo
  have hll : l.length = n := by have := h.1; rw [itmCells_len] at this; omega
  have hins : insI l n x = l ++ [x] := by
    unfold insI
    rw [List.take_of_length_le (by omega), List.drop_of_length_le (by omega)]
  rw [hins]
  have HO := Lib.hid h
  have hsh := own_shape h
  obtain ⟨ao', cap', hv', hnc, hnil, hlt⟩ := hsh
  injection hv' with e1 e2 e3
  subst e1 e3
  have HX : Hid (∀ j u, x.cells[j]? = some u → w.cell? ((⟨vb, 0, none⟩ : Addr).add j) = some u) := Lib.hid (cells_atI hv (fun j u hu => by rw [Nat.zero_add]; simpa using hu))
  have HLt := Lib.hid h.lt
  have hcm : c ≤ 9223372036854775807 := by
    rcases h.2 with ⟨hs, _⟩ | ⟨g, cap, cur, hs, _, _, _, hm, _⟩
    · injection hs with _ _ hc; omega
    · injection hs with _ _ hc; unfold maxLen at hm; omega
  have hx1 : (n : Int) ≤ c := by omega
  have hx2 : (0 : Int) ≤ n := by omega
  clear h hv hll hins hnil hlt
  cases ao with
  | none =>
    by_cases hc : n = c
    · subst hc
      go_enter Tryz.func209, Tryz.ntmps209
      go_wp2_with (at_builtin; refine wpList_append_own_at _ rfl (.tmp 23) (.tmp 24) 131 rfl B 133 i0 _ 4 48 Tryz.underlying131 hi hz0 hz1 hz2 rfl (by omega) _ n _ rfl HO.out ⟨vb, 0, none⟩ 1 1 x.cells rfl rfl HX.out (cells_oneI x) (by unfold maxLen; omega) (by omega) hB ?_; intro v1 w1 hown1 hg1 _ _; obtain ⟨ao1, cap1, hv1, _⟩ := own_shape hown1; subst hv1)
      go_ret
      exact ⟨ao1, cap1, rfl, by rw [itmCells_append]; exact hown1, (Below.refl _ _).grown hg1 hB (fun k hk => (HLt.out k hk).1)⟩
    · go_enter Tryz.func209, Tryz.ntmps209
      go_wp2_with (at_builtin; refine wpList_append_own_at _ rfl (.tmp 23) (.tmp 24) 131 rfl B 133 i0 _ 4 48 Tryz.underlying131 hi hz0 hz1 hz2 rfl (by omega) _ n _ rfl HO.out ⟨vb, 0, none⟩ 1 1 x.cells rfl rfl HX.out (cells_oneI x) (by unfold maxLen; omega) (by omega) hB ?_; intro v1 w1 hown1 hg1 _ _; obtain ⟨ao1, cap1, hv1, _⟩ := own_shape hown1; subst hv1)
      go_ret
      exact ⟨ao1, cap1, rfl, by rw [itmCells_append]; exact hown1, (Below.refl _ _).grown hg1 hB (fun k hk => (HLt.out k hk).1)⟩
  | some ad =>
    by_cases hc : n = c
    · subst hc
      go_enter Tryz.func209, Tryz.ntmps209
      go_wp2_with (at_builtin; refine wpList_append_own_at _ rfl (.tmp 23) (.tmp 24) 131 rfl B 133 i0 _ 4 48 Tryz.underlying131 hi hz0 hz1 hz2 rfl (by omega) _ n _ rfl HO.out ⟨vb, 0, none⟩ 1 1 x.cells rfl rfl HX.out (cells_oneI x) (by unfold maxLen; omega) (by omega) hB ?_; intro v1 w1 hown1 hg1 _ _; obtain ⟨ao1, cap1, hv1, _⟩ := own_shape hown1; subst hv1)
      go_ret
      exact ⟨ao1, cap1, rfl, by rw [itmCells_append]; exact hown1, (Below.refl _ _).grown hg1 hB (fun k hk => (HLt.out k hk).1)⟩
    · go_enter Tryz.func209, Tryz.ntmps209
      go_wp2_with (at_builtin; refine wpList_append_own_at _ rfl (.tmp 23) (.tmp 24) 131 rfl B 133 i0 _ 4 48 Tryz.underlying131 hi hz0 hz1 hz2 rfl (by omega) _ n _ rfl HO.out ⟨vb, 0, none⟩ 1 1 x.cells rfl rfl HX.out (cells_oneI x) (by unfold maxLen; omega) (by omega) hB ?_; intro v1 w1 hown1 hg1 _ _; obtain ⟨ao1, cap1, hv1, _⟩ := own_shape hown1; subst hv1)
      go_ret
      exact ⟨ao1, cap1, rfl, by rw [itmCells_append]; exact hown1, (Below.refl _ _).grown hg1 hB (fun k hk => (HLt.out k hk).1)⟩
set_option maxRecDepth 100000 in
set_option maxHeartbeats 8000000 in
/-- In the middle, with room behind. -/
theorem ins_room {w : World} {B : Nat} {g n c vb k : Nat} {l : List Itm} {x : Itm} (h : w.ownsRow B 133 4 (.slice (some ⟨g, 0, none⟩) n c) n (itmCells l)) (hv : w.heap[vb]? = some (.cells x.cells.toArray 133 (0, 0))) (hne : vb ≠ g) (hB : B ≤ w.heap.size) (hn : n ≤ 1000000) (hk : k < n) (hc : n + 1 ≤ c) :
    Calls Tryz.prog 209 #[.slice (some ⟨g, 0, none⟩) n c, .int .i64 k, .slice (some ⟨vb, 0, none⟩) 1 1] w (InsRes B (n + 1) (insI l k x) w) := by
  have hll : l.length = n := by have := h.1; rw [itmCells_len] at this; omega
  obtain ⟨cur, hBg, hg, hcm, hcs, htk⟩ : ∃ cur : List Value, B ≤ g ∧ w.heap[g]? = some (.cells cur.toArray 133 (0, 0)) ∧ c ≤ maxLen ∧ cur.length = c * 4 ∧ cur.take (n * 4) = itmCells l := by
    rcases h.2 with ⟨hs, _⟩ | ⟨g', cap, cur, hs, hb, hg, _, hm, hz, ht⟩
    · cases hs
    · injection hs with h1 _ h2
      injection h1 with h1
      injection h1 with h1
      subst h1 h2
      exact ⟨cur.toList, hb, by simpa using hg, hm, by simpa using hz, ht⟩
  clear h
  unfold maxLen at hcm
  have hsA : w.shape? vb = some (133, 4) := by unfold World.shape?; rw [hv]; rfl
  have hsB : w.shape? g = some (133, c * 4) := by unfold World.shape?; rw [hg]; simp [hcs]
  have hfa : w.frozen? ⟨vb, 0, none⟩ = false := blk_frozen hv 0
  have hfe : w.frozen? ⟨vb, 4, none⟩ = false := blk_frozen hv 4
  have hov : ∀ o lb cb, (callFunc 240 #[.slice (some ⟨vb, 0, none⟩) 1 1, .slice (some ⟨g, o, none⟩) lb cb]).run Tryz.prog w = .ok (.value (.bool false)) w := fun o lb cb => by
    rw [run_callFunc_extern Tryz.func240 (by kernel_rfl) (by kernel_rfl) (by kernel_rfl) (e := Extern.SlicesOverlaps.overlaps #[131, 131] #[4]) (by kernel_rfl),
      Lib.run_overlaps_apart w 131 4 133 Tryz.underlying131 4 Tryz.sizeOf133 ⟨vb, 0, none⟩ ⟨g, o, none⟩ 1 1 lb cb hne 133 133 4 (c * 4) hsA hsB (by omega) hfa hfe]
    rfl
  have HX : Hid (∀ W : World, W.heap[vb]? = w.heap[vb]? → ∀ j u, x.cells[j]? = some u → W.cell? ((⟨vb, 0, none⟩ : Addr).add j) = some u) := Lib.hid (fun W hW => cells_atI (hW.trans hv) (fun j u hu => by rw [Nat.zero_add]; simpa using hu))
  have hdl : (itmCells (l.drop k)).length = (n - k) * 4 := by rw [itmCells_len, List.length_drop, hll]
  have hsrc : ∀ W : World, W.heap[g]? = w.heap[g]? → ∀ j u, (itmCells (l.drop k))[j]? = some u → W.cell? ((⟨g, k * 4, none⟩ : Addr).add j) = some u := fun W hW => cells_atI (hW.trans hg) (fun j u hu => by
    rw [← itmCells_drop, ← htk, List.getElem?_drop, List.getElem?_take] at hu
    split at hu
    · simpa using hu
    · cases hu)
  have HSrc := Lib.hid hsrc
  have HG := Lib.hid hg
  have HDl := Lib.hid hdl
  have HVl := blk_lt hv
  have HCs := Lib.hid hcs
  have hfin : (splice (splice cur ((k + 1) * 4) (itmCells (l.drop k))) (k * 4) x.cells).take ((n + 1) * 4) = itmCells (insI l k x) := by
    have e := splice_room cur x.cells (itmCells (l.drop k)) (k * 4) (by rw [hdl, hcs]; show k * 4 + 4 + _ ≤ _; omega)
    have e1 : k * 4 + x.cells.length = (k + 1) * 4 := by show k * 4 + 4 = _; omega
    rw [e1, hdl, show (k + 1) * 4 + (n - k) * 4 = (n + 1) * 4 from by omega] at e
    rw [e, insI_cells, ← itmCells_take, ← htk, List.take_take, Nat.min_eq_left (by omega)]
  have HF := Lib.hid hfin
  have hx1 : (k : Int) < n := by omega
  have hx2 : (0 : Int) ≤ k := by omega
  have hx3 : (k : Int) ≤ c := by omega
  have hx4 : (n : Int) + 1 ≤ c := by omega
  have hx5 : ¬ (k = c) := by omega
  have hx6 : ¬ (k + 1 = c) := by omega
  have hx7 : (k : Int) + 1 ≤ (n : Int) + 1 := by omega
  have hx8 : ((k : Int) + 1).toNat = k + 1 := by omega
  have hx9 : ((n : Int) + 1).toNat = n + 1 := by omega
  have hy1 : ((k : Int) == n) = false := by simp; omega
  have hy2 : decide ((c : Int) < (n : Int) + 1) = false := by simp; omega
  have hy3 : (n : Int) ≤ c := by omega
  have hy4 : (0 : Int) ≤ (n : Int) + 1 := by omega
  have hy5 : (0 : Int) ≤ (k : Int) + 1 := by omega
  have hy6 : (k : Int) + 1 ≤ c := by omega
  have hy7 : IntKind.i64.wrap ((k : Int) + 1) = (k : Int) + 1 := IntWalk.i64_in _ (by omega)
  have hy8 : ¬ (c = k + 1) := by omega
  have hy9 : ¬ (c = k) := by omega
  have hz0 : (k : Int) ≤ (n : Int) + 1 := by omega
  have HLl := Lib.hid hll
  clear hv hg hsA hsB hfa hfe hsrc hdl hfin htk hll hcs
  go_enter Tryz.func209, Tryz.ntmps209
  go_wp2_with (simp only [hov])
  go_region_law (refine step_copy_k rfl (.tmp 73) (.tmp 76) 131 131 rfl 133 4 Tryz.underlying131 itmSize4 g ((k + 1) * 4) (n + 1 - (k + 1)) (c - (k + 1)) ⟨g, k * 4, none⟩ (n + 1 - k) (c - k) (by simp [Act.eval, Act.put]) (by simp [Act.eval, Act.put]) cur 133 HG.out (n - k) (itmCells (l.drop k)) (by simp only [Nat.min_def]; split <;> omega) HDl.out (HSrc.out _ rfl) (by rw [HDl.out, HCs.out]; omega) (itmCells_one _) ?_; intro w4 hg4 hb4)
  have hxw : w4.heap[vb]? = w.heap[vb]? := hb4.out.block vb HVl (fun e => hne (by injection e))
  have HSp1 : Hid ((splice cur ((k + 1) * 4) (itmCells (l.drop k))).length = c * 4) := Lib.hid (by rw [length_splice _ _ _ (by rw [HDl.out, HCs.out]; omega)]; exact HCs.out)
  have hmin : 1 = Nat.min 1 (n + 1 - k) := by show 1 = min 1 _; omega
  have hfit : k * 4 + x.cells.length ≤ (splice cur ((k + 1) * 4) (itmCells (l.drop k))).length := by rw [HSp1.out]; show k * 4 + 4 ≤ _; omega
  have hxc := HX.out w4 hxw
  have HFit := Lib.hid hfit
  have HXc := Lib.hid hxc
  have HMin := Lib.hid hmin
  clear hfit hxc hmin
  go_wp2_with (refine wpList_copy_k rfl (.tmp 80) (.tmp 81) 131 131 rfl 133 4 Tryz.underlying131 itmSize4 g (k * 4) (n + 1 - k) (c - k) ⟨vb, 0, none⟩ 1 1 rfl rfl (splice cur ((k + 1) * 4) (itmCells (l.drop k))) 133 hg4.out 1 x.cells HMin.out rfl HXc.out HFit.out (cells_oneI x) ?_; intro w5 hg5 hb5)
  go_ret
  have hb : Below B w w5 := (((Below.refl B w).drew).grown hb4.out hB (fun j hj => by injection hj with hj; omega)).grown hb5.out (Nat.le_trans hB hb4.out.size) (fun j hj => by injection hj with hj; omega)
  refine ⟨_, _, rfl, ⟨by rw [itmCells_len, insI_len _ _ _ (by rw [HLl.out]; omega), HLl.out], .inr ⟨g, c, _, rfl, hBg, hg5.out, hc, by unfold maxLen; omega, ?_, ?_⟩⟩, hb⟩
  · have := length_splice (splice cur ((k + 1) * 4) (itmCells (l.drop k))) (k * 4) x.cells (by rw [HSp1.out]; show k * 4 + 4 ≤ _; omega)
    simp only [List.size_toArray]
    rw [this, HSp1.out]
  · exact HF.out
set_option maxRecDepth 100000 in
set_option maxHeartbeats 8000000 in
/-- In the middle, without room: c = n. -/
theorem ins_grow {w : World} {B : Nat} {g n vb k : Nat} {l : List Itm} {x : Itm} (h : w.ownsRow B 133 4 (.slice (some ⟨g, 0, none⟩) n n) n (itmCells l)) (hv : w.heap[vb]? = some (.cells x.cells.toArray 133 (0, 0))) (hB : B ≤ w.heap.size) (hn : n ≤ 1000000) (hk : k < n) :
    Calls Tryz.prog 209 #[.slice (some ⟨g, 0, none⟩) n n, .int .i64 k, .slice (some ⟨vb, 0, none⟩) 1 1] w (InsRes B (n + 1) (insI l k x) w) := by
  obtain ⟨i0, hi, hz0, hz1, hz2⟩ := info_parts itmInfo
  have hll : l.length = n := by have := h.1; rw [itmCells_len] at this; omega
  obtain ⟨cur, hg, hcs, htk⟩ : ∃ cur : List Value, w.heap[g]? = some (.cells cur.toArray 133 (0, 0)) ∧ cur.length = n * 4 ∧ cur = itmCells l := by
    rcases h.2 with ⟨hs, _⟩ | ⟨g', cap, cur, hs, hb, hg, _, hm, hz, ht⟩
    · cases hs
    · injection hs with h1 _ h2
      injection h1 with h1
      injection h1 with h1
      subst h1 h2
      refine ⟨cur.toList, by simpa using hg, by simpa using hz, ?_⟩
      rw [List.take_of_length_le (by simp; omega)] at ht
      exact ht
  subst htk
  clear h
  have hX : ∀ W : World, W.heap[vb]? = w.heap[vb]? → ∀ j u, x.cells[j]? = some u → W.cell? ((⟨vb, 0, none⟩ : Addr).add j) = some u := fun W hW => cells_atI (hW.trans hv) (fun j u hu => by rw [Nat.zero_add]; simpa using hu)
  have HX := Lib.hid hX
  have hdl : (itmCells (l.drop k)).length = (n - k) * 4 := by rw [itmCells_len, List.length_drop, hll]
  have htl : (itmCells (l.take k)).length = k * 4 := by rw [itmCells_len, List.length_take, hll]; omega
  have hsrc : ∀ W : World, W.heap[g]? = w.heap[g]? → ∀ j u, (itmCells (l.drop k))[j]? = some u → W.cell? ((⟨g, k * 4, none⟩ : Addr).add j) = some u := fun W hW => cells_atI (hW.trans hg) (fun j u hu => by
    rw [← itmCells_drop, List.getElem?_drop] at hu
    simpa using hu)
  have HSrc := Lib.hid hsrc
  have HDl := Lib.hid hdl
  have HTl := Lib.hid htl
  have HVl := blk_lt hv
  have HGl := blk_lt hg
  have hold : (Builtin.firstCells i0.size k (.slice (some ⟨g, 0, none⟩) k n)).run Tryz.prog w.drew = .ok (itmCells (l.take k)).toArray w.drew := by
    have hc : ∀ j u, (itmCells (l.take k))[j]? = some u → w.drew.cell? ((⟨g, 0, none⟩ : Addr).add j) = some u := cells_atI (show w.drew.heap[g]? = _ from hg) (fun j u hu => by
      rw [← itmCells_take, List.getElem?_take] at hu
      split at hu
      · simpa using hu
      · cases hu)
    have hld := run_loadCells_list (P := Tryz.prog) w.drew ⟨g, 0, none⟩ (itmCells (l.take k)) hc
    rw [htl] at hld
    unfold Builtin.firstCells
    rw [hz1]
    exact hld
  have hGn : n + 1 ≤ grownCap w (n + 1) n 133 := grownCap_ge w _ _ _
  have hG9 : grownCap w (n + 1) n 133 ≤ maxLen := grownCap_le_maxLen w (n + 1) n _ (by unfold maxLen; omega)
  obtain ⟨G, hG⟩ : ∃ G, G = grownCap w (n + 1) n 133 := ⟨_, rfl⟩
  have hrz : ∃ Z : List Value, Z.length = (G - k) * 4 ∧ ∀ ty (q : Int), q = n + 1 - k → (Builtin.append_ #[131, 3] ty #[.slice (some ⟨g, 0, none⟩) k n, .int .i64 q]).run Tryz.prog w =
      .ok (.slice (some ⟨w.heap.size, 0, none⟩) (n + 1) G) (w.drew.alloc (.cells (itmCells (l.take k) ++ Z).toArray 133)) := by
    refine ⟨(Builtin.zeroCells (Value.agg #[.string ⟨#[]⟩, .string ⟨#[]⟩, .int .i64 0, .int .i64 0]).cells (n + 1 - k) ++ Builtin.zeroCells (Value.agg #[.string ⟨#[]⟩, .string ⟨#[]⟩, .int .i64 0, .int .i64 0]).cells (G - (n + 1))).toList, ?_, fun ty q hq => ?_⟩
    · rw [Array.length_toList, Array.size_append, size_zeroCells, size_zeroCells]
      show (n + 1 - k) * 4 + (G - (n + 1)) * 4 = _
      omega
    · have h := Lib.run_append_grow_zeros (P := Tryz.prog) w 131 3 ty 133 i0 _ .i64 .i64 Tryz.underlying131 Tryz.underlying3 hi hz0 (some ⟨g, 0, none⟩) k n _ hold (n + 1 - k) (by omega) (by omega) (by omega) (by omega)
        (by rw [hz2]; omega) (growslice_fits (by omega) (by rw [hz2]; omega))
      rw [show k + (n + 1 - k) = n + 1 from by omega, ← hG, show ((n + 1 - k : Nat) : Int) = q from by omega] at h
      rw [h]
      congr 3
      simp
  obtain ⟨Z, hZl, hrz⟩ := hrz
  have hcur : (itmCells (l.take k) ++ Z).length = G * 4 := by rw [List.length_append, htl, hZl]; omega
  obtain ⟨cur, hcu⟩ : ∃ cur, cur = itmCells (l.take k) ++ Z := ⟨_, rfl⟩
  rw [← hcu] at hrz hcur
  have hfin : (splice (splice cur (k * 4) x.cells) ((k + 1) * 4) (itmCells (l.drop k))).take ((n + 1) * 4) = itmCells (insI l k x) := by
    have e := splice_grow cur x.cells (itmCells (l.drop k)) (k * 4) (by rw [hdl, hcur]; show k * 4 + 4 + _ ≤ _; omega)
    have e1 : k * 4 + x.cells.length = (k + 1) * 4 := by show k * 4 + 4 = _; omega
    rw [e1, hdl, show (k + 1) * 4 + (n - k) * 4 = (n + 1) * 4 from by omega] at e
    rw [e, insI_cells, hcu, List.take_append_of_le_length (by rw [htl]; omega), List.take_of_length_le (by rw [htl]; omega)]
  have HF := Lib.hid hfin
  have HLl := Lib.hid hll
  have HCu := Lib.hid hcur
  have HSp1 : Hid ((splice cur (k * 4) x.cells).length = G * 4) := Lib.hid (by rw [length_splice _ _ _ (by rw [hcur]; show k * 4 + 4 ≤ _; omega)]; exact hcur)
  have HMin : Hid (1 = Nat.min 1 (n + 1 - k)) := Lib.hid (by show 1 = min 1 _; omega)
  have HFit : Hid (k * 4 + x.cells.length ≤ cur.length) := Lib.hid (by rw [hcur]; show k * 4 + 4 ≤ _; omega)
  have hG63 : G ≤ 9223372036854775807 := by unfold maxLen at hG9; omega
  rw [← hG] at hGn
  have hx1 : (k : Int) < n := by omega
  have hx2 : (0 : Int) ≤ k := by omega
  have hx3 : (k : Int) ≤ n := by omega
  have hx5 : ¬ (k = n) := by omega
  have hx7 : (k : Int) + 1 ≤ (n : Int) + 1 := by omega
  have hx8 : ((k : Int) + 1).toNat = k + 1 := by omega
  have hy1 : ((k : Int) == n) = false := by simp; omega
  have hy2 : decide ((n : Int) < (n : Int) + 1) = true := by simp; omega
  have hy5 : (0 : Int) ≤ (k : Int) + 1 := by omega
  have hy7 : IntKind.i64.wrap ((k : Int) + 1) = (k : Int) + 1 := IntWalk.i64_in _ (by omega)
  have hy9 : ¬ (n = k) := by omega
  have hz0' : (k : Int) ≤ (n : Int) + 1 := by omega
  have hq1 : ¬ (G = k) := by omega
  have hq2 : ¬ (G = k + 1) := by omega
  have hq3 : (n : Int) + 1 ≤ G := by omega
  have HHv := Lib.hid hv
  have HHg := Lib.hid hg
  clear hv hg hsrc hdl hfin hll hcur hcu hold hG9 htl hZl hX hG hz1 hz2 hi
  go_enter Tryz.func209, Tryz.ntmps209
  go_upto_region 10 with (at_builtin; refine Lib.wpList_append_run _ rfl _ _ _ _ rfl _ _ rfl rfl _ _ (hrz _ _ (by omega)) ?_)
  obtain ⟨W1, hW1⟩ : ∃ W1, W1 = (w.alloc (.cells cur.toArray 133)).drew := ⟨_, rfl⟩
  have hg1 : W1.heap[w.heap.size]? = some (.cells cur.toArray 133 (0, 0)) := by rw [hW1]; exact heap_alloc_new w _
  have hgr1 : Below w.heap.size w W1 := by rw [hW1]; exact ((Below.refl _ _).alloc (Nat.le_refl _) _).drew
  rw [← hW1]
  have HG1 := Lib.hid hg1
  have HGr := Lib.hid hgr1
  have hXc := HX.out W1 (hgr1.block vb HVl)
  have HXc := Lib.hid hXc
  clear hW1 hg1 hgr1 hXc hrz
  go_upto_region 11 with (refine wpList_copy_k rfl (.tmp 43) (.tmp 44) 131 131 rfl 133 4 Tryz.underlying131 itmSize4 w.heap.size (k * 4) (n + 1 - k) (G - k) ⟨vb, 0, none⟩ 1 1 rfl rfl cur 133 HG1.out 1 x.cells HMin.out rfl HXc.out HFit.out (cells_oneI x) ?_; intro w4 hg4 hb4)
  have hsrc4 := HSrc.out w4 ((hb4.out.block g (Nat.lt_of_lt_of_le HGl HGr.out.size) (fun e => by injection e with e; omega)).trans (HGr.out.block g HGl))
  have HS4 := Lib.hid hsrc4
  clear hsrc4
  go_region_law (refine step_copy_k rfl (.tmp 50) (.tmp 53) 131 131 rfl 133 4 Tryz.underlying131 itmSize4 w.heap.size ((k + 1) * 4) (n + 1 - (k + 1)) (G - (k + 1)) ⟨g, k * 4, none⟩ (n - k) (n - k) (by simp [Act.eval, Act.put]) (by simp [Act.eval, Act.put]) (splice cur (k * 4) x.cells) 133 hg4.out (n - k) (itmCells (l.drop k)) (by simp only [Nat.min_def]; split <;> omega) HDl.out HS4.out (by rw [HDl.out, HSp1.out]; omega) (itmCells_one _) ?_; intro w5 hg5 hb5)
  all_goals (
    go_wp2_with fail
    go_ret
    have hb : Below B w w5 := ((HGr.out.mono hB).grown hb4.out (Nat.le_trans hB HGr.out.size) (fun j hj => by injection hj with hj; omega)).drew.grown hb5.out (Nat.le_trans hB (Nat.le_trans HGr.out.size hb4.out.size)) (fun j hj => by injection hj with hj; omega)
    refine ⟨_, _, rfl, ⟨by rw [itmCells_len, insI_len _ _ _ (by rw [HLl.out]; omega), HLl.out], .inr ⟨w.heap.size, G, _, rfl, hB, hg5.out, hGn, by unfold maxLen; omega, ?_, ?_⟩⟩, hb⟩
    · have := length_splice (splice cur (k * 4) x.cells) ((k + 1) * 4) (itmCells (l.drop k)) (by rw [HSp1.out, HDl.out]; omega)
      simp only [List.size_toArray]
      rw [this, HSp1.out]
    · exact HF.out)
/-- slices.Insert of one item. -/
theorem insI_any {w : World} {B : Nat} {ao : Option Addr} {n c vb k : Nat} {l : List Itm} {x : Itm} (h : w.ownsRow B 133 4 (.slice ao n c) n (itmCells l)) (hv : w.heap[vb]? = some (.cells x.cells.toArray 133 (0, 0))) (hne : ∀ a, ao = some a → vb ≠ a.block) (hB : B ≤ w.heap.size) (hn : n ≤ 1000000) (hk : k ≤ n) :
    Calls Tryz.prog 209 #[.slice ao n c, .int .i64 k, .slice (some ⟨vb, 0, none⟩) 1 1] w (InsRes B (n + 1) (insI l k x) w) := by
  by_cases hkn : k = n
  · subst hkn
    exact ins_end h hv hB hn
  · obtain ⟨g, cap, hs, hb, hlt⟩ := h.form (by omega)
    injection hs with h1 _ _
    subst h1
    have hnc := (own_shape h)
    obtain ⟨_, _, e, hnc, _, _⟩ := hnc
    injection e with _ _ e
    subst e
    by_cases hc : n + 1 ≤ c
    · exact ins_room h hv (hne _ rfl) hB hn (by omega) hc
    · obtain rfl : c = n := by omega
      exact ins_grow h hv hB hn (by omega)
end Go.Proofs.YtmdidmllaldbaaaGreat
