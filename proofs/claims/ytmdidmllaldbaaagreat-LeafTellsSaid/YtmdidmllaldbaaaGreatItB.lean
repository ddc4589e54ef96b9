/- Items in memory: how a slice of them reads, and how it is carried from world to world. -/
import Derived.Test.YtmdidmllaldbaaaGreatEntB
namespace Go.Proofs.YtmdidmllaldbaaaGreat
open Go.RowKit
structure Itm where
  key : ByteArray
  vl : ByteArray
  ov : Int
  sz : Int
def Itm.cells (e : Itm) : List Value := [.string e.key, .string e.vl, .int .i64 e.ov, .int .i64 e.sz]
def Itm.agg (e : Itm) : Value := .agg #[.string e.key, .string e.vl, .int .i64 e.ov, .int .i64 e.sz]
def Itm.len (e : Itm) : Nat := e.key.size + e.vl.size
def itmCells (l : List Itm) : List Value := l.flatMap Itm.cells
/-- One item lies at block b from cell o on. -/
def ItmAt (w : World) (b o : Nat) (e : Itm) : Prop :=
  w.cell? ⟨b, o, none⟩ = some (.string e.key) ∧ w.cell? ⟨b, o + 1, none⟩ = some (.string e.vl) ∧ w.cell? ⟨b, o + 2, none⟩ = some (.int .i64 e.ov) ∧ w.cell? ⟨b, o + 3, none⟩ = some (.int .i64 e.sz)
/-- A slice of n items reads as l, and lies below block B. -/
def Itms (w : World) (B : Nat) (ao : Option Addr) (n : Nat) (l : List Itm) : Prop :=
  l.length = n ∧ (0 < n → ∃ b o, ao = some ⟨b, o, none⟩ ∧ b < B ∧ ∀ k e, l[k]? = some e → ItmAt w b (o + k * 4) e)
theorem ItmAt.keep {w w' : World} {b o : Nat} {e : Itm} (h : ItmAt w b o e) (hk : w'.heap[b]? = w.heap[b]?) : ItmAt w' b o e := by
  have c : ∀ j, w'.cell? ⟨b, j, none⟩ = w.cell? ⟨b, j, none⟩ := fun j => World.cell?_of_block (w := w) (a := ⟨b, j, none⟩) hk
  unfold ItmAt
  rw [c, c, c, c]
  exact h
theorem Itms.keep {w w' : World} {B : Nat} {ao : Option Addr} {n : Nat} {l : List Itm} (h : Itms w B ao n l) (hk : ∀ b, b < B → w'.heap[b]? = w.heap[b]?) : Itms w' B ao n l :=
  ⟨h.1, fun hn => by
    obtain ⟨b, o, e, hb, hc⟩ := h.2 hn
    exact ⟨b, o, e, hb, fun k x hx => (hc k x hx).keep (hk b hb)⟩⟩
theorem Itms.below {w w' : World} {B : Nat} {ao : Option Addr} {n : Nat} {l : List Itm} (h : Itms w B ao n l) (hb : Below B w w') : Itms w' B ao n l := h.keep hb.block
theorem Itms.mono {w : World} {B B' : Nat} {ao : Option Addr} {n : Nat} {l : List Itm} (h : Itms w B ao n l) (hB : B ≤ B') : Itms w B' ao n l :=
  ⟨h.1, fun hn => by
    obtain ⟨b, o, e, hb, hc⟩ := h.2 hn
    exact ⟨b, o, e, by omega, hc⟩⟩
theorem Itms.nil_ (w : World) (B : Nat) (ao : Option Addr) : Itms w B ao 0 [] := ⟨rfl, fun h => by omega⟩
/-- The item at place k. -/
theorem Itms.get {w : World} {B : Nat} {ao : Option Addr} {n : Nat} {l : List Itm} (h : Itms w B ao n l) {k : Nat} (hk : k < n) :
    ∃ b o e, ao = some ⟨b, o, none⟩ ∧ b < B ∧ l[k]? = some e ∧ ItmAt w b (o + k * 4) e := by
  obtain ⟨b, o, ha, hb, hc⟩ := h.2 (by omega)
  have hl : k < l.length := by rw [h.1]; exact hk
  exact ⟨b, o, l[k], ha, hb, List.getElem?_eq_getElem hl, hc k _ (List.getElem?_eq_getElem hl)⟩
theorem itmCells_len (l : List Itm) : (itmCells l).length = l.length * 4 := by
  induction l with
  | nil => rfl
  | cons e l ih =>
    show (e.cells ++ itmCells l).length = _
    rw [List.length_append, ih, List.length_cons]
    show 4 + _ = _
    omega
theorem itmCells_get (l : List Itm) : ∀ (k r : Nat), r < 4 → (itmCells l)[k * 4 + r]? = (l[k]?).bind (fun e => e.cells[r]?) := by
  induction l with
  | nil => intro k r _; simp [itmCells]
  | cons e l ih =>
    intro k r hr
    show (e.cells ++ itmCells l)[k * 4 + r]? = _
    have he : e.cells.length = 4 := rfl
    cases k with
    | zero => rw [List.getElem?_append_left (by omega)]; simp
    | succ k =>
      rw [List.getElem?_append_right (by omega), he, show (k + 1) * 4 + r - 4 = k * 4 + r from by omega, ih k r hr]
      simp
theorem itmCells_append (a b : List Itm) : itmCells (a ++ b) = itmCells a ++ itmCells b := by simp [itmCells]
theorem itmCells_one (l : List Itm) : ∀ u ∈ itmCells l, u.oneCell' = true := by
  intro u hu
  simp only [itmCells, List.mem_flatMap] at hu
  obtain ⟨e, _, hu⟩ := hu
  simp only [Itm.cells, List.mem_cons, List.not_mem_nil, or_false] at hu
  rcases hu with rfl | rfl | rfl | rfl <;> rfl
/-- What a slice of items reads as, cell by cell. -/
theorem Itms.cells {w : World} {B : Nat} {ad : Addr} {n : Nat} {l : List Itm} (h : Itms w B (some ad) n l) : ∀ j u, (itmCells l)[j]? = some u → w.cell? (ad.add j) = some u := by
  intro j u hu
  have hj : j < (itmCells l).length := (List.getElem?_eq_some_iff.1 hu).1
  rw [itmCells_len, h.1] at hj
  obtain ⟨b, o, ha, hb, hc⟩ := h.2 (by omega)
  injection ha with ha
  subst ha
  rw [show j = j / 4 * 4 + j % 4 from by omega] at hu ⊢
  rw [itmCells_get _ _ _ (by omega)] at hu
  cases he : l[j / 4]? with
  | none => rw [he] at hu; cases hu
  | some e =>
    rw [he] at hu
    obtain ⟨h0, h1, h2, h3⟩ := hc _ _ he
    have hadd : (⟨b, o, none⟩ : Addr).add (j / 4 * 4 + j % 4) = ⟨b, o + j / 4 * 4 + j % 4, none⟩ := by
      unfold Addr.add
      split
      · simp
      · simp [Nat.add_assoc]
    rw [hadd]
    rcases (show j % 4 = 0 ∨ j % 4 = 1 ∨ j % 4 = 2 ∨ j % 4 = 3 by omega) with h | h | h | h <;> rw [h] at hu ⊢ <;> simp [Itm.cells] at hu <;> subst hu
    · exact h0
    · exact h1
    · exact h2
    · exact h3
/-- An owned row of items, read. -/
theorem itms_own {w : World} {base : Nat} {t : TypeId} {ao : Option Addr} {n cap : Nat} {l : List Itm} (h : w.ownsRow base t 4 (.slice ao n cap) n (itmCells l)) : Itms w w.heap.size ao n l := by
  have hl : l.length = n := by have := h.1; rw [itmCells_len] at this; omega
  refine ⟨hl, fun hn => ?_⟩
  obtain ⟨g, cap', hv, hb, hlt⟩ := h.form hn
  injection hv with hv _ _
  subst hv
  refine ⟨g, 0, rfl, hlt, fun k e hk => ?_⟩
  have hkl : k < l.length := (List.getElem?_eq_some_iff.1 hk).1
  have c : ∀ r, r < 4 → w.cell? ⟨g, k * 4 + r, none⟩ = e.cells[r]? := fun r hr => by
    rw [h.cellAt (k * 4 + r) (by omega), itmCells_get _ _ _ hr, hk]; rfl
  rw [Nat.zero_add]
  exact ⟨c 0 (by omega), c 1 (by omega), c 2 (by omega), c 3 (by omega)⟩
end Go.Proofs.YtmdidmllaldbaaaGreat
