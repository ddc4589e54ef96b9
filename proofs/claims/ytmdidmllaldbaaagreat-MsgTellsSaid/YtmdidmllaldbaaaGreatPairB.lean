/- Pairs in memory: how a slice of them reads, and how it is carried from world to world. -/
import Derived.Test.YtmdidmllaldbaaaGreatEntB
namespace Go.Proofs.YtmdidmllaldbaaaGreat
open Go.RowKit
structure Par where
  key : ByteArray
  vl : ByteArray
def Par.cells (e : Par) : List Value := [.string e.key, .string e.vl]
def Par.agg (e : Par) : Value := .agg #[.string e.key, .string e.vl]
def parCells (l : List Par) : List Value := l.flatMap Par.cells
/-- One pair lies at block b from cell o on. -/
def ParAt (w : World) (b o : Nat) (e : Par) : Prop :=
  w.cell? ⟨b, o, none⟩ = some (.string e.key) ∧ w.cell? ⟨b, o + 1, none⟩ = some (.string e.vl)
/-- A slice of n pairs reads as l, and lies below block B. -/
def Pars (w : World) (B : Nat) (ao : Option Addr) (n : Nat) (l : List Par) : Prop :=
  l.length = n ∧ (0 < n → ∃ b o, ao = some ⟨b, o, none⟩ ∧ b < B ∧ ∀ k e, l[k]? = some e → ParAt w b (o + k * 2) e)
theorem ParAt.keep {w w' : World} {b o : Nat} {e : Par} (h : ParAt w b o e) (hk : w'.heap[b]? = w.heap[b]?) : ParAt w' b o e := by
  have c : ∀ j, w'.cell? ⟨b, j, none⟩ = w.cell? ⟨b, j, none⟩ := fun j => World.cell?_of_block (w := w) (a := ⟨b, j, none⟩) hk
  unfold ParAt
  rw [c, c]
  exact h
theorem Pars.keep {w w' : World} {B : Nat} {ao : Option Addr} {n : Nat} {l : List Par} (h : Pars w B ao n l) (hk : ∀ b, b < B → w'.heap[b]? = w.heap[b]?) : Pars w' B ao n l :=
  ⟨h.1, fun hn => by
    obtain ⟨b, o, e, hb, hc⟩ := h.2 hn
    exact ⟨b, o, e, hb, fun k x hx => (hc k x hx).keep (hk b hb)⟩⟩
theorem Pars.below {w w' : World} {B : Nat} {ao : Option Addr} {n : Nat} {l : List Par} (h : Pars w B ao n l) (hb : Below B w w') : Pars w' B ao n l := h.keep hb.block
theorem Pars.mono {w : World} {B B' : Nat} {ao : Option Addr} {n : Nat} {l : List Par} (h : Pars w B ao n l) (hB : B ≤ B') : Pars w B' ao n l :=
  ⟨h.1, fun hn => by
    obtain ⟨b, o, e, hb, hc⟩ := h.2 hn
    exact ⟨b, o, e, by omega, hc⟩⟩
theorem Pars.nil_ (w : World) (B : Nat) (ao : Option Addr) : Pars w B ao 0 [] := ⟨rfl, fun h => by omega⟩
/-- The pair at place k. -/
theorem Pars.get {w : World} {B : Nat} {ao : Option Addr} {n : Nat} {l : List Par} (h : Pars w B ao n l) {k : Nat} (hk : k < n) :
    ∃ b o e, ao = some ⟨b, o, none⟩ ∧ b < B ∧ l[k]? = some e ∧ ParAt w b (o + k * 2) e := by
  obtain ⟨b, o, ha, hb, hc⟩ := h.2 (by omega)
  have hl : k < l.length := by rw [h.1]; exact hk
  exact ⟨b, o, l[k], ha, hb, List.getElem?_eq_getElem hl, hc k _ (List.getElem?_eq_getElem hl)⟩
theorem parCells_len (l : List Par) : (parCells l).length = l.length * 2 := by
  induction l with
  | nil => rfl
  | cons e l ih =>
    show (e.cells ++ parCells l).length = _
    rw [List.length_append, ih, List.length_cons]
    show 2 + _ = _
    omega
theorem parCells_get (l : List Par) : ∀ (k r : Nat), r < 2 → (parCells l)[k * 2 + r]? = (l[k]?).bind (fun e => e.cells[r]?) := by
  induction l with
  | nil => intro k r _; simp [parCells]
  | cons e l ih =>
    intro k r hr
    show (e.cells ++ parCells l)[k * 2 + r]? = _
    have he : e.cells.length = 2 := rfl
    cases k with
    | zero => rw [List.getElem?_append_left (by omega)]; simp
    | succ k =>
      rw [List.getElem?_append_right (by omega), he, show (k + 1) * 2 + r - 2 = k * 2 + r from by omega, ih k r hr]
      simp
theorem parCells_append (a b : List Par) : parCells (a ++ b) = parCells a ++ parCells b := by simp [parCells]
theorem parCells_one (l : List Par) : ∀ u ∈ parCells l, u.oneCell' = true := by
  intro u hu
  simp only [parCells, List.mem_flatMap] at hu
  obtain ⟨e, _, hu⟩ := hu
  simp only [Par.cells, List.mem_cons, List.not_mem_nil, or_false] at hu
  rcases hu with rfl | rfl <;> rfl
/-- What a slice of pairs reads as, cell by cell. -/
theorem Pars.cells {w : World} {B : Nat} {ad : Addr} {n : Nat} {l : List Par} (h : Pars w B (some ad) n l) : ∀ j u, (parCells l)[j]? = some u → w.cell? (ad.add j) = some u := by
  intro j u hu
  have hj : j < (parCells l).length := (List.getElem?_eq_some_iff.1 hu).1
  rw [parCells_len, h.1] at hj
  obtain ⟨b, o, ha, hb, hc⟩ := h.2 (by omega)
  injection ha with ha
  subst ha
  rw [show j = j / 2 * 2 + j % 2 from by omega] at hu ⊢
  rw [parCells_get _ _ _ (by omega)] at hu
  cases he : l[j / 2]? with
  | none => rw [he] at hu; cases hu
  | some e =>
    rw [he] at hu
    obtain ⟨h0, h1⟩ := hc _ _ he
    have hadd : (⟨b, o, none⟩ : Addr).add (j / 2 * 2 + j % 2) = ⟨b, o + j / 2 * 2 + j % 2, none⟩ := by
      unfold Addr.add
      split
      · simp
      · simp [Nat.add_assoc]
    rw [hadd]
    rcases (show j % 2 = 0 ∨ j % 2 = 1 by omega) with h | h <;> rw [h] at hu ⊢ <;> simp [Par.cells] at hu <;> subst hu
    · exact h0
    · exact h1
/-- An owned row of pairs, read. -/
theorem pars_own {w : World} {base : Nat} {t : TypeId} {ao : Option Addr} {n cap : Nat} {l : List Par} (h : w.ownsRow base t 2 (.slice ao n cap) n (parCells l)) : Pars w w.heap.size ao n l := by
  have hl : l.length = n := by have := h.1; rw [parCells_len] at this; omega
  refine ⟨hl, fun hn => ?_⟩
  obtain ⟨g, cap', hv, hb, hlt⟩ := h.form hn
  injection hv with hv _ _
  subst hv
  refine ⟨g, 0, rfl, hlt, fun k e hk => ?_⟩
  have hkl : k < l.length := (List.getElem?_eq_some_iff.1 hk).1
  have c : ∀ r, r < 2 → w.cell? ⟨g, k * 2 + r, none⟩ = e.cells[r]? := fun r hr => by
    rw [h.cellAt (k * 2 + r) (by omega), parCells_get _ _ _ hr, hk]; rfl
  rw [Nat.zero_add]
  exact ⟨c 0 (by omega), c 1 (by omega)⟩
end Go.Proofs.YtmdidmllaldbaaaGreat
