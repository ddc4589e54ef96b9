/- Children in memory: how a slice of them reads, and how it is carried from world to world. -/
import Derived.Test.YtmdidmllaldbaaaGreatEntB
namespace Go.Proofs.YtmdidmllaldbaaaGreat
open Go.RowKit
structure Chd where
  key : ByteArray
  pg : Int
def Chd.cells (e : Chd) : List Value := [.string e.key, .int .i64 e.pg]
def Chd.agg (e : Chd) : Value := .agg #[.string e.key, .int .i64 e.pg]
def chdCells (l : List Chd) : List Value := l.flatMap Chd.cells
/-- One child lies at block b from cell o on. -/
def ChdAt (w : World) (b o : Nat) (e : Chd) : Prop :=
  w.cell? ⟨b, o, none⟩ = some (.string e.key) ∧ w.cell? ⟨b, o + 1, none⟩ = some (.int .i64 e.pg)
/-- A slice of n children reads as l, and lies below block B. -/
def Chds (w : World) (B : Nat) (ao : Option Addr) (n : Nat) (l : List Chd) : Prop :=
  l.length = n ∧ (0 < n → ∃ b o, ao = some ⟨b, o, none⟩ ∧ b < B ∧ ∀ k e, l[k]? = some e → ChdAt w b (o + k * 2) e)
theorem ChdAt.keep {w w' : World} {b o : Nat} {e : Chd} (h : ChdAt w b o e) (hk : w'.heap[b]? = w.heap[b]?) : ChdAt w' b o e := by
  have c : ∀ j, w'.cell? ⟨b, j, none⟩ = w.cell? ⟨b, j, none⟩ := fun j => World.cell?_of_block (w := w) (a := ⟨b, j, none⟩) hk
  unfold ChdAt
  rw [c, c]
  exact h
theorem Chds.keep {w w' : World} {B : Nat} {ao : Option Addr} {n : Nat} {l : List Chd} (h : Chds w B ao n l) (hk : ∀ b, b < B → w'.heap[b]? = w.heap[b]?) : Chds w' B ao n l :=
  ⟨h.1, fun hn => by
    obtain ⟨b, o, e, hb, hc⟩ := h.2 hn
    exact ⟨b, o, e, hb, fun k x hx => (hc k x hx).keep (hk b hb)⟩⟩
theorem Chds.below {w w' : World} {B : Nat} {ao : Option Addr} {n : Nat} {l : List Chd} (h : Chds w B ao n l) (hb : Below B w w') : Chds w' B ao n l := h.keep hb.block
theorem Chds.mono {w : World} {B B' : Nat} {ao : Option Addr} {n : Nat} {l : List Chd} (h : Chds w B ao n l) (hB : B ≤ B') : Chds w B' ao n l :=
  ⟨h.1, fun hn => by
    obtain ⟨b, o, e, hb, hc⟩ := h.2 hn
    exact ⟨b, o, e, by omega, hc⟩⟩
theorem Chds.nil_ (w : World) (B : Nat) (ao : Option Addr) : Chds w B ao 0 [] := ⟨rfl, fun h => by omega⟩
/-- The child at place k. -/
theorem Chds.get {w : World} {B : Nat} {ao : Option Addr} {n : Nat} {l : List Chd} (h : Chds w B ao n l) {k : Nat} (hk : k < n) :
    ∃ b o e, ao = some ⟨b, o, none⟩ ∧ b < B ∧ l[k]? = some e ∧ ChdAt w b (o + k * 2) e := by
  obtain ⟨b, o, ha, hb, hc⟩ := h.2 (by omega)
  have hl : k < l.length := by rw [h.1]; exact hk
  exact ⟨b, o, l[k], ha, hb, List.getElem?_eq_getElem hl, hc k _ (List.getElem?_eq_getElem hl)⟩
theorem chdCells_len (l : List Chd) : (chdCells l).length = l.length * 2 := by
  induction l with
  | nil => rfl
  | cons e l ih =>
    show (e.cells ++ chdCells l).length = _
    rw [List.length_append, ih, List.length_cons]
    show 2 + _ = _
    omega
theorem chdCells_get (l : List Chd) : ∀ (k r : Nat), r < 2 → (chdCells l)[k * 2 + r]? = (l[k]?).bind (fun e => e.cells[r]?) := by
  induction l with
  | nil => intro k r _; simp [chdCells]
  | cons e l ih =>
    intro k r hr
    show (e.cells ++ chdCells l)[k * 2 + r]? = _
    have he : e.cells.length = 2 := rfl
    cases k with
    | zero => rw [List.getElem?_append_left (by omega)]; simp
    | succ k =>
      rw [List.getElem?_append_right (by omega), he, show (k + 1) * 2 + r - 2 = k * 2 + r from by omega, ih k r hr]
      simp
theorem chdCells_append (a b : List Chd) : chdCells (a ++ b) = chdCells a ++ chdCells b := by simp [chdCells]
theorem chdCells_one (l : List Chd) : ∀ u ∈ chdCells l, u.oneCell' = true := by
  intro u hu
  simp only [chdCells, List.mem_flatMap] at hu
  obtain ⟨e, _, hu⟩ := hu
  simp only [Chd.cells, List.mem_cons, List.not_mem_nil, or_false] at hu
  rcases hu with rfl | rfl <;> rfl
/-- What a slice of children reads as, cell by cell. -/
theorem Chds.cells {w : World} {B : Nat} {ad : Addr} {n : Nat} {l : List Chd} (h : Chds w B (some ad) n l) : ∀ j u, (chdCells l)[j]? = some u → w.cell? (ad.add j) = some u := by
  intro j u hu
  have hj : j < (chdCells l).length := (List.getElem?_eq_some_iff.1 hu).1
  rw [chdCells_len, h.1] at hj
  obtain ⟨b, o, ha, hb, hc⟩ := h.2 (by omega)
  injection ha with ha
  subst ha
  rw [show j = j / 2 * 2 + j % 2 from by omega] at hu ⊢
  rw [chdCells_get _ _ _ (by omega)] at hu
  cases he : l[j / 2]? with
  | none => rw [he] at hu; cases hu
  | some e =>
    rw [he] at hu
    obtain ⟨h0, h1⟩ := hc _ _ he
    have hadd : (⟨b, o, none⟩ : Addr).add (j / 2 * 2 + j % 2) = ⟨b, o + j / 2 * 2 + j % 2, none⟩ := by
      unfold Addr.add
      split
      · simp
      · simp [Nat.add_assoc]
    rw [hadd]
    rcases (show j % 2 = 0 ∨ j % 2 = 1 by omega) with h | h <;> rw [h] at hu ⊢ <;> simp [Chd.cells] at hu <;> subst hu
    · exact h0
    · exact h1
/-- An owned row of children, read. -/
theorem chds_own {w : World} {base : Nat} {t : TypeId} {ao : Option Addr} {n cap : Nat} {l : List Chd} (h : w.ownsRow base t 2 (.slice ao n cap) n (chdCells l)) : Chds w w.heap.size ao n l := by
  have hl : l.length = n := by have := h.1; rw [chdCells_len] at this; omega
  refine ⟨hl, fun hn => ?_⟩
  obtain ⟨g, cap', hv, hb, hlt⟩ := h.form hn
  injection hv with hv _ _
  subst hv
  refine ⟨g, 0, rfl, hlt, fun k e hk => ?_⟩
  have hkl : k < l.length := (List.getElem?_eq_some_iff.1 hk).1
  have c : ∀ r, r < 2 → w.cell? ⟨g, k * 2 + r, none⟩ = e.cells[r]? := fun r hr => by
    rw [h.cellAt (k * 2 + r) (by omega), chdCells_get _ _ _ hr, hk]; rfl
  rw [Nat.zero_add]
  exact ⟨c 0 (by omega), c 1 (by omega)⟩
end Go.Proofs.YtmdidmllaldbaaaGreat
