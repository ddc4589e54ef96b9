/- Entries of the log in memory: how a slice of them reads, and how it is carried from world to world. -/
import Derived.Test.YtmdidmllaldbaaaGreatBase
import Derived.Deep.AppendLies
namespace Go.Proofs.YtmdidmllaldbaaaGreat
open Go.RowKit
structure Ent where
  ix : Int
  tm : Int
  kd : Int
  dt : ByteArray
def Ent.cells (e : Ent) : List Value := [.int .i64 e.ix, .int .i64 e.tm, .int .i64 e.kd, .string e.dt]
def Ent.agg (e : Ent) : Value := .agg #[.int .i64 e.ix, .int .i64 e.tm, .int .i64 e.kd, .string e.dt]
def entCells (l : List Ent) : List Value := l.flatMap Ent.cells
/-- One entry lies at block b from cell o on. -/
def EntAt (w : World) (b o : Nat) (e : Ent) : Prop :=
  w.cell? ⟨b, o, none⟩ = some (.int .i64 e.ix) ∧ w.cell? ⟨b, o + 1, none⟩ = some (.int .i64 e.tm) ∧ w.cell? ⟨b, o + 2, none⟩ = some (.int .i64 e.kd) ∧ w.cell? ⟨b, o + 3, none⟩ = some (.string e.dt)
/-- A slice of n entries reads as l, and lies below block B. -/
def Ents (w : World) (B : Nat) (ao : Option Addr) (n : Nat) (l : List Ent) : Prop :=
  l.length = n ∧ (0 < n → ∃ b o, ao = some ⟨b, o, none⟩ ∧ b < B ∧ ∀ k e, l[k]? = some e → EntAt w b (o + k * 4) e)
theorem EntAt.keep {w w' : World} {b o : Nat} {e : Ent} (h : EntAt w b o e) (hk : w'.heap[b]? = w.heap[b]?) : EntAt w' b o e := by
  have c : ∀ j, w'.cell? ⟨b, j, none⟩ = w.cell? ⟨b, j, none⟩ := fun j => World.cell?_of_block (w := w) (a := ⟨b, j, none⟩) hk
  unfold EntAt
  rw [c, c, c, c]
  exact h
theorem Ents.keep {w w' : World} {B : Nat} {ao : Option Addr} {n : Nat} {l : List Ent} (h : Ents w B ao n l) (hk : ∀ b, b < B → w'.heap[b]? = w.heap[b]?) : Ents w' B ao n l :=
  ⟨h.1, fun hn => by
    obtain ⟨b, o, e, hb, hc⟩ := h.2 hn
    exact ⟨b, o, e, hb, fun k x hx => (hc k x hx).keep (hk b hb)⟩⟩
theorem Ents.below {w w' : World} {B : Nat} {ao : Option Addr} {n : Nat} {l : List Ent} (h : Ents w B ao n l) (hb : Below B w w') : Ents w' B ao n l := h.keep hb.block
theorem Ents.mono {w : World} {B B' : Nat} {ao : Option Addr} {n : Nat} {l : List Ent} (h : Ents w B ao n l) (hB : B ≤ B') : Ents w B' ao n l :=
  ⟨h.1, fun hn => by
    obtain ⟨b, o, e, hb, hc⟩ := h.2 hn
    exact ⟨b, o, e, by omega, hc⟩⟩
theorem Ents.nil_ (w : World) (B : Nat) (ao : Option Addr) : Ents w B ao 0 [] := ⟨rfl, fun h => by omega⟩
/-- The entry at place k. -/
theorem Ents.get {w : World} {B : Nat} {ao : Option Addr} {n : Nat} {l : List Ent} (h : Ents w B ao n l) {k : Nat} (hk : k < n) :
    ∃ b o e, ao = some ⟨b, o, none⟩ ∧ b < B ∧ l[k]? = some e ∧ EntAt w b (o + k * 4) e := by
  obtain ⟨b, o, ha, hb, hc⟩ := h.2 (by omega)
  have hl : k < l.length := by rw [h.1]; exact hk
  exact ⟨b, o, l[k], ha, hb, List.getElem?_eq_getElem hl, hc k _ (List.getElem?_eq_getElem hl)⟩
theorem entCells_len (l : List Ent) : (entCells l).length = l.length * 4 := by
  induction l with
  | nil => rfl
  | cons e l ih =>
    show (e.cells ++ entCells l).length = _
    rw [List.length_append, ih, List.length_cons]
    show 4 + _ = _
    omega
theorem entCells_get (l : List Ent) : ∀ (k r : Nat), r < 4 → (entCells l)[k * 4 + r]? = (l[k]?).bind (fun e => e.cells[r]?) := by
  induction l with
  | nil => intro k r _; simp [entCells]
  | cons e l ih =>
    intro k r hr
    show (e.cells ++ entCells l)[k * 4 + r]? = _
    have he : e.cells.length = 4 := rfl
    cases k with
    | zero => rw [List.getElem?_append_left (by omega)]; simp
    | succ k =>
      rw [List.getElem?_append_right (by omega), he, show (k + 1) * 4 + r - 4 = k * 4 + r from by omega, ih k r hr]
      simp
theorem entCells_append (a b : List Ent) : entCells (a ++ b) = entCells a ++ entCells b := by simp [entCells]
theorem entCells_one (l : List Ent) : ∀ u ∈ entCells l, u.oneCell' = true := by
  intro u hu
  simp only [entCells, List.mem_flatMap] at hu
  obtain ⟨e, _, hu⟩ := hu
  simp only [Ent.cells, List.mem_cons, List.not_mem_nil, or_false] at hu
  rcases hu with rfl | rfl | rfl | rfl <;> rfl
/-- What a slice of entries reads as, cell by cell. -/
theorem Ents.cells {w : World} {B : Nat} {ad : Addr} {n : Nat} {l : List Ent} (h : Ents w B (some ad) n l) : ∀ j u, (entCells l)[j]? = some u → w.cell? (ad.add j) = some u := by
  intro j u hu
  have hj : j < (entCells l).length := (List.getElem?_eq_some_iff.1 hu).1
  rw [entCells_len, h.1] at hj
  obtain ⟨b, o, ha, hb, hc⟩ := h.2 (by omega)
  injection ha with ha
  subst ha
  rw [show j = j / 4 * 4 + j % 4 from by omega] at hu ⊢
  rw [entCells_get _ _ _ (by omega)] at hu
  cases he : l[j / 4]? with
  | none => rw [he] at hu; cases hu
  | some e =>
    rw [he] at hu
    obtain ⟨h0, h1, h2, h3⟩ := hc _ _ he
    have hadd : (⟨b, o, none⟩ : Addr).add (j / 4 * 4 + j % 4) = ⟨b, o + j / 4 * 4 + j % 4, none⟩ := by
      unfold Addr.add
      split
      · simp
      · simp [Nat.add_assoc]
    rw [hadd]
    rcases (show j % 4 = 0 ∨ j % 4 = 1 ∨ j % 4 = 2 ∨ j % 4 = 3 by omega) with h | h | h | h <;> rw [h] at hu ⊢ <;> simp [Ent.cells] at hu <;> subst hu
    · exact h0
    · exact h1
    · exact h2
    · exact h3
/-- A slice value in its shape. -/
theorem own_shape {w : World} {base : Nat} {e : TypeId} {size : Nat} {v : Value} {n : Nat} {xs : List Value} (h : w.ownsRow base e size v n xs) :
    ∃ ao cap, v = .slice ao n cap ∧ n ≤ cap ∧ (ao = none → n = 0 ∧ cap = 0) ∧ (∀ a, ao = some a → ∃ g, a = ⟨g, 0, none⟩ ∧ base ≤ g ∧ g < w.heap.size) := by
  rcases h.2 with ⟨rfl, rfl⟩ | ⟨g, cap, cur, rfl, hb, hg, hc, _⟩
  · exact ⟨none, 0, rfl, Nat.le_refl _, (fun _ => ⟨rfl, rfl⟩), fun a ha => (by cases ha)⟩
  · exact ⟨_, cap, rfl, hc, (fun h => by cases h), fun a ha => (by injection ha with ha; exact ⟨g, ha.symm, hb, blk_lt hg⟩)⟩
/-- An owned row of entries, read. -/
theorem ents_own {w : World} {base : Nat} {t : TypeId} {ao : Option Addr} {n cap : Nat} {l : List Ent} (h : w.ownsRow base t 4 (.slice ao n cap) n (entCells l)) : Ents w w.heap.size ao n l := by
  have hl : l.length = n := by have := h.1; rw [entCells_len] at this; omega
  refine ⟨hl, fun hn => ?_⟩
  obtain ⟨g, cap', hv, hb, hlt⟩ := h.form hn
  injection hv with hv _ _
  subst hv
  refine ⟨g, 0, rfl, hlt, fun k e hk => ?_⟩
  have hkl : k < l.length := (List.getElem?_eq_some_iff.1 hk).1
  have c : ∀ r, r < 4 → w.cell? ⟨g, k * 4 + r, none⟩ = e.cells[r]? := fun r hr => by
    rw [h.cellAt (k * 4 + r) (by omega), entCells_get _ _ _ hr, hk]; rfl
  rw [Nat.zero_add]
  exact ⟨c 0 (by omega), c 1 (by omega), c 2 (by omega), c 3 (by omega)⟩
end Go.Proofs.YtmdidmllaldbaaaGreat
