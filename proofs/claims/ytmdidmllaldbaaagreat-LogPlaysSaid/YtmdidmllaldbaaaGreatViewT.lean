/- Texts and numbers that came in, opened; and the walk of arboretumbook.Short. -/
import Derived.Test.YtmdidmllaldbaaaGreatView
import Derived.Test.YtmdidmllaldbaaaGreatRoom
namespace Go.Proofs.YtmdidmllaldbaaaGreat
open Go.ChangeShapes Go.WideShapes Go.ChangeAt Go.RowKit Go.Deep
set_option linter.unusedVariables false
/-- A slice of texts that came in. -/
structure TextsIn (w : World) (ao : Option Addr) (n c : Nat) (ss : List ByteArray) : Prop where
  len : ss.length = n
  le : n ≤ c
  nil_ : ao = none → n = 0 ∧ c = 0
  sz : c * 16 ≤ 140737488351232
  ok : ∀ s ∈ ss, s.size ≤ 140737488351232
  cell : 0 < n → ∃ b o, ao = some ⟨b, o, none⟩ ∧ b < w.heap.size ∧ ∀ (k : Nat) (s : ByteArray), ss[k]? = some s → w.cell? ⟨b, o + k, none⟩ = some (.string s)
theorem TextsIn.get {w : World} {ao : Option Addr} {n c : Nat} {ss : List ByteArray} (h : TextsIn w ao n c ss) {k : Nat} (hk : k < n) :
    ∃ b o s, ao = some ⟨b, o, none⟩ ∧ b < w.heap.size ∧ ss[k]? = some s ∧ s.size ≤ 140737488351232 ∧ w.cell? ⟨b, o + k, none⟩ = some (.string s) := by
  obtain ⟨b, o, ha, hb, hc⟩ := h.cell (by omega)
  have hkl : k < ss.length := by rw [h.len]; exact hk
  exact ⟨b, o, ss[k], ha, hb, List.getElem?_eq_getElem hkl, h.ok _ (List.getElem_mem _), hc k _ (List.getElem?_eq_getElem hkl)⟩
section
variable {H : Type} {enc : TypeId × Value → H} {w : World}
theorem view_strings {ao : Option Addr} {n c : Nat} {d : DataW H} {p : List MemPlace}
    {ts : List TypeId} {ds : List (DataW H)} (hsz : (DataW.weightsEach Tryz.prog ts ds).all (· ≤ reachBytes) = true) {j : Nat} (hj1 : ts[j]? = some 224) (hj2 : ds[j]? = some d)
    (h : DataW.Trod enc Tryz.prog w 0 (fun _ => true) true 224 (.slice ao n c) d p) : ∃ ss, TextsIn w ao n c ss := by
  obtain ⟨ss, h1, h2, h3, h4, h5, h6⟩ := open_texts_at Tryz.underlying224 Tryz.underlying9 (by kernel_rfl) (by kernel_rfl) hsz hj1 hj2 h
  exact ⟨ss, h1, h2, h3, h4, h5, h6⟩
end
/-- Are texts few? -/
def ShortRes (few room : Int) (n sz : Nat) (w : World) (e : Ending) (w' : World) : Prop := ∃ r : Bool, e = .returned (.bool r) ∧ (r = true → (n : Int) ≤ few ∧ ((sz : Nat) : Int) ≤ room) ∧ Below w.heap.size w w'
end Go.Proofs.YtmdidmllaldbaaaGreat
