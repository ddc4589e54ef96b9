/- A struct of one-cell fields that came in by value, opened: its fields' values, and what its texts weigh. -/
import Derived.Test.YtmdidmllaldbaaaView
namespace Go.Proofs.Ytmdidmllaldbaaa
open Go.ChangeShapes Go.WideShapes Go.ChangeAt Go.RowKit Go.Deep
section
variable {H : Type} {enc : TypeId × Value → H} {P : Program} {w : World} {base : Nat} {spare : Nat → Bool} {held : Bool}
theorem open_struct {r : Reach} {b0 : Nat} {t : TypeId} {fs : Array Field} {v : Value} {d : DataW H} {p : List MemPlace} (hs : P.underlying t = some (.struct fs)) (hone : oneCellFields P fs = true) (hC : P.cellsOf t = fs.size)
    (hv : Value.okWide P w r b0 t v) (h : DataW.Trod enc P w base spare held t v d p) :
    ∃ (cs : List Value) (ys : List (DataW H × List MemPlace)) (n : Nat), v = .agg cs.toArray ∧ cs.length = fs.size ∧ d = .agg (ys.map (·.1)) ∧ ys.length = fs.size ∧
      ∀ (j : Nat) (f : Field), fs[j]? = some f → ∃ (c : Value) (y : DataW H × List MemPlace), cs[j]? = some c ∧ ys[j]? = some y ∧ DataW.trod enc P w base spare held n f.type [c] = some y := by
  obtain ⟨cs, rfl, hsz⟩ := okWide_struct hs hv
  obtain ⟨l⟩ := cs
  obtain ⟨fuel, hf⟩ := h
  obtain ⟨ys, n, _, hx, _, hlen, hg⟩ := DataW.trod_struct hs hf
  simp only [Prod.mk.injEq] at hx
  have hl : l.length = fs.size := hsz.trans hC
  refine ⟨l, ys, n, rfl, hl, hx.1, hlen, fun j f hj => ?_⟩
  obtain ⟨ho, hk⟩ := hone_of hone j f hj
  have hjl : j < fs.size := (Array.getElem?_eq_some_iff.1 hj).1
  have hjc : j < l.length := by omega
  have h1 := hg j f hj
  have e : (Value.agg ⟨l⟩).cells.toList = l := rfl
  rw [e, ho, hk, List.drop_eq_getElem_cons hjc] at h1
  have h2 : (l[j] :: l.drop (j + 1)).take 1 = [l[j]] := rfl
  rw [h2] at h1
  have hys : ys[j]? = some (ys[j]'(by omega)) := List.getElem?_eq_getElem (by omega)
  exact ⟨l[j], ys[j]'(by omega), List.getElem?_eq_getElem hjc, hys, h1.trans hys⟩
/-- A text in a struct that came in is within the reach. -/
theorem sized_part {ts : List TypeId} {ds : List (DataW H)} (h : (DataW.weightsEach P ts ds).all (· ≤ reachBytes) = true) {j : Nat} {t : TypeId} {fs : Array Field} {parts : List (DataW H)} (ht : ts[j]? = some t) (hd : ds[j]? = some (.agg parts)) (he : P.underlying t = some (.struct fs))
    {k : Nat} {f : Field} {bytes : List UInt8} (hf : fs[k]? = some f) (hp : parts[k]? = some (.lit (.string bytes))) : bytes.length ≤ reachBytes := by
  have := List.all_eq_true.1 h bytes.length (DataW.weights_mem_each ht hd _ (by
    rw [DataW.weights, he]
    exact DataW.weights_mem_each (j := k) (t := f.type) (by simp [hf]) hp _ (by simp [DataW.weights])))
  simpa using this
end
end Go.Proofs.Ytmdidmllaldbaaa
