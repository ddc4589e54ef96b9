/- Parts of items; a row of the call's own, from an earlier block on. -/
import Derived.Test.YtopefaeemkemiaaItB
namespace Go.Proofs.Ytopefaeemkemiaa
open Go.RowKit
theorem Itms.take {w : World} {B n : Nat} {b o : Nat} {l : List Itm} (h : Itms w B (some ⟨b, o, none⟩) n l) {i : Nat} (hi : i ≤ n) : Itms w B (some ⟨b, o, none⟩) i (l.take i) := by
  refine ⟨by rw [List.length_take, h.1]; omega, fun h0 => ?_⟩
  obtain ⟨b', o', ha, hb, hc⟩ := h.2 (by omega)
  injection ha with ha
  injection ha with h1 h2
  subst h1 h2
  refine ⟨b, o, rfl, hb, fun k e hk => hc k e ?_⟩
  rw [List.getElem?_take] at hk
  split at hk
  · exact hk
  · cases hk
theorem Itms.drop {w : World} {B n : Nat} {b o : Nat} {l : List Itm} (h : Itms w B (some ⟨b, o, none⟩) n l) {i : Nat} (hi : i ≤ n) : Itms w B (some ⟨b, o + i * 4, none⟩) (n - i) (l.drop i) := by
  refine ⟨by rw [List.length_drop, h.1], fun h0 => ?_⟩
  obtain ⟨b', o', ha, hb, hc⟩ := h.2 (by omega)
  injection ha with ha
  injection ha with h1 h2
  subst h1 h2
  refine ⟨b, o + i * 4, rfl, hb, fun k e hk => ?_⟩
  rw [List.getElem?_drop] at hk
  have := hc (i + k) e hk
  rw [show o + i * 4 + k * 4 = o + (i + k) * 4 from by omega]
  exact this
theorem own_mono {w : World} {base base' : Nat} {e : TypeId} {size n : Nat} {v : Value} {xs : List Value} (h : w.ownsRow base e size v n xs) (hb : base' ≤ base) : w.ownsRow base' e size v n xs := by
  refine ⟨h.1, ?_⟩
  rcases h.2 with hn | ⟨g, cap, cur, rfl, hbg, rest⟩
  · exact .inl hn
  · exact .inr ⟨g, cap, cur, rfl, Nat.le_trans hb hbg, rest⟩
end Go.Proofs.Ytopefaeemkemiaa
