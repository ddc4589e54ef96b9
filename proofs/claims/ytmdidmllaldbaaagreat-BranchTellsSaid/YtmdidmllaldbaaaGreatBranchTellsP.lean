/- What program and document answer alike about children: Replace and Split. -/
import Derived.Test.YtmdidmllaldbaaaGreatRefCb
namespace Go.Proofs.YtmdidmllaldbaaaGreat
open Go.RowKit
set_option linter.unusedVariables false
theorem bestF_ex (l : List Chd) : ∀ i, 1 ≤ i → ∃ b, BestF l i b := by
  intro i
  induction i with
  | zero => intro h; omega
  | succ i ih =>
    intro _
    rcases Nat.eq_zero_or_pos i with rfl | hi
    · exact ⟨0, .inl ⟨rfl, rfl⟩⟩
    · obtain ⟨b, hb⟩ := ih hi
      by_cases h0 : b = 0
      · exact ⟨i, hb.take hi (.inl h0)⟩
      · by_cases h1 : partC l i < partC l b
        · exact ⟨i, hb.take hi (.inr h1)⟩
        · exact ⟨b, hb.stay hi h0 (by omega)⟩
theorem splitF_ex (l : List Chd) (h : 2 ≤ l.length) : ∃ k, SplitFOk l k := by
  obtain ⟨b, hb⟩ := bestF_ex l l.length (by omega)
  rcases hb with ⟨h1, _⟩ | ⟨h1, h2, h3⟩
  · omega
  · exact ⟨b, h1, h2, h3⟩
/-- Two lists, in rows of their own. -/
def PairRes (l1 l2 : List Chd) (n1 n2 : Nat) (w : World) (e : Ending) (w' : World) : Prop :=
  ∃ ao ca bo cb, e = .returned (.tuple #[.slice ao n1 ca, .slice bo n2 cb]) ∧ w'.ownsRow w.heap.size 192 2 (.slice ao n1 ca) n1 (chdCells l1) ∧ w'.ownsRow w.heap.size 192 2 (.slice bo n2 cb) n2 (chdCells l2) ∧ Below w.heap.size w w'
theorem split_both (l : List Chd) (n : Nat) (hl : l.length = n) (hn : n ≤ 1000) : ∃ l1 l2 n1 n2, l1.length = n1 ∧ l2.length = n2 ∧ n1 ≤ n ∧ n2 ≤ n ∧
    (∀ (W : World) (g d : Nat), ChdsOk W (some ⟨g, 0, none⟩) n l → n ≤ d → d ≤ 9223372036854775807 → Calls Tryz.prog 41 #[.slice (some ⟨g, 0, none⟩) n d] W fun e w' =>
      ∃ ao ca bo cb, e = .returned (.tuple #[.slice ao n1 ca, .slice bo n2 cb]) ∧ w'.ownsRow W.heap.size 192 2 (.slice ao n1 ca) n1 (chdCells l1) ∧ w'.ownsRow W.heap.size 192 2 (.slice bo n2 cb) n2 (chdCells l2) ∧ Below W.heap.size W w' ∧ ∀ g, (Value.slice ao n1 ca).ownBlock = some g → (Value.slice bo n2 cb).ownBlock ≠ some g) ∧
    (∀ (W : World) (ao : Option Addr) (c : Nat), ChdsOk W ao n l → n ≤ c → c ≤ 9223372036854775807 → (ao = none → n = 0 ∧ c = 0) → Calls Tryz.prog 42 #[.slice ao n c] W (PairRes l1 l2 n1 n2 W)) := by
  by_cases h2 : n < 2
  · refine ⟨l, [], n, 0, hl, rfl, Nat.le_refl _, by omega, fun W g d h hd hd2 => ?_, fun W ao c h hc hc2 hn0 => ?_⟩
    · refine (splitC_few ⟨h.chds, fun h => by cases h⟩ h2).mono ?_
      rintro e w' ⟨a, ca, rfl, ho, hb⟩
      exact ⟨a, ca, none, 0, rfl, ho, World.ownsRow_nil _ _ _ _, hb, fun g _ h => by cases h⟩
    · refine (rsplitC_few ⟨h.chds, hn0⟩ h2).mono ?_
      rintro e w' ⟨a, ca, rfl, ho, hb⟩
      exact ⟨a, ca, none, 0, rfl, ho, World.ownsRow_nil _ _ _ _, hb⟩
  · obtain ⟨k, hk⟩ := splitF_ex l (by omega)
    refine ⟨l.take k, l.drop k, k, n - k, by rw [List.length_take]; have := hk.2.1; omega, by rw [List.length_drop, hl], by have := hk.2.1; omega, by omega, fun W g d h hd hd2 => ?_, fun W ao c h hc hc2 hn0 => ?_⟩
    · refine (splitF_any h hd hd2 (by omega)).mono ?_
      rintro e w' ⟨k', a, ca, b, cb, rfl, hk', ho1, ho2, hb, hap⟩
      obtain rfl : k' = k := splitF_uniq hk'.2.2 hk.2.2 ⟨hk'.1, hk'.2.1⟩ ⟨hk.1, hk.2.1⟩
      exact ⟨a, ca, b, cb, rfl, ho1, ho2, hb, hap⟩
    · obtain ⟨b, o, rfl, _, _⟩ := h.chds.2 (by omega)
      refine (rsplitC_any h hc hc2 (by omega) (by omega)).mono ?_
      rintro e w' ⟨k', a, ca, b, cb, rfl, hk', ho1, ho2, hb⟩
      obtain rfl : k' = k := splitF_uniq hk'.2.2 hk.2.2 ⟨hk'.1, hk'.2.1⟩ ⟨hk.1, hk.2.1⟩
      exact ⟨a, ca, b, cb, rfl, ho1, ho2, hb⟩
theorem replace_both (l xs : List Chd) (n m : Nat) (i : Int) (hl : l.length = n) (hx : xs.length = m) (hn : n ≤ 1000) (hm : m ≤ 1000) (hi : -9223372036854775808 ≤ i ∧ i ≤ 9223372036854775807) : ∃ L N, L.length = N ∧ N ≤ 2000 ∧
    (∀ (W : World) (ao bo : Option Addr) (c d : Nat), ChSrc W W.heap.size ao n c l → ChSrc W W.heap.size bo m d xs → n ≤ c → c ≤ 9223372036854775807 → Calls Tryz.prog 40 #[.slice ao n c, .int .i64 i, .slice bo m d] W (OwnsChds W.heap.size N L W)) ∧
    (∀ (W : World) (ao bo : Option Addr) (c d : Nat), ChSrc W W.heap.size ao n c l → ChSrc W W.heap.size bo m d xs → n ≤ c → c ≤ 9223372036854775807 → Calls Tryz.prog 48 #[.slice ao n c, .int .i64 i, .slice bo m d] W (OwnsChds W.heap.size N L W)) := by
  by_cases h : i < 0 ∨ (n : Int) ≤ i
  · exact ⟨l, n, hl, by omega, fun W ao bo c d hE hX hc hc2 => replaceC_out (xs := xs) hE i hi h (by omega), fun W ao bo c d hE hX hc hc2 => rreplaceC_out (xs := xs) hE i hi h (by omega)⟩
  · obtain ⟨j, rfl⟩ : ∃ j : Nat, i = j := ⟨i.toNat, by omega⟩
    have hj : j < n := by omega
    refine ⟨replC l j xs, j + m + (n - (j + 1)), ?_, by omega, fun W ao bo c d hE hX hc hc2 => replace_any hE.chds hc hc2 j hj hX (by omega), fun W ao bo c d hE hX hc hc2 => ?_⟩
    · unfold replC
      rw [clear0_len, List.length_append, List.length_append, List.length_take, List.length_drop, hl, hx]
      omega
    · obtain ⟨b, o, rfl, _, _⟩ := hE.chds.2 (by omega)
      exact rreplaceC_in hE.chds hc hc2 j hj hX (by omega)
end Go.Proofs.YtmdidmllaldbaaaGreat
