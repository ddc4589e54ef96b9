/- What program and document answer alike about items: the place of a key, and both parts; what stays while lists are kept. -/
import Derived.Test.YtmdidmllaldbaaaGreatRefLs
import Derived.Test.YtmdidmllaldbaaaGreatGetPI
import Derived.Test.YtmdidmllaldbaaaGreatBsPend
namespace Go.Proofs.YtmdidmllaldbaaaGreat
open Go.RowKit
set_option linter.unusedVariables false
theorem findI_uniq {l : List Itm} {key : ByteArray} {k k' : Nat} {is is' : Bool} (hr : RisingI l) (h : FindOkI l key k is) (h' : FindOkI l key k' is') : k' = k ∧ is' = is := by
  have one : ∀ {k k' : Nat} {is is' : Bool}, FindOkI l key k is → FindOkI l key k' is' → ¬ k < k' := by
    intro k k' is is' h h' hlt
    have hl' := h'.1
    obtain ⟨e, he⟩ : ∃ e, l[k]? = some e := ⟨_, List.getElem?_eq_getElem (by omega)⟩
    obtain ⟨e', he'⟩ : ∃ e, l[k' - 1]? = some e := ⟨_, List.getElem?_eq_getElem (by omega)⟩
    have h1 := h.2.2.1 e he
    have h2 := h'.2.1 e' (by omega) he'
    by_cases hk : k = k' - 1
    · rw [← hk, he] at he'
      injection he' with he'
      rw [he', h2] at h1
      cases h1
    · have h3 := hr.lt' (p := k) (q := k' - 1) (by omega) he he'
      have := ltB_trans h3 h2
      rw [h1] at this
      cases this
  have hk : k' = k := by
    have := one h h'
    have := one h' h
    omega
  subst hk
  refine ⟨rfl, ?_⟩
  rw [Bool.eq_iff_iff, h'.2.2.2, h.2.2.2]
theorem bestH_ex (l : List Itm) : ∀ i, 1 ≤ i → ∃ b, BestH l i b := by
  intro i
  induction i with
  | zero => intro h; omega
  | succ i ih =>
    intro _
    rcases Nat.eq_zero_or_pos i with rfl | hi
    · exact ⟨0, .inl ⟨rfl, rfl⟩⟩
    · obtain ⟨b, hb⟩ := ih hi
      by_cases h0 : b = 0
      · exact ⟨i, hb.take hi (.inl h0)⟩
      · by_cases h1 : partI l i < partI l b
        · exact ⟨i, hb.take hi (.inr h1)⟩
        · exact ⟨b, hb.stay hi h0 (by omega)⟩
theorem splitH_ex (l : List Itm) (h : 2 ≤ l.length) : ∃ k, SplitHOk l k := by
  obtain ⟨b, hb⟩ := bestH_ex l l.length (by omega)
  rcases hb with ⟨h1, _⟩ | ⟨h1, h2, h3⟩
  · omega
  · exact ⟨b, h1, h2, h3⟩
/-- Two lists, in rows of their own. -/
def PairResI (l1 l2 : List Itm) (n1 n2 : Nat) (w : World) (e : Ending) (w' : World) : Prop :=
  ∃ ao ca bo cb, e = .returned (.tuple #[.slice ao n1 ca, .slice bo n2 cb]) ∧ w'.ownsRow w.heap.size 133 4 (.slice ao n1 ca) n1 (itmCells l1) ∧ w'.ownsRow w.heap.size 133 4 (.slice bo n2 cb) n2 (itmCells l2) ∧ Below w.heap.size w w'
theorem splitI_both (l : List Itm) (n : Nat) (hl : l.length = n) (hn : n ≤ 1000) : ∃ l1 l2 n1 n2, l1.length = n1 ∧ l2.length = n2 ∧ n1 ≤ n ∧ n2 ≤ n ∧
    (∀ (W : World) (g d : Nat), ItmsOk W (some ⟨g, 0, none⟩) n l → n ≤ d → d ≤ 9223372036854775807 → Calls Tryz.prog 109 #[.slice (some ⟨g, 0, none⟩) n d] W fun e w' =>
      ∃ ao ca bo cb, e = .returned (.tuple #[.slice ao n1 ca, .slice bo n2 cb]) ∧ w'.ownsRow W.heap.size 133 4 (.slice ao n1 ca) n1 (itmCells l1) ∧ w'.ownsRow W.heap.size 133 4 (.slice bo n2 cb) n2 (itmCells l2) ∧ Below W.heap.size W w' ∧ ∀ g, (Value.slice ao n1 ca).ownBlock = some g → (Value.slice bo n2 cb).ownBlock ≠ some g) ∧
    (∀ (W : World) (ao : Option Addr) (c : Nat), ItmsOk W ao n l → n ≤ c → c ≤ 9223372036854775807 → (ao = none → n = 0 ∧ c = 0) → Calls Tryz.prog 110 #[.slice ao n c] W (PairResI l1 l2 n1 n2 W)) := by
  by_cases h2 : n < 2
  · refine ⟨l, [], n, 0, hl, rfl, Nat.le_refl _, by omega, fun W g d h hd hd2 => ?_, fun W ao c h hc hc2 hn0 => ?_⟩
    · refine (splitI_few ⟨h.itms, fun h => by cases h⟩ h2).mono ?_
      rintro e w' ⟨a, ca, rfl, ho, hb⟩
      exact ⟨a, ca, none, 0, rfl, ho, World.ownsRow_nil _ _ _ _, hb, fun g _ h => by cases h⟩
    · refine (rsplitI_few ⟨h.itms, hn0⟩ h2).mono ?_
      rintro e w' ⟨a, ca, rfl, ho, hb⟩
      exact ⟨a, ca, none, 0, rfl, ho, World.ownsRow_nil _ _ _ _, hb⟩
  · obtain ⟨k, hk⟩ := splitH_ex l (by omega)
    refine ⟨l.take k, l.drop k, k, n - k, by rw [List.length_take]; have := hk.2.1; omega, by rw [List.length_drop, hl], by have := hk.2.1; omega, by omega, fun W g d h hd hd2 => ?_, fun W ao c h hc hc2 hn0 => ?_⟩
    · refine (splitH_any h hd hd2 (by omega)).mono ?_
      rintro e w' ⟨k', a, ca, b, cb, rfl, hk', ho1, ho2, hb, hap⟩
      obtain rfl : k' = k := splitH_uniq hk'.2.2 hk.2.2 ⟨hk'.1, hk'.2.1⟩ ⟨hk.1, hk.2.1⟩
      exact ⟨a, ca, b, cb, rfl, ho1, ho2, hb, hap⟩
    · obtain ⟨b, o, rfl, _, _⟩ := h.itms.2 (by omega)
      refine (rsplitI_any h hc hc2 (by omega) (by omega)).mono ?_
      rintro e w' ⟨k', a, ca, b, cb, rfl, hk', ho1, ho2, hb⟩
      obtain rfl : k' = k := splitH_uniq hk'.2.2 hk.2.2 ⟨hk'.1, hk'.2.1⟩ ⟨hk.1, hk.2.1⟩
      exact ⟨a, ca, b, cb, rfl, ho1, ho2, hb⟩
theorem Kp.below {N : Nat} {W0 W W' : World} {o : Nat → Tag} (h : Kp N W0 W o) (hb : Below W.heap.size W W') : Kp N W0 W' o :=
  ⟨Nat.le_trans h.size hb.size, fun g h1 h2 => (hb.block g (Nat.lt_of_lt_of_le h2 h.size)).trans (h.same g h1 h2), h.ns⟩
theorem Kp.agree {N M : Nat} {W0 W : World} {o o' : Nat → Tag} (h : Kp N W0 W o) (ha : Agree o o' M) (hM : W0.heap.size ≤ M) : Kp N W0 W o' :=
  ⟨h.size, h.same, fun g h1 h2 => by rw [ha g (by omega)]; exact h.ns g h1 h2⟩
theorem getI_len (b : List UInt8) : (getI b).1.length ≤ b.length := by
  rcases getI_code b with h | ⟨_, h⟩
  · have h1 := getI_inv h
    have h2 := putI_good (l := (getI b).1) (by rw [h1])
    have h3 := h2.2.2.1
    rw [h1] at h3
    injection h3 with h3 _
    have h4 := layI_ge (getI b).1
    rw [← h3] at h4
    omega
  · rw [h]; exact Nat.zero_le _
theorem itms_oneA {W : World} {x : Itm} : Itms (W.alloc (.cells #[.string x.key, .string x.vl, .int .i64 x.ov, .int .i64 x.sz] 133)) (W.heap.size + 1) (some ⟨W.heap.size, 0, none⟩) 1 [x] :=
  ⟨rfl, fun _ => ⟨W.heap.size, 0, rfl, by omega, fun k e hk => by
    rcases k with _ | k
    · obtain rfl : x = e := by simpa using hk
      have h := heap_alloc_new W (.cells #[.string x.key, .string x.vl, .int .i64 x.ov, .int .i64 x.sz] 133)
      exact ⟨by rw [blk_cell h]; rfl, by rw [blk_cell h]; rfl, by rw [blk_cell h]; rfl, by rw [blk_cell h]; rfl⟩
    · simp at hk⟩⟩
end Go.Proofs.YtmdidmllaldbaaaGreat
