/- The walk of leaf.Split: the first of the best places, in rows apart. -/
import Derived.Test.YtmdidmllaldbaaaGreatSplitI
import Derived.Test.YtmdidmllaldbaaaGreatPutI
import Derived.Test.YtmdidmllaldbaaaGreatRefS
import Derived.Test.YtmdidmllaldbaaaGreatRefLg
import Derived.Test.YtmdidmllaldbaaaGreatSetI
import Derived.Deep.DeepCutAuto
import Derived.Deep.RegionLaw
namespace Go.Proofs.YtmdidmllaldbaaaGreat
/-! ### The walk of leaf.Split: the first of the best places, in rows apart. -/
section
open Go.RowKit
set_option linter.unusedVariables false
/-- A slice of items from outside, below a block. -/
structure ItSrc (w : World) (B : Nat) (ao : Option Addr) (n c : Nat) (l : List Itm) : Prop where
  itms : Itms w B ao n l
  nil_ : ao = none → n = 0 ∧ c = 0
/-- A source, in whatever later world. -/
theorem itms_src {w : World} {ad : Addr} {n : Nat} {l : List Itm} (h : Itms w w.heap.size (some ad) n l) : ∀ W, Below w.heap.size w W → ∀ j u, (itmCells l)[j]? = some u → W.cell? (ad.add j) = some u := fun W hb => (h.below hb).cells
/-- The best place so far. -/
def BestH (l : List Itm) (i best : Nat) : Prop := (i = 1 ∧ best = 0) ∨ (1 ≤ best ∧ best < i ∧ ∀ j, 1 ≤ j → j < i → partI l best ≤ partI l j ∧ (j < best → partI l best < partI l j))
theorem BestH.stay {l : List Itm} {i best : Nat} (h : BestH l i best) (hi : 1 ≤ i) (h0 : best ≠ 0) (hb : partI l best ≤ partI l i) : BestH l (i + 1) best := by
  rcases h with ⟨_, h⟩ | ⟨h1, h2, h3⟩
  · exact absurd h h0
  · refine .inr ⟨h1, by omega, fun j a b => ?_⟩
    by_cases hj : j < i
    · exact h3 j a hj
    · obtain rfl : j = i := by omega
      exact ⟨hb, fun h => by omega⟩
theorem BestH.take {l : List Itm} {i best : Nat} (h : BestH l i best) (hi : 1 ≤ i) (hb : best = 0 ∨ partI l i < partI l best) : BestH l (i + 1) i := by
  refine .inr ⟨hi, by omega, fun j a b => ?_⟩
  by_cases hj : j < i
  · rcases h with ⟨h, _⟩ | ⟨h1, h2, h3⟩
    · omega
    · have := (h3 j a hj).1
      rcases hb with hb | hb
      · omega
      · exact ⟨by omega, fun _ => by omega⟩
  · obtain rfl : j = i := by omega
    exact ⟨Nat.le_refl _, fun h => by omega⟩
theorem splitH_uniq {l : List Itm} {a b : Nat} (h : ∀ j, 1 ≤ j → j < l.length → partI l a ≤ partI l j ∧ (j < a → partI l a < partI l j)) (k : ∀ j, 1 ≤ j → j < l.length → partI l b ≤ partI l j ∧ (j < b → partI l b < partI l j)) (ha : 1 ≤ a ∧ a < l.length) (hb : 1 ≤ b ∧ b < l.length) : a = b := by
  have h1 := h b hb.1 hb.2
  have h2 := k a ha.1 ha.2
  rcases Nat.lt_trichotomy a b with hlt | he | hlt
  · have := h2.2 hlt; omega
  · exact he
  · have := h1.2 hlt; omega
def SplitHOk (l : List Itm) (k : Nat) : Prop := 1 ≤ k ∧ k < l.length ∧ ∀ j, 1 ≤ j → j < l.length → partI l k ≤ partI l j ∧ (j < k → partI l k < partI l j)
/-- The same, in blocks of their own. -/
def SplitHRes (l : List Itm) (n : Nat) (w : World) (e : Ending) (w' : World) : Prop :=
  ∃ (k : Nat) (ao : Option Addr) (ca : Nat) (bo : Option Addr) (cb : Nat), e = .returned (.tuple #[.slice ao k ca, .slice bo (n - k) cb]) ∧ SplitHOk l k ∧
    w'.ownsRow w.heap.size 133 4 (.slice ao k ca) k (itmCells (l.take k)) ∧ w'.ownsRow w.heap.size 133 4 (.slice bo (n - k) cb) (n - k) (itmCells (l.drop k)) ∧ Below w.heap.size w w' ∧ ∀ g, (Value.slice ao k ca).ownBlock = some g → (Value.slice bo (n - k) cb).ownBlock ≠ some g
set_option maxRecDepth 100000 in
set_option maxHeartbeats 8000000 in
theorem splitH_any {w : World} {b o n c : Nat} {l : List Itm} (h : ItmsOk w (some ⟨b, o, none⟩) n l) (hnc : n ≤ c) (hc : c ≤ 9223372036854775807) (h2 : 2 ≤ n) :
    Calls Tryz.prog 109 #[.slice (some ⟨b, o, none⟩) n c] w (SplitHRes l n w) := by
  have HSa : Hid (∀ i, i ≤ n → ∀ W, Below w.heap.size w W → Calls Tryz.prog 99 #[.slice (some ⟨b, o, none⟩) i c] W fun e w' => e = .returned (.int .i64 (layI (l.take i)).length) ∧ Below W.heap.size W w') := Lib.hid (fun i hi W hW => sizeI_any ((h.below hW).takeI hi))
  have HSb : Hid (∀ i c2, i ≤ n → ∀ W, Below w.heap.size w W → Calls Tryz.prog 99 #[.slice (some ⟨b, o + i * 4, none⟩) (n - i) c2] W fun e w' => e = .returned (.int .i64 (layI (l.drop i)).length) ∧ Below W.heap.size W w') := Lib.hid (fun i c2 hi W hW => sizeI_any ((h.below hW).dropI hi))
  have HCa : Hid (∀ i, i ≤ n → ∀ W, Below w.heap.size w W → Calls Tryz.prog 208 #[.slice (some ⟨b, o, none⟩) i c] W (OwnsItms W.heap.size i (l.take i) W)) := Lib.hid (fun i hi W hW => cloneI_any _ _ _ _ _ ((h.below hW).takeI hi).itms (by have := h.few; omega) (fun h => by cases h))
  have HCb : Hid (∀ i c2, i ≤ n → ∀ W, Below w.heap.size w W → Calls Tryz.prog 208 #[.slice (some ⟨b, o + i * 4, none⟩) (n - i) c2] W (OwnsItms W.heap.size (n - i) (l.drop i) W)) := Lib.hid (fun i c2 hi W hW => cloneI_any _ _ _ _ _ ((h.below hW).dropI hi).itms (by have := h.few; omega) (fun h => by cases h))
  have HLn := Lib.hid h.len
  have hn2 : n ≤ 2000000 := h.few
  have HBy : Hid (∀ i, (layI (l.take i)).length ≤ 17600000000000 ∧ (layI (l.drop i)).length ≤ 17600000000000) := Lib.hid (fun i => by
    have h1 := h.bytes
    have e : layI l = layI (l.take i) ++ layI (l.drop i) := by rw [← layI_append, List.take_append_drop]
    rw [e, List.length_append] at h1
    omega)
  clear h
  go_enter Tryz.func109, Tryz.ntmps109
  go_wp2_with fail
  go_loopw [4, 5, 6] (fun x y z wr => ∃ (best i size : Nat), x = .int .i64 best ∧ y = .int .i64 size ∧ z = .int .i64 i ∧ 1 ≤ i ∧ i ≤ n ∧ best ≤ n ∧ Hid (BestH l i best) ∧ Hid (best ≠ 0 → size = partI l best) ∧ size ≤ 17600000000000 ∧ Hid (Below w.heap.size w wr)) (fun _ _ z _ => n - (intOf z).toNat)
  case atStart => exact ⟨0, 1, 0, rfl, rfl, rfl, Nat.le_refl _, by omega, by omega, Lib.hid (.inl ⟨rfl, rfl⟩), Lib.hid (fun h => absurd rfl h), by omega, Lib.hid (Below.refl _ _)⟩
  case round =>
    obtain ⟨best, i, size, rfl, rfl, rfl, hi1, hin, hbn, HBs, HSz, hsz, HB⟩ := hrel
    by_cases hlt : i < n
    · have x1 : (0 : Int) ≤ i := by omega
      have x2 : (i : Int) ≤ c := by omega
      have x3 : (i : Int) ≤ n := by omega
      have x4 : ¬ i = c := by omega
      have x5 : (n : Int) ≤ c := by omega
      have hby := HBy.out i
      have HA := Lib.hid (HSa.out i (by omega))
      have HD := Lib.hid (HSb.out i (c - i) (by omega))
      obtain ⟨La, hLa⟩ : ∃ L, L = (layI (l.take i)).length := ⟨_, rfl⟩
      obtain ⟨Lb, hLb⟩ : ∃ L, L = (layI (l.drop i)).length := ⟨_, rfl⟩
      rw [← hLa] at HA hby
      rw [← hLb] at HD hby
      have HPt : Hid (partI l i = max La Lb) := Lib.hid (by unfold partI; rw [hLa, hLb])
      clear hLa hLb
      obtain ⟨hba, hbb⟩ := hby
      have hbr := HB.out
      go_wp2_with fail
      go_cut [7] from 13 to 36 (fun s wx => ∃ M : Nat, s = .int .i64 M ∧ Hid (M = partI l i) ∧ M ≤ 17600000000000 ∧ Hid (Below w.heap.size w wx))
      case first =>
        go_region_with (first
          | (go_at_call 99; ((with_reducible refine (HA.out _ (by (first | exact hbr | exact hbr.drew | exact hv5 | exact hv6))).mono ?_); rintro e5 w5 ⟨rfl, hb5⟩; have hv5 : Below w.heap.size w w5 := (by first | exact hbr.trans (hb5.mono hbr.size) | exact (hbr.drew).trans (hb5.mono hbr.size) | exact hv6.trans (hb5.mono hv6.size))))
          | (go_at_call 99; ((with_reducible refine (HD.out _ (by (first | exact hbr | exact hbr.drew | exact hv5 | exact hv6))).mono ?_); rintro e6 w6 ⟨rfl, hb6⟩; have hv6 : Below w.heap.size w w6 := (by first | exact hbr.trans (hb6.mono hbr.size) | exact (hbr.drew).trans (hb6.mono hbr.size) | exact hv5.trans (hb6.mono hv5.size)))))
        all_goals (
          have hz : Below w.heap.size w w5 ∧ Below w.heap.size w w6 := ⟨hv5, hv6⟩
          go_wp2_with fail
          all_goals (
            go_meet
            exact ⟨_, rfl, Lib.hid (by rw [HPt.out]; omega), by omega, Lib.hid (by first | exact hz.1 | exact hz.2)⟩))
      case rest =>
        obtain ⟨M, rfl, HM, hM, HBw⟩ := hcut
        clear HA HD hba hbb hbr HB
        by_cases hb0 : best = 0
        · have d0 : ((best : Int) == 0) = true := by rw [hb0]; rfl
          have HN := Lib.hid (HBs.out.take hi1 (.inl hb0))
          clear hb0
          go_wp2_with fail
          go_roundw
          case rel => exact ⟨i, i + 1, M, rfl, rfl, by go_num, by omega, by omega, by omega, HN, Lib.hid (fun _ => HM.out), hM, HBw⟩
          case measure => simp [intOf]; omega
        · have d0 : ((best : Int) == 0) = false := by simpa using hb0
          by_cases hMs : M < size
          · have d1 : decide (M < size) = true := by simpa using hMs
            have HN := Lib.hid (HBs.out.take hi1 (.inr (by rw [← HM.out, ← HSz.out hb0]; exact hMs)))
            clear hb0
            go_wp2_with fail
            go_roundw
            case rel => exact ⟨i, i + 1, M, rfl, rfl, by go_num, by omega, by omega, by omega, HN, Lib.hid (fun _ => HM.out), hM, HBw⟩
            case measure => simp [intOf]; omega
          · have d1 : decide (M < size) = false := by simpa using hMs
            have HN := Lib.hid (HBs.out.stay hi1 hb0 (by rw [← HM.out, ← HSz.out hb0]; omega))
            clear hb0
            go_wp2_with fail
            go_roundw
            case rel => exact ⟨best, i + 1, size, rfl, rfl, by go_num, by omega, by omega, by omega, HN, HSz, hsz, HBw⟩
            case measure => simp [intOf]; omega
    · obtain rfl : i = n := by omega
      have hok : SplitHOk l best ∧ best ≠ 0 ∧ best < i := by
        rcases HBs.out with ⟨h1, _⟩ | ⟨h1, h2', h3⟩
        · omega
        · exact ⟨⟨h1, by rw [HLn.out]; exact h2', fun j a b' => h3 j a (by rw [HLn.out] at b'; exact b')⟩, by omega, h2'⟩
      obtain ⟨hok1, hok2, hok3⟩ := hok
      have HOk := Lib.hid hok1
      have x1 : (0 : Int) ≤ best := by omega
      have x2 : (best : Int) ≤ c := by omega
      have x3 : (best : Int) ≤ i := by omega
      have x4 : ¬ best = c := by omega
      have x5 : (i : Int) ≤ c := by omega
      have HA := Lib.hid (HCa.out best (by omega))
      have HD := Lib.hid (HCb.out best (c - best) (by omega))
      have hbr := HB.out
      clear hok1 HSz HBs HCa HCb HSa HSb HB
      go_wp2_with fail
      go_region_with (first
        | (go_at_call 208; ((with_reducible refine (HA.out _ (by (first | exact hbr | exact hbr.drew | exact hv5 | exact hv6))).mono ?_); rintro e5 w5 ⟨a5, c5, rfl, ho5, hb5⟩; have hv5 : Below w.heap.size w w5 := (by first | exact hbr.trans (hb5.mono hbr.size) | exact (hbr.drew).trans (hb5.mono hbr.size) | exact hv6.trans (hb5.mono hv6.size)); have HO5 := own_mono ho5 (by first | exact hbr.size | exact hv6.size)))
        | (go_at_call 208; ((with_reducible refine (HD.out _ (by (first | exact hbr | exact hbr.drew | exact hv5 | exact hv6))).mono ?_); rintro e6 w6 ⟨a6, c6, rfl, ho6, hb6⟩; have hv6 : Below w.heap.size w w6 := (by first | exact hbr.trans (hb6.mono hbr.size) | exact (hbr.drew).trans (hb6.mono hbr.size) | exact hv5.trans (hb6.mono hv5.size)); have HO6 := own_mono ho6 (by first | exact hbr.size | exact hv5.size))))
      all_goals (
        have HP5 := Lib.hid HO5
        have HP6 := Lib.hid HO6
        have HV := Lib.hid (And.intro hv5 hv6)
        have hap : ∀ g, (Value.slice a5 best c5).ownBlock = some g → (Value.slice a6 (i - best) c6).ownBlock ≠ some g := by first | exact (apart_of ho5 ho6 (Nat.le_refl _)).1 | exact (apart_of ho6 ho5 (Nat.le_refl _)).2 | exact (apart_of ho5 ho6 (by simp)).1 | exact (apart_of ho6 ho5 (by simp)).2
        clear HO5 HO6 hv5 hv6 ho5 ho6 HA HD hbr
        go_wp2_with fail
        go_ret2
        exact ⟨best, a5, c5, a6, c6, rfl, HOk.out, (by first | exact HP5.out | exact own_below HP5.out hb6), (by first | exact HP6.out | exact own_below HP6.out hb5), (by first | exact HV.out.1 | exact HV.out.2), hap⟩)
end
/-! ### The walk of arboretumref7's SplitLeaf, and of leaf.Split of one item and of none. -/
section
section
open Go.RowKit
set_option linter.unusedVariables false
set_option linter.unusedSimpArgs false
/-- What both answer of less than two items. -/
def FewResI (l : List Itm) (n : Nat) (w : World) (e : Ending) (w' : World) : Prop :=
  ∃ ao ca, e = .returned (.tuple #[.slice ao n ca, .slice none 0 0]) ∧ w'.ownsRow w.heap.size 133 4 (.slice ao n ca) n (itmCells l) ∧ Below w.heap.size w w'
/-- What the document's Split answers of two items and more. -/
def SplitJRes (l : List Itm) (n : Nat) (w : World) (e : Ending) (w' : World) : Prop :=
  ∃ (k : Nat) (ao : Option Addr) (ca : Nat) (bo : Option Addr) (cb : Nat), e = .returned (.tuple #[.slice ao k ca, .slice bo (n - k) cb]) ∧ SplitHOk l k ∧
    w'.ownsRow w.heap.size 133 4 (.slice ao k ca) k (itmCells (l.take k)) ∧ w'.ownsRow w.heap.size 133 4 (.slice bo (n - k) cb) (n - k) (itmCells (l.drop k)) ∧ Below w.heap.size w w'
set_option maxRecDepth 20000 in
set_option maxHeartbeats 2000000 in
theorem splitI_few {w : World} {ao : Option Addr} {n c : Nat} {l : List Itm} (hE : ItSrc w w.heap.size ao n c l) (hn : n < 2) :
    Calls Tryz.prog 109 #[.slice ao n c] w (FewResI l n w) := by
  have HCl := Lib.hid (cloneI_any ao n c l w hE.itms (by omega) (fun h => (hE.nil_ h).1))
  have h1 : (n : Int) < 2 := by omega
  clear hE
  go_enter Tryz.func109, Tryz.ntmps109
  go_wp2_with fail
  refine HCl.out.mono ?_
  rintro e w1 ⟨a1, c1, rfl, ho, hb⟩
  go_wp2_with fail
  go_ret2
  exact ⟨a1, c1, rfl, ho, hb⟩
set_option maxRecDepth 20000 in
set_option maxHeartbeats 2000000 in
theorem rsplitI_few {w : World} {ao : Option Addr} {n c : Nat} {l : List Itm} (hE : ItSrc w w.heap.size ao n c l) (hn : n < 2) :
    Calls Tryz.prog 110 #[.slice ao n c] w (FewResI l n w) := by
  obtain ⟨i0, hii, hz0, hz1, hz2⟩ := info_parts itmInfo
  have hll := hE.itms.1
  have h1 : (n : Int) < 2 := by omega
  cases ao with
  | none =>
    obtain ⟨hn0, hc0⟩ := hE.nil_ rfl
    subst hn0 hc0
    have hl0 : l = [] := List.eq_nil_of_length_eq_zero hll
    subst hl0
    clear hE hll
    go_enter Tryz.func110, Tryz.ntmps110
    go_wp2_with (at_builtin; refine wpList_append_own_none rfl (.const (.slice none 0 0)) (.tmp 11) 131 rfl w.heap.size 133 i0 4 Tryz.underlying131 hii _ 0 [] rfl (World.ownsRow_nil _ _ _ _) rfl ?_)
    go_ret2
    exact ⟨none, 0, rfl, World.ownsRow_nil _ _ _ _, Below.refl _ _⟩
  | some ad =>
    have HC := Lib.hid (itms_src hE.itms)
    have HLen : Hid ((itmCells l).length = n * 4) := Lib.hid (by rw [itmCells_len, hll])
    clear hE hll
    go_enter Tryz.func110, Tryz.ntmps110
    go_wp2_with (at_builtin; refine wpList_append_own_at _ rfl (.const (.slice none 0 0)) (.tmp 11) 131 rfl w.heap.size 133 i0 _ 4 48 Tryz.underlying131 hii hz0 hz1 hz2 rfl (by omega) _ 0 [] rfl (World.ownsRow_nil _ _ _ _) ad n c (itmCells l) rfl HLen.out (HC.out _ (Below.refl _ _)) (itmCells_one l) (by unfold maxLen; omega) (by omega) (by simp) ?_; intro v1 w8 hown8 hg8 _ _; rw [Nat.zero_add, List.nil_append] at hown8; obtain ⟨a8, c8, hv8, _⟩ := own_shape hown8; subst hv8; have HO8 := Lib.hid hown8; have HB8 := Lib.hid ((Below.refl w.heap.size w).grown hg8 (by simp) (fun k hk => by cases hk)); clear hown8 hg8)
    go_ret2
    exact ⟨a8, c8, rfl, HO8.out, HB8.out⟩
set_option maxRecDepth 100000 in
set_option maxHeartbeats 8000000 in
theorem rsplitI_any {w : World} {b o n c : Nat} {l : List Itm} (h : ItmsOk w (some ⟨b, o, none⟩) n l) (hnc : n ≤ c) (hc : c ≤ 9223372036854775807) (h2 : 2 ≤ n) (hn : n ≤ 1000000) :
    Calls Tryz.prog 110 #[.slice (some ⟨b, o, none⟩) n c] w (SplitJRes l n w) := by
  obtain ⟨i0, hii, hz0, hz1, hz2⟩ := info_parts itmInfo
  have HSa : Hid (∀ i, i ≤ n → ∀ W, Below w.heap.size w W → Calls Tryz.prog 100 #[.slice (some ⟨b, o, none⟩) i c] W fun e w' => e = .returned (.int .i64 (layI (l.take i)).length) ∧ Below W.heap.size W w') := Lib.hid (fun i hi W hW => rsizeI_any ((h.below hW).takeI hi))
  have HSb : Hid (∀ i c2, i ≤ n → ∀ W, Below w.heap.size w W → Calls Tryz.prog 100 #[.slice (some ⟨b, o + i * 4, none⟩) (n - i) c2] W fun e w' => e = .returned (.int .i64 (layI (l.drop i)).length) ∧ Below W.heap.size W w') := Lib.hid (fun i c2 hi W hW => rsizeI_any ((h.below hW).dropI hi))
  have HTa : Hid (∀ i, i ≤ n → ∀ W, Below w.heap.size w W → ∀ j u, (itmCells (l.take i))[j]? = some u → W.cell? ((⟨b, o, none⟩ : Addr).add j) = some u) := Lib.hid (fun i hi => itms_src (h.itms.take hi))
  have HTb : Hid (∀ i, i ≤ n → ∀ W, Below w.heap.size w W → ∀ j u, (itmCells (l.drop i))[j]? = some u → W.cell? ((⟨b, o + i * 4, none⟩ : Addr).add j) = some u) := Lib.hid (fun i hi => itms_src (h.itms.drop hi))
  have HLn := Lib.hid h.len
  have HBy : Hid (∀ i, (layI (l.take i)).length ≤ 17600000000000 ∧ (layI (l.drop i)).length ≤ 17600000000000) := Lib.hid (fun i => by
    have h1 := h.bytes
    have e : layI l = layI (l.take i) ++ layI (l.drop i) := by rw [← layI_append, List.take_append_drop]
    rw [e, List.length_append] at h1
    omega)
  have h3 : ¬ (n : Int) < 2 := by omega
  clear h
  go_enter Tryz.func110, Tryz.ntmps110
  go_wp2_with fail
  go_loopw [4, 5, 6] (fun bs at_ x wr => ∃ (i best size : Nat), at_ = .int .i64 best ∧ x = .int .i64 i ∧ bs = .int .i64 size ∧ 1 ≤ i ∧ i ≤ n ∧ best < i ∧ Hid (BestH l i best) ∧ Hid (best ≠ 0 → size = partI l best) ∧ size ≤ 17600000000000 ∧ Hid (Below w.heap.size w wr)) (fun _ _ x _ => n - (intOf x).toNat)
  case atStart => exact ⟨1, 0, 0, rfl, rfl, rfl, by omega, by omega, by omega, Lib.hid (.inl ⟨rfl, rfl⟩), Lib.hid (fun h => absurd rfl h), by omega, Lib.hid (Below.refl _ _)⟩
  case round =>
    obtain ⟨i, best, size, rfl, rfl, rfl, hi1, hin, hbi, HBs, HSz, hsz, HB⟩ := hrel
    by_cases hlt : i < n
    · have x1 : (i : Int) < n := by omega
      have x2 : (0 : Int) ≤ i := by omega
      have x3 : (i : Int) ≤ c := by omega
      have x4 : ¬ i = c := by omega
      have x5 : ¬ c = i := by omega
      have x6 : (i : Int) ≤ n := by omega
      have x7 : (n : Int) ≤ c := by omega
      have HA := Lib.hid (HSa.out i hin)
      have HD := Lib.hid (HSb.out i (c - i) hin)
      have hby := HBy.out i
      obtain ⟨La, hLa⟩ : ∃ La, La = (layI (l.take i)).length := ⟨_, rfl⟩
      obtain ⟨Lb, hLb⟩ : ∃ Lb, Lb = (layI (l.drop i)).length := ⟨_, rfl⟩
      rw [← hLa] at HA hby
      rw [← hLb] at HD hby
      have HPt : Hid (partI l i = max La Lb) := Lib.hid (by unfold partI; rw [hLa, hLb])
      clear hLa hLb
      obtain ⟨hba, hbb⟩ := hby
      have hbr := HB.out
      go_wp2_with fail
      go_cut [7] from 13 to 36 (fun s wx => ∃ M : Nat, s = .int .i64 M ∧ Hid (M = partI l i) ∧ M ≤ 17600000000000 ∧ Hid (Below w.heap.size w wx))
      case first =>
        go_region_with (first
          | (go_at_call 100; ((with_reducible refine (HA.out _ (by (first | exact hbr | exact hbr.drew | exact hv5 | exact hv6))).mono ?_); rintro e5 w5 ⟨rfl, hb5⟩; have hv5 : Below w.heap.size w w5 := (by first | exact hbr.trans (hb5.mono hbr.size) | exact (hbr.drew).trans (hb5.mono hbr.size) | exact hv6.trans (hb5.mono hv6.size))))
          | (go_at_call 100; ((with_reducible refine (HD.out _ (by (first | exact hbr | exact hbr.drew | exact hv5 | exact hv6))).mono ?_); rintro e6 w6 ⟨rfl, hb6⟩; have hv6 : Below w.heap.size w w6 := (by first | exact hbr.trans (hb6.mono hbr.size) | exact (hbr.drew).trans (hb6.mono hbr.size) | exact hv5.trans (hb6.mono hv5.size)))))
        all_goals (
          have hz : Below w.heap.size w w5 ∧ Below w.heap.size w w6 := ⟨hv5, hv6⟩
          go_wp2_with fail
          all_goals (
            go_meet
            exact ⟨_, rfl, Lib.hid (by rw [HPt.out]; omega), by omega, Lib.hid (by first | exact hz.1 | exact hz.2)⟩))
      case rest =>
        obtain ⟨M, rfl, HM, hM, HBw⟩ := hcut
        clear HA HD hba hbb hbr HB
        by_cases hb0 : best = 0
        · have hi1' : i = 1 := by
            rcases HBs.out with ⟨a, _⟩ | ⟨a, _, _⟩
            · exact a
            · omega
          have d0 : ((i : Int) == 1) = true := by rw [hi1']; rfl
          have HN := Lib.hid (HBs.out.take hi1 (.inl hb0))
          clear hb0 hi1'
          go_wp2_with fail
          go_roundw
          case rel => exact ⟨i + 1, i, M, rfl, by go_num, rfl, by omega, by omega, by omega, HN, Lib.hid (fun _ => HM.out), hM, HBw⟩
          case measure => simp [intOf]; omega
        · have hi1' : i ≠ 1 := by
            rcases HBs.out with ⟨_, a⟩ | ⟨a, a2, _⟩
            · exact absurd a hb0
            · omega
          have d0 : ((i : Int) == 1) = false := by rw [beq_eq_false_iff_ne]; omega
          by_cases hMs : M < size
          · have d1 : decide (M < size) = true := by simpa using hMs
            have d1' : decide ((M : Int) < (size : Int)) = true := by simp; omega
            have HN := Lib.hid (HBs.out.take hi1 (.inr (by rw [← HM.out, ← HSz.out hb0]; exact hMs)))
            clear hb0 hi1'
            go_wp2_with fail
            go_roundw
            case rel => exact ⟨i + 1, i, M, rfl, by go_num, rfl, by omega, by omega, by omega, HN, Lib.hid (fun _ => HM.out), hM, HBw⟩
            case measure => simp [intOf]; omega
          · have d1 : decide (M < size) = false := by simpa using hMs
            have d1' : decide ((M : Int) < (size : Int)) = false := by simp; omega
            have HN := Lib.hid (HBs.out.stay hi1 hb0 (by rw [← HM.out, ← HSz.out hb0]; omega))
            clear hb0 hi1'
            go_wp2_with fail
            go_roundw
            case rel => exact ⟨i + 1, best, size, rfl, by go_num, rfl, by omega, by omega, by omega, HN, HSz, hsz, HBw⟩
            case measure => simp [intOf]; omega
    · obtain rfl : i = n := by omega
      have hok : SplitHOk l best ∧ best ≠ 0 ∧ best < i := by
        rcases HBs.out with ⟨h1, _⟩ | ⟨h1, h2', h3⟩
        · omega
        · exact ⟨⟨h1, by rw [HLn.out]; exact h2', fun j a b' => h3 j a (by rw [HLn.out] at b'; exact b')⟩, by omega, h2'⟩
      obtain ⟨hok1, hok2, hok3⟩ := hok
      have HOk := Lib.hid hok1
      have x1 : (0 : Int) ≤ best := by omega
      have x2 : (best : Int) ≤ c := by omega
      have x3 : (best : Int) ≤ i := by omega
      have x4 : ¬ best = c := by omega
      have x4' : ¬ c = best := by omega
      have x5 : (i : Int) ≤ c := by omega
      have HS1 := Lib.hid (HTa.out best (by omega))
      have HS2 := Lib.hid (HTb.out best (by omega))
      have HL1 : Hid ((itmCells (l.take best)).length = best * 4) := Lib.hid (by rw [itmCells_len, List.length_take, HLn.out, Nat.min_eq_left (by omega)])
      have HL2 : Hid ((itmCells (l.drop best)).length = (i - best) * 4) := Lib.hid (by rw [itmCells_len, List.length_drop, HLn.out])
      have hbr := HB.out
      have hbd : Hid (Below w.heap.size w wr.drew) := Lib.hid hbr.drew
      clear hok1 HSz HBs HTa HTb HSa HSb HB hbr
      go_wp2_with fail
      go_region_law (first
        | (refine step_append_own _ (by rfl) (.const (.slice none 0 0)) (.tmp 39) 131 (by rfl) w.heap.size 133 i0 _ 4 48 Tryz.underlying131 hii hz0 hz1 hz2 (by rfl) (by omega) (.slice none 0 0) 0 [] (by simp [Act.eval]) (World.ownsRow_nil _ _ _ _) ⟨b, o, none⟩ best c (itmCells (l.take best)) (by simp [Act.eval, Act.put]) HL1.out (HS1.out _ (by first | exact hbd.out | exact HB2.out)) (itmCells_one _) (by unfold maxLen; omega) (by omega) (by first | exact HB2.out.size | exact hbd.out.size) ?_; intro v1 u1 hown1 hg1 hat1; rw [Nat.zero_add, List.nil_append] at hown1; have HO1 := Lib.hid hown1; have HB1 : Hid (Below w.heap.size w u1) := Lib.hid (by first | exact HB2.out.grown hg1 HB2.out.size (fun k hk => by cases hk) | exact hbd.out.grown hg1 hbd.out.size (fun k hk => by cases hk)); obtain ⟨a1, e1, hv1, _⟩ := own_shape hown1; subst hv1; clear hat1 hown1)
        | (refine step_append_own _ (by rfl) (.const (.slice none 0 0)) (.tmp 43) 131 (by rfl) w.heap.size 133 i0 _ 4 48 Tryz.underlying131 hii hz0 hz1 hz2 (by rfl) (by omega) (.slice none 0 0) 0 [] (by simp [Act.eval]) (World.ownsRow_nil _ _ _ _) ⟨b, o + best * 4, none⟩ (i - best) (c - best) (itmCells (l.drop best)) (by simp [Act.eval, Act.put]) HL2.out (HS2.out _ (by first | exact hbd.out | exact HB1.out)) (itmCells_one _) (by unfold maxLen; omega) (by omega) (by first | exact HB1.out.size | exact hbd.out.size) ?_; intro v2 u2 hown2 hg2 hat2; rw [Nat.zero_add, List.nil_append] at hown2; have HO2 := Lib.hid hown2; have HB2 : Hid (Below w.heap.size w u2) := Lib.hid (by first | exact HB1.out.grown hg2 HB1.out.size (fun k hk => by cases hk) | exact hbd.out.grown hg2 hbd.out.size (fun k hk => by cases hk)); obtain ⟨a2, e2, hv2, _⟩ := own_shape hown2; subst hv2; clear hat2 hown2))
      all_goals (
        have HG1 := Lib.hid hg1
        have HG2 := Lib.hid hg2
        clear hg1 hg2
        go_wp2_with fail
        go_ret2
        exact ⟨best, a1, e1, a2, e2, rfl, HOk.out, (by first | exact HO1.out | exact own_none HO1.out HG2.out), (by first | exact HO2.out | exact own_none HO2.out HG1.out), by first | exact HB1.out | exact HB2.out⟩)
end
end
/-! ### The walks of arboretumref7's FindItem, SetItem and DelItem. -/
section
open Go.RowKit
set_option linter.unusedVariables false
set_option linter.unusedSimpArgs false
set_option maxRecDepth 20000 in
set_option maxHeartbeats 4000000 in
theorem rfindI_any {ao : Option Addr} {n c : Nat} {l : List Itm} {w : World} (hE : Itms w w.heap.size ao n l) (hok : ∀ e ∈ l, ItmOk e) (hn : n ≤ 140737488351232) (key : ByteArray) (hkey : key.size ≤ 9223372036854775807) :
    Calls Tryz.prog 106 #[.slice ao n c, .string key] w (FindIRes l key w) := by
  have HE := Lib.hid hE
  have HOk := Lib.hid hok
  have HLn := Lib.hid hE.1
  clear hE hok
  go_enter Tryz.func106, Tryz.ntmps106
  go_wp2_with fail
  go_loopw [6] (fun i wr => ∃ (k : Nat), k ≤ n ∧ i = .int .i64 k ∧ Hid (∀ e, 0 < k → l[k - 1]? = some e → ltB e.key key = true) ∧ Hid (Below w.heap.size w wr)) (fun i _ => n - (intOf i).toNat)
  case atStart => exact ⟨0, Nat.zero_le _, rfl, Lib.hid (fun e h => absurd h (by omega)), Lib.hid (Below.refl _ _)⟩
  case round =>
    obtain ⟨k, hk, rfl, HP, HB⟩ := hrel
    by_cases hlt : k < n
    · obtain ⟨b, o, e, rfl, hbB, hek, q1, q2, q3, q4⟩ := (HE.out.below HB.out).get hlt
      have hks : e.key.size ≤ 140737488351232 := (HOk.out e (List.mem_of_getElem? hek)).2.2.1
      have hx1 : (0 : Int) ≤ k := by omega
      have hx2 : (k : Int) < n := by omega
      have hd : decide (k < n) = true := by simpa using hlt
      have hd2 : decide ((k : Int) < (n : Int)) = true := by simp; omega
      obtain ⟨r, hr⟩ : ∃ r, ltB e.key key = r := ⟨_, rfl⟩
      have HLs : Hid (Calls Tryz.prog 178 #[.string e.key, .string key] wr (QuietRes (.bool r) wr)) := Lib.hid (by rw [← hr]; exact less_any e.key key wr (by omega) (by omega))
      have HEk := Lib.hid hek
      cases r with
      | true =>
        have HN : Hid (∀ e, 0 < k + 1 → l[k + 1 - 1]? = some e → ltB e.key key = true) := Lib.hid (fun e' _ he' => by
          rw [Nat.add_sub_cancel, hek] at he'
          injection he' with he'
          rw [← he']; exact hr)
        clear hek hr q2 q3 q4
        go_wp2_with fail
        refine HLs.out.mono ?_
        rintro e1 w1 h1
        obtain ⟨rfl, hb1⟩ := h1.below
        have HB1 := Lib.hid (HB.out.trans (hb1.mono HB.out.size))
        clear hb1 h1
        go_wp2_with fail
        go_roundw
        case rel => exact ⟨k + 1, by omega, by go_num, HN, HB1⟩
        case measure => simp [intOf]; omega
      | false =>
        obtain ⟨z, hz⟩ : ∃ z, (e.key.toList == key.toList) = z := ⟨_, rfl⟩
        have HRes : Hid (FindOkI l key k z) := Lib.hid ⟨by rw [HLn.out]; omega, HP.out, fun e' he' => by rw [hek] at he'; injection he' with he'; rw [← he']; exact hr, by
          rw [← hz, beq_iff_eq, ByteArray.toList_eq, ByteArray.toList_eq]
          refine ⟨fun h => ⟨e, hek, bytes_ext h⟩, ?_⟩
          rintro ⟨e', he', hk'⟩
          rw [hek] at he'
          injection he' with he'
          rw [he', hk']⟩
        have q9 := fun W hb => ((HE.out.below HB.out).below (w' := W) (hb : Below w.heap.size wr W))
        have HC : Hid (∀ W, Below wr.heap.size wr W → W.cell? ⟨b, o + k * 4, none⟩ = some (.string e.key)) := Lib.hid (fun W hb => cell_later hb q1)
        clear hek hr q2 q3 q4 q9
        go_wp2_with fail
        refine HLs.out.mono ?_
        rintro e1 w1 h1
        obtain ⟨rfl, hb1⟩ := h1.below
        have HB1 := Lib.hid (HB.out.trans (hb1.mono HB.out.size))
        have c1 := HC.out _ hb1
        clear hb1 h1 q1
        go_wp2_with fail
        go_quiet (fail)
        go_wp2_with fail
        go_ret2
        exact ⟨k, z, rfl, HRes.out, below_drewN HB1.out _⟩
    · obtain rfl : k = n := by omega
      have hd : decide (k < k) = false := by simp
      have hd2 : decide ((k : Int) < (k : Int)) = false := by simp
      have HRes : Hid (FindOkI l key k false) := Lib.hid ⟨by rw [HLn.out]; omega, HP.out, fun e' he' => by have := (List.getElem?_eq_some_iff.1 he').1; have := HLn.out; omega, by
        refine ⟨fun h => (by cases h), ?_⟩
        rintro ⟨e', he', _⟩
        have := (List.getElem?_eq_some_iff.1 he').1
        have := HLn.out
        omega⟩
      go_wp2_with fail
      go_quiet (fail)
      go_wp2_with fail
      go_ret2
      exact ⟨k, false, rfl, HRes.out, below_drewN HB.out _⟩
/-- What SetItem lays behind the new item. -/
def restI (l : List Itm) (k : Nat) (is : Bool) : List Itm := if is = true then l.drop (k + 1) else l.drop k
theorem setI_rest {l : List Itm} {k : Nat} {is : Bool} {x : Itm} (h : k ≤ l.length) (h2 : is = true → k < l.length) : l.take k ++ [x] ++ restI l k is = setI l k is x := by
  unfold restI setI insI
  cases is with
  | true => rw [if_pos rfl, if_pos rfl, List.set_eq_take_append_cons_drop, if_pos (h2 rfl)]; simp
  | false => rw [if_neg (by decide), if_neg (by decide)]; simp
set_option maxRecDepth 100000 in
set_option maxHeartbeats 8000000 in
theorem rsetI_some {w : World} {b o n c : Nat} {l : List Itm} (hE : Itms w w.heap.size (some ⟨b, o, none⟩) n l) (hok : ∀ e ∈ l, ItmOk e) (hnc : n ≤ c) (hc : c ≤ 9223372036854775807) (hn : n ≤ 1000000) (x : Itm) (hx : ItmOk x) :
    Calls Tryz.prog 111 #[.slice (some ⟨b, o, none⟩) n c, x.agg] w (SetRes l x w) := by
  obtain ⟨i0, hii, hz0, hz1, hz2⟩ := info_parts itmInfo
  have hb0 : Below w.heap.size w (w.alloc (.cells #[.string x.key, .string x.vl, .int .i64 x.ov, .int .i64 x.sz] 133)) := (Below.refl _ _).alloc (Nat.le_refl _) _
  have hx0 := heap_alloc_new w (.cells #[.string x.key, .string x.vl, .int .i64 x.ov, .int .i64 x.sz] 133)
  have HB0 := Lib.hid hb0
  have HX0 := Lib.hid hx0
  have HLl := Lib.hid hE.1
  have HF := Lib.hid (rfindI_any (c := c) ((hE.below hb0).mono hb0.size) hok (by omega) x.key (by have := hx.2.2.1; omega))
  have HSa : Hid (∀ k, k ≤ n → ∀ W, Below w.heap.size w W → ∀ j u, (itmCells (l.take k))[j]? = some u → W.cell? ((⟨b, o, none⟩ : Addr).add j) = some u) := Lib.hid (fun k hk => itms_src (hE.take hk))
  have HSb : Hid (∀ k o2, k ≤ n → (n - k = 0 ∨ o2 = o + k * 4) → ∀ W, Below w.heap.size w W → ∀ j u, (itmCells (l.drop k))[j]? = some u → W.cell? ((⟨b, o2, none⟩ : Addr).add j) = some u) := Lib.hid (fun k o2 hk ho => by
    rcases ho with h0 | rfl
    · intro W hb j u hu
      rw [List.drop_eq_nil_of_le (by rw [hE.1]; omega)] at hu
      cases hu
    · exact itms_src (hE.drop hk))
  clear hb0 hx0 hE hok hx
  unfold Itm.agg
  go_enter Tryz.func111, Tryz.ntmps111
  go_wp2_with fail
  refine HF.out.mono ?_
  rintro e w1 ⟨k, is, rfl, hok, hb1⟩
  have HOk := Lib.hid hok
  have hbw1 : Below w.heap.size w w1 := HB0.out.trans (hb1.mono HB0.out.size)
  have HBw := Lib.hid hbw1
  have HX : Hid (∀ W, Below w1.heap.size w1 W → W.cell? ⟨w.heap.size, 0, none⟩ = some (.string x.key) ∧ W.cell? ⟨w.heap.size, 1, none⟩ = some (.string x.vl) ∧ W.cell? ⟨w.heap.size, 2, none⟩ = some (.int .i64 x.ov) ∧ W.cell? ⟨w.heap.size, 3, none⟩ = some (.int .i64 x.sz)) := Lib.hid (fun W hb => by
    have h1 := (hb1.block w.heap.size (by simp)).trans HX0.out
    have h2 := (hb.block w.heap.size (blk_lt h1)).trans h1
    exact ⟨by rw [blk_cell h2]; rfl, by rw [blk_cell h2]; rfl, by rw [blk_cell h2]; rfl, by rw [blk_cell h2]; rfl⟩)
  have hkn : k ≤ n := by have h1 := hok.1; have h2 := HLl.out; omega
  have hki : is = true → k < n := fun h => by
    obtain ⟨e, he, _⟩ := hok.2.2.2.1 h
    have h1 := (List.getElem?_eq_some_iff.1 he).1
    have h2 := HLl.out
    omega
  have HKi := Lib.hid hki
  have HS1 := Lib.hid (HSa.out k hkn)
  have HL1 : Hid ((itmCells (l.take k)).length = k * 4) := Lib.hid (by rw [itmCells_len, List.length_take, HLl.out, Nat.min_eq_left hkn])
  have y1 : (0 : Int) ≤ k := by omega
  have y2 : (k : Int) ≤ n := by omega
  have y3 : (k : Int) ≤ c := by omega
  have y4 : (n : Int) ≤ c := by omega
  have y5 : IntKind.i64.wrap ((k : Int) + 1) = (k : Int) + 1 := IntWalk.i64_in _ (by omega)
  have y6 : (0 : Int) ≤ (k : Int) + 1 := by omega
  have y7 : ((k : Int) + 1).toNat = k + 1 := by omega
  obtain ⟨x0, x1, x2, x3⟩ := HX.out _ (Below.refl _ _)
  clear hok hb1 hbw1 HF HX0 HB0 hki HSa
  have hor : (Hid (k = c) ∧ (k = c) = True ∧ (c = k) = True) ∨ (Hid (¬ k = c) ∧ (k = c) = False ∧ (c = k) = False) := by
    by_cases h : k = c
    · exact .inl ⟨Lib.hid h, eq_true h, eq_true h.symm⟩
    · exact .inr ⟨Lib.hid h, eq_false h, eq_false (fun e => h e.symm)⟩
  rcases hor with ⟨HK, hkc, hkc2⟩ | ⟨HK, hkc, hkc2⟩
  all_goals (
    go_upto_if 18 with fail
    go_cut [7] (fun s wx => ∃ o2 q c2 R, s = .slice (some ⟨b, o2, none⟩) q c2 ∧ q ≤ n ∧ Hid (R = restI l k is) ∧ Hid ((itmCells R).length = q * 4) ∧ Hid (∀ W, Below w.heap.size w W → ∀ j u, (itmCells R)[j]? = some u → W.cell? ((⟨b, o2, none⟩ : Addr).add j) = some u) ∧ wx = w1)
    case first =>
      have HLd : Hid (∀ j, (itmCells (l.drop j)).length = (n - j) * 4) := Lib.hid (fun j => by rw [itmCells_len, List.length_drop, HLl.out])
      cases is with
      | false =>
        go_wp2_with fail
        go_meet
        first
          | exact ⟨o + k * 4, n - k, c - k, l.drop k, rfl, by omega, Lib.hid rfl, Lib.hid (HLd.out k), Lib.hid (HSb.out k _ hkn (.inr rfl)), rfl⟩
          | exact ⟨o, n - k, c - k, l.drop k, rfl, by omega, Lib.hid rfl, Lib.hid (HLd.out k), Lib.hid (HSb.out k _ hkn (.inl (by have := HK.out; omega))), rfl⟩
      | true =>
        have hk1 := HKi.out (by first | rfl | trivial)
        first
        | (exfalso; have h1 := HK.out; have h2 : k < n := hk1; omega)
        | (
          have y8 : (k : Int) + 1 ≤ n := by omega
          have y9 : (k : Int) + 1 ≤ c := by omega
          by_cases hk2 : k + 1 = c
          · have HQ := Lib.hid hk2
            have hk3 := eq_true hk2
            have hk4 : (c = k + 1) = True := eq_true hk2.symm
            clear hk2
            go_wp2_with fail
            go_meet
            exact ⟨o, n - (k + 1), c - (k + 1), l.drop (k + 1), rfl, by omega, Lib.hid rfl, Lib.hid (HLd.out (k + 1)), Lib.hid (HSb.out (k + 1) _ (by omega) (.inl (by have := HQ.out; omega))), rfl⟩
          · have hk3 := eq_false hk2
            have hk4 : (c = k + 1) = False := eq_false (fun h => hk2 h.symm)
            clear hk2
            go_wp2_with fail
            go_meet
            exact ⟨o + (k + 1) * 4, n - (k + 1), c - (k + 1), l.drop (k + 1), rfl, by omega, Lib.hid rfl, Lib.hid (HLd.out (k + 1)), Lib.hid (HSb.out (k + 1) _ (by omega) (.inr rfl)), rfl⟩)
    case rest =>
      obtain ⟨o2, q, c2, R, rfl, hq, HR, HL3, HS3, rfl⟩ := hcut
      go_upto_region 5 with fail
      go_region_law (first
        | (refine step_append_own _ (by rfl) (.const (.slice none 0 0)) (.tmp 25) 131 (by rfl) wc.heap.size 133 i0 _ 4 48 Tryz.underlying131 hii hz0 hz1 hz2 (by rfl) (by omega) (.slice none 0 0) 0 [] (by simp [Act.eval]) (World.ownsRow_nil _ _ _ _) ⟨b, o, none⟩ k c (itmCells (l.take k)) (by simp [Act.eval, Act.put]) HL1.out (HS1.out _ (HBw.out.trans (Below.mono (by ((repeat (with_reducible (first | assumption | exact HBw.out | exact Below.refl _ _ | refine Below.drew ?_ | refine Below.alloc ?_ ?_ _))); all_goals (first | (simp <;> omega)))) HBw.out.size))) (itmCells_one _) (by unfold maxLen; omega) (by omega) (by simp) ?_; intro v1 u1 hown1 hg1 hat1; rw [Nat.zero_add, List.nil_append] at hown1; have HO1 := Lib.hid hown1; have HG1 := Lib.hid hg1; have HB1 : Hid (Below wc.heap.size wc u1) := Lib.hid (Below.grown (by ((repeat (with_reducible (first | assumption | exact HBw.out | exact Below.refl _ _ | refine Below.drew ?_ | refine Below.alloc ?_ ?_ _))); all_goals (first | (simp <;> omega)))) hg1 (by simp) (fun k hk => by cases hk)); obtain ⟨a1, c1, hv1, _⟩ := own_shape hown1; subst hv1; obtain ⟨x0, x1, x2, x3⟩ := HX.out _ HB1.out; clear hown1 hg1 hat1)
        | (refine step_append_own _ (by rfl) (.tmp 26) (.tmp 28) 131 (by rfl) wc.heap.size 133 i0 _ 4 48 Tryz.underlying131 hii hz0 hz1 hz2 (by rfl) (by omega) (.slice a1 k c1) k (itmCells (l.take k)) (by simp [Act.eval, Act.put]) (HO1.out.alloc _) ⟨u1.heap.size, 0, none⟩ 1 1 [.string x.key, .string x.vl, .int .i64 x.ov, .int .i64 x.sz] (by simp [Act.eval, Act.put]) (by rfl) (World.news_of_block (new_at _ _ _ (by simp))) (itmCells_one [x]) (by unfold maxLen; omega) (by omega) (Nat.le_trans HB1.out.size (by simp)) ?_; intro v2 u2 hown2 hg2 hat2; have HO2 := Lib.hid hown2; have HB2 : Hid (Below wc.heap.size wc u2) := Lib.hid ((HB1.out.alloc HB1.out.size _).grown hg2 (Nat.le_trans HB1.out.size (by simp)) (fun k hk => (HO1.out.lt k hk).1)); obtain ⟨a2, c2', hv2, _⟩ := own_shape hown2; subst hv2; clear hown2 hg2 hat2)
        | (refine step_append_own _ (by rfl) (.tmp 26) (.tmp 28) 131 (by rfl) wc.heap.size 133 i0 _ 4 48 Tryz.underlying131 hii hz0 hz1 hz2 (by rfl) (by omega) (.slice a1 k c1) k (itmCells (l.take k)) (by simp [Act.eval, Act.put]) HO1.out ⟨wc.heap.size, 0, none⟩ 1 1 [.string x.key, .string x.vl, .int .i64 x.ov, .int .i64 x.sz] (by simp [Act.eval, Act.put]) (by rfl) (World.news_of_block ((HG1.out.block _ (by simp) (by simp [Value.ownBlock])).trans (new_at _ _ _ (by simp)))) (itmCells_one [x]) (by unfold maxLen; omega) (by omega) HB1.out.size ?_; intro v2 u2 hown2 hg2 hat2; have HO2 := Lib.hid hown2; have HB2 : Hid (Below wc.heap.size wc u2) := Lib.hid (HB1.out.grown hg2 HB1.out.size (fun k hk => (HO1.out.lt k hk).1)); obtain ⟨a2, c2', hv2, _⟩ := own_shape hown2; subst hv2; clear hown2 hg2 hat2)
        | (refine step_append_own _ (by rfl) (.tmp 29) (.tmp 30) 131 (by rfl) wc.heap.size 133 i0 _ 4 48 Tryz.underlying131 hii hz0 hz1 hz2 (by rfl) (by omega) (.slice a2 (k + 1) c2') (k + 1) (itmCells (l.take k) ++ [.string x.key, .string x.vl, .int .i64 x.ov, .int .i64 x.sz]) (by simp [Act.eval, Act.put]) HO2.out ⟨b, o2, none⟩ q c2 (itmCells R) (by simp [Act.eval, Act.put]) HL3.out (HS3.out _ (HBw.out.trans (HB2.out.mono HBw.out.size))) (itmCells_one _) (by unfold maxLen; omega) (by omega) HB2.out.size ?_; intro v3 u3 hown3 hg3 hat3; have HO3 := Lib.hid hown3; have HB3 := Lib.hid (HB2.out.grown hg3 HB2.out.size (fun k hk => (HO2.out.lt k hk).1)); obtain ⟨a3, c3, hv3, _⟩ := own_shape hown3; subst hv3; clear hown3 hg3 hat3))
      all_goals (
        go_wp2_with fail
        go_ret
        have hcat : itmCells (l.take k) ++ [.string x.key, .string x.vl, .int .i64 x.ov, .int .i64 x.sz] ++ itmCells R = itmCells (setI l k is x) := by
          rw [← setI_rest (x := x) (is := is) (by rw [HLl.out]; exact hkn) (fun h => by rw [HLl.out]; exact HKi.out h), itmCells_append, itmCells_append, HR.out]; rfl
        have hown := HO3.out
        rw [hcat] at hown
        have hlen : (setI l k is x).length = k + 1 + q := by have := hown.1; rw [itmCells_len] at this; omega
        exact ⟨k, is, k + 1 + q, a3, c3, HOk.out, hlen.symm, rfl, own_mono hown HBw.out.size, HBw.out.trans (HB3.out.mono HBw.out.size)⟩))
theorem findI_nil {key : ByteArray} {k : Nat} {is : Bool} (h : FindOkI [] key k is) : k = 0 ∧ is = false := by
  refine ⟨by have := h.1; simpa using this, ?_⟩
  cases is with
  | false => rfl
  | true =>
    obtain ⟨e, he, _⟩ := h.2.2.2.1 rfl
    simp at he
set_option maxRecDepth 100000 in
set_option maxHeartbeats 8000000 in
theorem rsetI_nil {w : World} (x : Itm) (hx : ItmOk x) :
    Calls Tryz.prog 111 #[.slice none 0 0, x.agg] w (SetRes [] x w) := by
  obtain ⟨i0, hii, hz0, hz1, hz2⟩ := info_parts itmInfo
  have hb0 : Below w.heap.size w (w.alloc (.cells #[.string x.key, .string x.vl, .int .i64 x.ov, .int .i64 x.sz] 133)) := (Below.refl _ _).alloc (Nat.le_refl _) _
  have hx0 := heap_alloc_new w (.cells #[.string x.key, .string x.vl, .int .i64 x.ov, .int .i64 x.sz] 133)
  have HB0 := Lib.hid hb0
  have HX0 := Lib.hid hx0
  have HF := Lib.hid (rfindI_any (c := 0) (l := []) (w := w.alloc (.cells #[.string x.key, .string x.vl, .int .i64 x.ov, .int .i64 x.sz] 133)) (Itms.nil_ _ _ none) (by simp) (by omega) x.key (by have := hx.2.2.1; omega))
  clear hb0 hx0 hx
  unfold Itm.agg
  go_enter Tryz.func111, Tryz.ntmps111
  go_wp2_with fail
  refine HF.out.mono ?_
  rintro e w1 ⟨k, is, rfl, hok, hb1⟩
  obtain ⟨rfl, rfl⟩ := findI_nil hok
  have HOk := Lib.hid hok
  have hbw1 : Below w.heap.size w w1 := HB0.out.trans (hb1.mono HB0.out.size)
  have HBw := Lib.hid hbw1
  have h1 := (hb1.block w.heap.size (by simp)).trans HX0.out
  have x0 : w1.cell? ⟨w.heap.size, 0, none⟩ = some (.string x.key) := by rw [blk_cell h1]; rfl
  have x1 : w1.cell? ⟨w.heap.size, 1, none⟩ = some (.string x.vl) := by rw [blk_cell h1]; rfl
  have x2 : w1.cell? ⟨w.heap.size, 2, none⟩ = some (.int .i64 x.ov) := by rw [blk_cell h1]; rfl
  have x3 : w1.cell? ⟨w.heap.size, 3, none⟩ = some (.int .i64 x.sz) := by rw [blk_cell h1]; rfl
  clear hok hb1 hbw1 HF HX0 HB0 h1
  go_upto_region 5 with fail
  go_region_law (first
    | (refine step_append_none (by rfl) (.const (.slice none 0 0)) (.tmp 25) 131 (by rfl) w1.heap.size 133 i0 4 Tryz.underlying131 hii (.slice none 0 0) 0 [] (by simp [Act.eval]) (World.ownsRow_nil _ _ _ _) (by simp [Act.eval, Act.put]) ?_)
    | (refine step_append_own _ (by rfl) (.tmp 26) (.tmp 28) 131 (by rfl) w1.heap.size 133 i0 _ 4 48 Tryz.underlying131 hii hz0 hz1 hz2 (by rfl) (by omega) (.slice none 0 0) 0 [] (by simp [Act.eval, Act.put]) (World.ownsRow_nil _ _ _ _) ⟨w1.heap.size, 0, none⟩ 1 1 [.string x.key, .string x.vl, .int .i64 x.ov, .int .i64 x.sz] (by simp [Act.eval, Act.put]) (by rfl) (World.news_of_block (new_at _ _ _ (by simp))) (itmCells_one [x]) (by unfold maxLen; omega) (by omega) (by simp) ?_; intro v2 u2 hown2 hg2 hat2; rw [Nat.zero_add, List.nil_append] at hown2; have HO2 := Lib.hid hown2; have HB2 : Hid (Below w1.heap.size w1 u2) := Lib.hid (Below.grown (by (repeat (with_reducible (first | assumption | exact Below.refl _ _ | refine Below.drew ?_ | refine Below.alloc ?_ ?_ _))); all_goals (simp <;> omega)) hg2 (by simp) (fun k hk => by cases hk)); obtain ⟨a2, c2', hv2, _⟩ := own_shape hown2; subst hv2; clear hown2 hg2 hat2)
    | (refine step_append_none (by rfl) (.tmp 29) (.tmp 30) 131 (by rfl) w1.heap.size 133 i0 4 Tryz.underlying131 hii (.slice a2 1 c2') 1 [.string x.key, .string x.vl, .int .i64 x.ov, .int .i64 x.sz] (by simp [Act.eval, Act.put]) HO2.out (by simp [Act.eval, Act.put]) ?_))
  all_goals (
    go_wp2_with fail
    go_ret
    exact ⟨0, false, 1, a2, c2', HOk.out, rfl, rfl, own_mono HO2.out HBw.out.size, HBw.out.trans (HB2.out.mono HBw.out.size)⟩)
set_option maxRecDepth 100000 in
set_option maxHeartbeats 8000000 in
theorem rdelI_some {w : World} {b o n c : Nat} {l : List Itm} (hE : Itms w w.heap.size (some ⟨b, o, none⟩) n l) (hok : ∀ e ∈ l, ItmOk e) (hnc : n ≤ c) (hc : c ≤ 9223372036854775807) (hn : n ≤ 1000000) (key : ByteArray) (hkey : key.size ≤ 9223372036854775807) :
    Calls Tryz.prog 112 #[.slice (some ⟨b, o, none⟩) n c, .string key] w (DelRes l key w) := by
  obtain ⟨i0, hii, hz0, hz1, hz2⟩ := info_parts itmInfo
  have HLl := Lib.hid hE.1
  have HF := Lib.hid (rfindI_any (c := c) hE hok (by omega) key hkey)
  have HSw : Hid (∀ W, Below w.heap.size w W → ∀ j u, (itmCells l)[j]? = some u → W.cell? ((⟨b, o, none⟩ : Addr).add j) = some u) := Lib.hid (itms_src hE)
  have HSa : Hid (∀ k, k ≤ n → ∀ W, Below w.heap.size w W → ∀ j u, (itmCells (l.take k))[j]? = some u → W.cell? ((⟨b, o, none⟩ : Addr).add j) = some u) := Lib.hid (fun k hk => itms_src (hE.take hk))
  have HSb : Hid (∀ k o2, k ≤ n → (n - k = 0 ∨ o2 = o + k * 4) → ∀ W, Below w.heap.size w W → ∀ j u, (itmCells (l.drop k))[j]? = some u → W.cell? ((⟨b, o2, none⟩ : Addr).add j) = some u) := Lib.hid (fun k o2 hk ho => by
    rcases ho with h0 | rfl
    · intro W hb j u hu
      rw [List.drop_eq_nil_of_le (by rw [hE.1]; omega)] at hu
      cases hu
    · exact itms_src (hE.drop hk))
  clear hE hok
  go_enter Tryz.func112, Tryz.ntmps112
  go_wp2_with fail
  refine HF.out.mono ?_
  rintro e w1 ⟨k, is, rfl, hok, hb1⟩
  have HOk := Lib.hid hok
  have HBw := Lib.hid hb1
  clear HF
  cases is with
  | false =>
    have HSl := Lib.hid (HSw.out w1 hb1)
    have HLL : Hid ((itmCells l).length = n * 4) := Lib.hid (by rw [itmCells_len, HLl.out])
    clear hok hb1 HSa HSb HSw
    go_wp2_with (at_builtin; refine wpList_append_own_at _ rfl (.const (.slice none 0 0)) (.tmp 15) 131 rfl w1.heap.size 133 i0 _ 4 48 Tryz.underlying131 hii hz0 hz1 hz2 rfl (by omega) _ 0 [] rfl (World.ownsRow_nil _ _ _ _) ⟨b, o, none⟩ n c (itmCells l) rfl HLL.out HSl.out (itmCells_one l) (by unfold maxLen; omega) (by omega) (by simp) ?_; intro v1 w8 hown8 hg8 _ _; rw [Nat.zero_add, List.nil_append] at hown8; obtain ⟨a8, c8, hv8, _⟩ := own_shape hown8; subst hv8; have HO8 := Lib.hid hown8; have HB8 := Lib.hid ((Below.refl w1.heap.size w1).grown hg8 (by simp) (fun k hk => by cases hk)); clear hown8 hg8)
    go_ret
    exact ⟨k, false, n, a8, c8, HOk.out, by unfold takeI; rw [if_neg (by decide), HLl.out], rfl, own_mono (by unfold takeI; rw [if_neg (by decide)]; exact HO8.out) HBw.out.size, HBw.out.trans (HB8.out.mono HBw.out.size)⟩
  | true =>
    have hkn : k < n := by
      obtain ⟨e, he, _⟩ := hok.2.2.2.1 rfl
      have h1 := (List.getElem?_eq_some_iff.1 he).1
      have h2 := HLl.out
      omega
    have HS1 := Lib.hid (HSa.out k (by omega))
    have HL1 : Hid ((itmCells (l.take k)).length = k * 4) := Lib.hid (by rw [itmCells_len, List.length_take, HLl.out, Nat.min_eq_left (by omega)])
    have HL2 : Hid ((itmCells (l.drop (k + 1))).length = (n - (k + 1)) * 4) := Lib.hid (by rw [itmCells_len, List.length_drop, HLl.out])
    have y1 : (0 : Int) ≤ k := by omega
    have y2 : (k : Int) ≤ n := by omega
    have y3 : (k : Int) ≤ c := by omega
    have y4 : (n : Int) ≤ c := by omega
    have y5 : IntKind.i64.wrap ((k : Int) + 1) = (k : Int) + 1 := IntWalk.i64_in _ (by omega)
    have y6 : (0 : Int) ≤ (k : Int) + 1 := by omega
    have y7 : ((k : Int) + 1).toNat = k + 1 := by omega
    have y8 : (k : Int) + 1 ≤ n := by omega
    have y9 : (k : Int) + 1 ≤ c := by omega
    clear hok hb1 HSa HSw
    by_cases hk2 : k + 1 = c
    · have HS2 := Lib.hid (HSb.out (k + 1) o (by omega) (.inl (by omega)))
      have hk3 := eq_true hk2
      have hk4 : (c = k + 1) = True := eq_true hk2.symm
      clear hk2 HSb
      go_upto_region 4 with fail
      go_region_law (first
        | (refine step_append_own _ (by rfl) (.const (.slice none 0 0)) (.tmp 19) 131 (by rfl) w1.heap.size 133 i0 _ 4 48 Tryz.underlying131 hii hz0 hz1 hz2 (by rfl) (by omega) (.slice none 0 0) 0 [] (by simp [Act.eval]) (World.ownsRow_nil _ _ _ _) ⟨b, o, none⟩ k c (itmCells (l.take k)) (by simp [Act.eval, Act.put]) HL1.out (HS1.out _ (HBw.out.drew)) (itmCells_one _) (by unfold maxLen; omega) (by omega) (by simp) ?_; intro v1 u1 hown1 hg1 hat1; rw [Nat.zero_add, List.nil_append] at hown1; have HO1 := Lib.hid hown1; have HB1 : Hid (Below w1.heap.size w1 u1) := Lib.hid (((Below.refl w1.heap.size w1).drew).grown hg1 (by simp) (fun k hk => by cases hk)); obtain ⟨a1, c1, hv1, _⟩ := own_shape hown1; subst hv1; clear hown1 hg1 hat1)
        | (refine step_append_own _ (by rfl) (.tmp 20) (.tmp 24) 131 (by rfl) w1.heap.size 133 i0 _ 4 48 Tryz.underlying131 hii hz0 hz1 hz2 (by rfl) (by omega) (.slice a1 k c1) k (itmCells (l.take k)) (by simp [Act.eval, Act.put]) HO1.out ⟨b, o, none⟩ (n - (k + 1)) (c - (k + 1)) (itmCells (l.drop (k + 1))) (by simp [Act.eval, Act.put]) HL2.out (HS2.out _ (HBw.out.trans (HB1.out.mono HBw.out.size))) (itmCells_one _) (by unfold maxLen; omega) (by omega) HB1.out.size ?_; intro v3 u3 hown3 hg3 hat3; have HO3 := Lib.hid hown3; have HB3 := Lib.hid (HB1.out.grown hg3 HB1.out.size (fun k hk => (HO1.out.lt k hk).1)); obtain ⟨a3, c3, hv3, _⟩ := own_shape hown3; subst hv3; clear hown3 hg3 hat3))
      all_goals (
        go_wp2_with fail
        go_ret
        have hown := HO3.out
        rw [← itmCells_append] at hown
        have hlen : (takeI l k true).length = k + (n - (k + 1)) := by have := hown.1; rw [itmCells_len] at this; unfold takeI delI; rw [if_pos rfl]; omega
        exact ⟨k, true, k + (n - (k + 1)), a3, c3, HOk.out, hlen.symm, rfl, own_mono (by unfold takeI delI; rw [if_pos rfl]; exact hown) HBw.out.size, HBw.out.trans (HB3.out.mono HBw.out.size)⟩)
    · have HS2 := Lib.hid (HSb.out (k + 1) (o + (k + 1) * 4) (by omega) (.inr rfl))
      have hk3 := eq_false hk2
      have hk4 : (c = k + 1) = False := eq_false (fun h => hk2 h.symm)
      clear hk2 HSb
      go_upto_region 4 with fail
      go_region_law (first
        | (refine step_append_own _ (by rfl) (.const (.slice none 0 0)) (.tmp 19) 131 (by rfl) w1.heap.size 133 i0 _ 4 48 Tryz.underlying131 hii hz0 hz1 hz2 (by rfl) (by omega) (.slice none 0 0) 0 [] (by simp [Act.eval]) (World.ownsRow_nil _ _ _ _) ⟨b, o, none⟩ k c (itmCells (l.take k)) (by simp [Act.eval, Act.put]) HL1.out (HS1.out _ (HBw.out.drew)) (itmCells_one _) (by unfold maxLen; omega) (by omega) (by simp) ?_; intro v1 u1 hown1 hg1 hat1; rw [Nat.zero_add, List.nil_append] at hown1; have HO1 := Lib.hid hown1; have HB1 : Hid (Below w1.heap.size w1 u1) := Lib.hid (((Below.refl w1.heap.size w1).drew).grown hg1 (by simp) (fun k hk => by cases hk)); obtain ⟨a1, c1, hv1, _⟩ := own_shape hown1; subst hv1; clear hown1 hg1 hat1)
        | (refine step_append_own _ (by rfl) (.tmp 20) (.tmp 24) 131 (by rfl) w1.heap.size 133 i0 _ 4 48 Tryz.underlying131 hii hz0 hz1 hz2 (by rfl) (by omega) (.slice a1 k c1) k (itmCells (l.take k)) (by simp [Act.eval, Act.put]) HO1.out ⟨b, o + (k + 1) * 4, none⟩ (n - (k + 1)) (c - (k + 1)) (itmCells (l.drop (k + 1))) (by simp [Act.eval, Act.put]) HL2.out (HS2.out _ (HBw.out.trans (HB1.out.mono HBw.out.size))) (itmCells_one _) (by unfold maxLen; omega) (by omega) HB1.out.size ?_; intro v3 u3 hown3 hg3 hat3; have HO3 := Lib.hid hown3; have HB3 := Lib.hid (HB1.out.grown hg3 HB1.out.size (fun k hk => (HO1.out.lt k hk).1)); obtain ⟨a3, c3, hv3, _⟩ := own_shape hown3; subst hv3; clear hown3 hg3 hat3))
      all_goals (
        go_wp2_with fail
        go_ret
        have hown := HO3.out
        rw [← itmCells_append] at hown
        have hlen : (takeI l k true).length = k + (n - (k + 1)) := by have := hown.1; rw [itmCells_len] at this; unfold takeI delI; rw [if_pos rfl]; omega
        exact ⟨k, true, k + (n - (k + 1)), a3, c3, HOk.out, hlen.symm, rfl, own_mono (by unfold takeI delI; rw [if_pos rfl]; exact hown) HBw.out.size, HBw.out.trans (HB3.out.mono HBw.out.size)⟩)
set_option maxRecDepth 100000 in
set_option maxHeartbeats 8000000 in
theorem rdelI_nil {w : World} (key : ByteArray) (hkey : key.size ≤ 9223372036854775807) :
    Calls Tryz.prog 112 #[.slice none 0 0, .string key] w (DelRes [] key w) := by
  obtain ⟨i0, hii, hz0, hz1, hz2⟩ := info_parts itmInfo
  have HF := Lib.hid (rfindI_any (c := 0) (l := []) (w := w) (Itms.nil_ _ _ none) (by simp) (by omega) key hkey)
  go_enter Tryz.func112, Tryz.ntmps112
  go_wp2_with fail
  refine HF.out.mono ?_
  rintro e w1 ⟨k, is, rfl, hok, hb1⟩
  obtain ⟨rfl, rfl⟩ := findI_nil hok
  have HOk := Lib.hid hok
  have HBw := Lib.hid hb1
  clear hok hb1 HF
  go_wp2_with (at_builtin; refine wpList_append_own_none rfl (.const (.slice none 0 0)) (.tmp 15) 131 rfl w1.heap.size 133 i0 4 Tryz.underlying131 hii _ 0 [] rfl (World.ownsRow_nil _ _ _ _) rfl ?_)
  go_ret
  exact ⟨0, false, 0, none, 0, HOk.out, rfl, rfl, World.ownsRow_nil _ _ _ _, HBw.out⟩
set_option maxRecDepth 100000 in
set_option maxHeartbeats 8000000 in
theorem rsetI_zeroC {w : World} (ad : Addr) (c : Nat) (hc : c ≤ 9223372036854775807) (h0 : 0 < c) (x : Itm) (hx : ItmOk x) :
    Calls Tryz.prog 111 #[.slice (some ad) 0 c, x.agg] w (SetRes [] x w) := by
  obtain ⟨i0, hii, hz0, hz1, hz2⟩ := info_parts itmInfo
  have hb0 : Below w.heap.size w (w.alloc (.cells #[.string x.key, .string x.vl, .int .i64 x.ov, .int .i64 x.sz] 133)) := (Below.refl _ _).alloc (Nat.le_refl _) _
  have hx0 := heap_alloc_new w (.cells #[.string x.key, .string x.vl, .int .i64 x.ov, .int .i64 x.sz] 133)
  have HB0 := Lib.hid hb0
  have HX0 := Lib.hid hx0
  have HF := Lib.hid (rfindI_any (c := c) (l := []) (w := w.alloc (.cells #[.string x.key, .string x.vl, .int .i64 x.ov, .int .i64 x.sz] 133)) (Itms.nil_ _ _ (some ad)) (by simp) (by omega) x.key (by have := hx.2.2.1; omega))
  clear hb0 hx0 hx
  unfold Itm.agg
  go_enter Tryz.func111, Tryz.ntmps111
  go_wp2_with fail
  refine HF.out.mono ?_
  rintro e w1 ⟨k, is, rfl, hok, hb1⟩
  obtain ⟨rfl, rfl⟩ := findI_nil hok
  have HOk := Lib.hid hok
  have hbw1 : Below w.heap.size w w1 := HB0.out.trans (hb1.mono HB0.out.size)
  have HBw := Lib.hid hbw1
  have HX : Hid (∀ W, Below w1.heap.size w1 W → W.cell? ⟨w.heap.size, 0, none⟩ = some (.string x.key) ∧ W.cell? ⟨w.heap.size, 1, none⟩ = some (.string x.vl) ∧ W.cell? ⟨w.heap.size, 2, none⟩ = some (.int .i64 x.ov) ∧ W.cell? ⟨w.heap.size, 3, none⟩ = some (.int .i64 x.sz)) := Lib.hid (fun W hb => by
    have h1 := (hb1.block w.heap.size (by simp)).trans HX0.out
    have h2 := (hb.block w.heap.size (blk_lt h1)).trans h1
    exact ⟨by rw [blk_cell h2]; rfl, by rw [blk_cell h2]; rfl, by rw [blk_cell h2]; rfl, by rw [blk_cell h2]; rfl⟩)
  obtain ⟨x0, x1, x2, x3⟩ := HX.out _ (Below.refl _ _)
  have y0 : (0 : Int) ≤ c := by omega
  clear hok hb1 hbw1 HF HX0 HB0
  have z1 : (0 = c) = False := eq_false (by omega)
  have z2 : (c = 0) = False := eq_false (by omega)
  go_upto_region 5 with fail
  go_region_law (first
    | (refine step_append_own _ (by rfl) (.const (.slice none 0 0)) (.tmp 25) 131 (by rfl) w1.heap.size 133 i0 _ 4 48 Tryz.underlying131 hii hz0 hz1 hz2 (by rfl) (by omega) (.slice none 0 0) 0 [] (by simp [Act.eval]) (World.ownsRow_nil _ _ _ _) ad 0 c [] (by simp [Act.eval, Act.put]) (by rfl) (fun j u h => by cases h) (by simp) (by unfold maxLen; omega) (by omega) (by simp) ?_; intro v1 u1 hown1 hg1 hat1; rw [Nat.zero_add, List.nil_append] at hown1; have HO1 := Lib.hid hown1; have HG1 := Lib.hid hg1; have HB1 : Hid (Below w1.heap.size w1 u1) := Lib.hid (Below.grown (by ((repeat (with_reducible (first | assumption | exact Below.refl _ _ | refine Below.drew ?_ | refine Below.alloc ?_ ?_ _))); all_goals (simp <;> omega))) hg1 (by simp) (fun k hk => by cases hk)); obtain ⟨a1, c1, hv1, _⟩ := own_shape hown1; subst hv1; obtain ⟨x0, x1, x2, x3⟩ := HX.out _ HB1.out; clear hown1 hg1 hat1)
    | (refine step_append_own _ (by rfl) (.tmp 26) (.tmp 28) 131 (by rfl) w1.heap.size 133 i0 _ 4 48 Tryz.underlying131 hii hz0 hz1 hz2 (by rfl) (by omega) (.slice a1 0 c1) 0 [] (by simp [Act.eval, Act.put]) (HO1.out.alloc _) ⟨u1.heap.size, 0, none⟩ 1 1 [.string x.key, .string x.vl, .int .i64 x.ov, .int .i64 x.sz] (by simp [Act.eval, Act.put]) (by rfl) (World.news_of_block (new_at _ _ _ (by simp))) (itmCells_one [x]) (by unfold maxLen; omega) (by omega) (Nat.le_trans HB1.out.size (by simp)) ?_; intro v2 u2 hown2 hg2 hat2; rw [Nat.zero_add, List.nil_append] at hown2; have HO2 := Lib.hid hown2; have HB2 : Hid (Below w1.heap.size w1 u2) := Lib.hid ((HB1.out.alloc HB1.out.size _).grown hg2 (Nat.le_trans HB1.out.size (by simp)) (fun k hk => (HO1.out.lt k hk).1)); obtain ⟨a2, c2', hv2, _⟩ := own_shape hown2; subst hv2; clear hown2 hg2 hat2)
    | (refine step_append_own _ (by rfl) (.tmp 26) (.tmp 28) 131 (by rfl) w1.heap.size 133 i0 _ 4 48 Tryz.underlying131 hii hz0 hz1 hz2 (by rfl) (by omega) (.slice a1 0 c1) 0 [] (by simp [Act.eval, Act.put]) HO1.out ⟨w1.heap.size, 0, none⟩ 1 1 [.string x.key, .string x.vl, .int .i64 x.ov, .int .i64 x.sz] (by simp [Act.eval, Act.put]) (by rfl) (World.news_of_block ((HG1.out.block _ (by simp) (by simp [Value.ownBlock])).trans (new_at _ _ _ (by simp)))) (itmCells_one [x]) (by unfold maxLen; omega) (by omega) HB1.out.size ?_; intro v2 u2 hown2 hg2 hat2; rw [Nat.zero_add, List.nil_append] at hown2; have HO2 := Lib.hid hown2; have HB2 : Hid (Below w1.heap.size w1 u2) := Lib.hid (HB1.out.grown hg2 HB1.out.size (fun k hk => (HO1.out.lt k hk).1)); obtain ⟨a2, c2', hv2, _⟩ := own_shape hown2; subst hv2; clear hown2 hg2 hat2)
    | (refine step_append_own _ (by rfl) (.tmp 29) (.tmp 30) 131 (by rfl) w1.heap.size 133 i0 _ 4 48 Tryz.underlying131 hii hz0 hz1 hz2 (by rfl) (by omega) (.slice a2 1 c2') 1 [.string x.key, .string x.vl, .int .i64 x.ov, .int .i64 x.sz] (by simp [Act.eval, Act.put]) HO2.out ad 0 c [] (by simp [Act.eval, Act.put]) (by rfl) (fun j u h => by cases h) (by simp) (by unfold maxLen; omega) (by omega) HB2.out.size ?_; intro v3 u3 hown3 hg3 hat3; rw [List.append_nil] at hown3; have HO3 := Lib.hid hown3; have HB3 := Lib.hid (HB2.out.grown hg3 HB2.out.size (fun k hk => (HO2.out.lt k hk).1)); obtain ⟨a3, c3, hv3, _⟩ := own_shape hown3; subst hv3; clear hown3 hg3 hat3)
    | (refine step_append_own _ (by rfl) (.tmp 29) (.tmp 30) 131 (by rfl) w1.heap.size 133 i0 _ 4 48 Tryz.underlying131 hii hz0 hz1 hz2 (by rfl) (by omega) (.slice a2 1 c2') 1 [.string x.key, .string x.vl, .int .i64 x.ov, .int .i64 x.sz] (by simp [Act.eval, Act.put]) HO2.out ad 0 0 [] (by simp [Act.eval, Act.put]) (by rfl) (fun j u h => by cases h) (by simp) (by unfold maxLen; omega) (by omega) HB2.out.size ?_; intro v3 u3 hown3 hg3 hat3; rw [List.append_nil] at hown3; have HO3 := Lib.hid hown3; have HB3 := Lib.hid (HB2.out.grown hg3 HB2.out.size (fun k hk => (HO2.out.lt k hk).1)); obtain ⟨a3, c3, hv3, _⟩ := own_shape hown3; subst hv3; clear hown3 hg3 hat3))
  all_goals (
    go_wp2_with fail
    go_ret
    exact ⟨0, false, 1, a3, c3, HOk.out, rfl, rfl, own_mono HO3.out HBw.out.size, HBw.out.trans (HB3.out.mono HBw.out.size)⟩)
set_option maxRecDepth 100000 in
set_option maxHeartbeats 8000000 in
theorem rsetI_zero0 {w : World} (ad : Addr) (x : Itm) (hx : ItmOk x) :
    Calls Tryz.prog 111 #[.slice (some ad) 0 0, x.agg] w (SetRes [] x w) := by
  obtain ⟨i0, hii, hz0, hz1, hz2⟩ := info_parts itmInfo
  have hb0 : Below w.heap.size w (w.alloc (.cells #[.string x.key, .string x.vl, .int .i64 x.ov, .int .i64 x.sz] 133)) := (Below.refl _ _).alloc (Nat.le_refl _) _
  have hx0 := heap_alloc_new w (.cells #[.string x.key, .string x.vl, .int .i64 x.ov, .int .i64 x.sz] 133)
  have HB0 := Lib.hid hb0
  have HX0 := Lib.hid hx0
  have HF := Lib.hid (rfindI_any (c := 0) (l := []) (w := w.alloc (.cells #[.string x.key, .string x.vl, .int .i64 x.ov, .int .i64 x.sz] 133)) (Itms.nil_ _ _ (some ad)) (by simp) (by omega) x.key (by have := hx.2.2.1; omega))
  clear hb0 hx0 hx
  unfold Itm.agg
  go_enter Tryz.func111, Tryz.ntmps111
  go_wp2_with fail
  refine HF.out.mono ?_
  rintro e w1 ⟨k, is, rfl, hok, hb1⟩
  obtain ⟨rfl, rfl⟩ := findI_nil hok
  have HOk := Lib.hid hok
  have hbw1 : Below w.heap.size w w1 := HB0.out.trans (hb1.mono HB0.out.size)
  have HBw := Lib.hid hbw1
  have HX : Hid (∀ W, Below w1.heap.size w1 W → W.cell? ⟨w.heap.size, 0, none⟩ = some (.string x.key) ∧ W.cell? ⟨w.heap.size, 1, none⟩ = some (.string x.vl) ∧ W.cell? ⟨w.heap.size, 2, none⟩ = some (.int .i64 x.ov) ∧ W.cell? ⟨w.heap.size, 3, none⟩ = some (.int .i64 x.sz)) := Lib.hid (fun W hb => by
    have h1 := (hb1.block w.heap.size (by simp)).trans HX0.out
    have h2 := (hb.block w.heap.size (blk_lt h1)).trans h1
    exact ⟨by rw [blk_cell h2]; rfl, by rw [blk_cell h2]; rfl, by rw [blk_cell h2]; rfl, by rw [blk_cell h2]; rfl⟩)
  obtain ⟨x0, x1, x2, x3⟩ := HX.out _ (Below.refl _ _)
  clear hok hb1 hbw1 HF HX0 HB0
  go_upto_region 5 with fail
  go_region_law (first
    | (refine step_append_own _ (by rfl) (.const (.slice none 0 0)) (.tmp 25) 131 (by rfl) w1.heap.size 133 i0 _ 4 48 Tryz.underlying131 hii hz0 hz1 hz2 (by rfl) (by omega) (.slice none 0 0) 0 [] (by simp [Act.eval]) (World.ownsRow_nil _ _ _ _) ad 0 0 [] (by simp [Act.eval, Act.put]) (by rfl) (fun j u h => by cases h) (by simp) (by unfold maxLen; omega) (by omega) (by simp) ?_; intro v1 u1 hown1 hg1 hat1; rw [Nat.zero_add, List.nil_append] at hown1; have HO1 := Lib.hid hown1; have HG1 := Lib.hid hg1; have HB1 : Hid (Below w1.heap.size w1 u1) := Lib.hid (Below.grown (by ((repeat (with_reducible (first | assumption | exact Below.refl _ _ | refine Below.drew ?_ | refine Below.alloc ?_ ?_ _))); all_goals (simp <;> omega))) hg1 (by simp) (fun k hk => by cases hk)); obtain ⟨a1, c1, hv1, _⟩ := own_shape hown1; subst hv1; obtain ⟨x0, x1, x2, x3⟩ := HX.out _ HB1.out; clear hown1 hg1 hat1)
    | (refine step_append_own _ (by rfl) (.tmp 26) (.tmp 28) 131 (by rfl) w1.heap.size 133 i0 _ 4 48 Tryz.underlying131 hii hz0 hz1 hz2 (by rfl) (by omega) (.slice a1 0 c1) 0 [] (by simp [Act.eval, Act.put]) (HO1.out.alloc _) ⟨u1.heap.size, 0, none⟩ 1 1 [.string x.key, .string x.vl, .int .i64 x.ov, .int .i64 x.sz] (by simp [Act.eval, Act.put]) (by rfl) (World.news_of_block (new_at _ _ _ (by simp))) (itmCells_one [x]) (by unfold maxLen; omega) (by omega) (Nat.le_trans HB1.out.size (by simp)) ?_; intro v2 u2 hown2 hg2 hat2; rw [Nat.zero_add, List.nil_append] at hown2; have HO2 := Lib.hid hown2; have HB2 : Hid (Below w1.heap.size w1 u2) := Lib.hid ((HB1.out.alloc HB1.out.size _).grown hg2 (Nat.le_trans HB1.out.size (by simp)) (fun k hk => (HO1.out.lt k hk).1)); obtain ⟨a2, c2', hv2, _⟩ := own_shape hown2; subst hv2; clear hown2 hg2 hat2)
    | (refine step_append_own _ (by rfl) (.tmp 26) (.tmp 28) 131 (by rfl) w1.heap.size 133 i0 _ 4 48 Tryz.underlying131 hii hz0 hz1 hz2 (by rfl) (by omega) (.slice a1 0 c1) 0 [] (by simp [Act.eval, Act.put]) HO1.out ⟨w1.heap.size, 0, none⟩ 1 1 [.string x.key, .string x.vl, .int .i64 x.ov, .int .i64 x.sz] (by simp [Act.eval, Act.put]) (by rfl) (World.news_of_block ((HG1.out.block _ (by simp) (by simp [Value.ownBlock])).trans (new_at _ _ _ (by simp)))) (itmCells_one [x]) (by unfold maxLen; omega) (by omega) HB1.out.size ?_; intro v2 u2 hown2 hg2 hat2; rw [Nat.zero_add, List.nil_append] at hown2; have HO2 := Lib.hid hown2; have HB2 : Hid (Below w1.heap.size w1 u2) := Lib.hid (HB1.out.grown hg2 HB1.out.size (fun k hk => (HO1.out.lt k hk).1)); obtain ⟨a2, c2', hv2, _⟩ := own_shape hown2; subst hv2; clear hown2 hg2 hat2)
    | (refine step_append_own _ (by rfl) (.tmp 29) (.tmp 30) 131 (by rfl) w1.heap.size 133 i0 _ 4 48 Tryz.underlying131 hii hz0 hz1 hz2 (by rfl) (by omega) (.slice a2 1 c2') 1 [.string x.key, .string x.vl, .int .i64 x.ov, .int .i64 x.sz] (by simp [Act.eval, Act.put]) HO2.out ad 0 0 [] (by simp [Act.eval, Act.put]) (by rfl) (fun j u h => by cases h) (by simp) (by unfold maxLen; omega) (by omega) HB2.out.size ?_; intro v3 u3 hown3 hg3 hat3; rw [List.append_nil] at hown3; have HO3 := Lib.hid hown3; have HB3 := Lib.hid (HB2.out.grown hg3 HB2.out.size (fun k hk => (HO2.out.lt k hk).1)); obtain ⟨a3, c3, hv3, _⟩ := own_shape hown3; subst hv3; clear hown3 hg3 hat3)
    | (refine step_append_own _ (by rfl) (.tmp 29) (.tmp 30) 131 (by rfl) w1.heap.size 133 i0 _ 4 48 Tryz.underlying131 hii hz0 hz1 hz2 (by rfl) (by omega) (.slice a2 1 c2') 1 [.string x.key, .string x.vl, .int .i64 x.ov, .int .i64 x.sz] (by simp [Act.eval, Act.put]) HO2.out ad 0 0 [] (by simp [Act.eval, Act.put]) (by rfl) (fun j u h => by cases h) (by simp) (by unfold maxLen; omega) (by omega) HB2.out.size ?_; intro v3 u3 hown3 hg3 hat3; rw [List.append_nil] at hown3; have HO3 := Lib.hid hown3; have HB3 := Lib.hid (HB2.out.grown hg3 HB2.out.size (fun k hk => (HO2.out.lt k hk).1)); obtain ⟨a3, c3, hv3, _⟩ := own_shape hown3; subst hv3; clear hown3 hg3 hat3))
  all_goals (
    go_wp2_with fail
    go_ret
    exact ⟨0, false, 1, a3, c3, HOk.out, rfl, rfl, own_mono HO3.out HBw.out.size, HBw.out.trans (HB3.out.mono HBw.out.size)⟩)
set_option maxRecDepth 100000 in
set_option maxHeartbeats 8000000 in
theorem rdelI_zero {w : World} (ad : Addr) (c : Nat) (key : ByteArray) (hkey : key.size ≤ 9223372036854775807) :
    Calls Tryz.prog 112 #[.slice (some ad) 0 c, .string key] w (DelRes [] key w) := by
  obtain ⟨i0, hii, hz0, hz1, hz2⟩ := info_parts itmInfo
  have HF := Lib.hid (rfindI_any (c := c) (l := []) (w := w) (Itms.nil_ _ _ (some ad)) (by simp) (by omega) key hkey)
  go_enter Tryz.func112, Tryz.ntmps112
  go_wp2_with fail
  refine HF.out.mono ?_
  rintro e w1 ⟨k, is, rfl, hok, hb1⟩
  obtain ⟨rfl, rfl⟩ := findI_nil hok
  have HOk := Lib.hid hok
  have HBw := Lib.hid hb1
  clear hok hb1 HF
  go_wp2_with (at_builtin; refine wpList_append_own_at _ rfl (.const (.slice none 0 0)) (.tmp 15) 131 rfl w1.heap.size 133 i0 _ 4 48 Tryz.underlying131 hii hz0 hz1 hz2 rfl (by omega) _ 0 [] rfl (World.ownsRow_nil _ _ _ _) ad 0 c [] rfl (by rfl) (fun j u h => by cases h) (by simp) (by unfold maxLen; omega) (by omega) (by simp) ?_; intro v1 w8 hown8 hg8 _ _; rw [Nat.zero_add, List.nil_append] at hown8; obtain ⟨a8, c8, hv8, _⟩ := own_shape hown8; subst hv8; have HO8 := Lib.hid hown8; have HB8 := Lib.hid ((Below.refl w1.heap.size w1).grown hg8 (by simp) (fun k hk => by cases hk)); clear hown8 hg8)
  go_ret
  exact ⟨0, false, 0, a8, c8, HOk.out, rfl, rfl, own_mono HO8.out HBw.out.size, HBw.out.trans (HB8.out.mono HBw.out.size)⟩
section
variable {w : World} {ao : Option Addr} {n c : Nat} {l : List Itm} (hE : ItmsIn w ao n c l) (hn : n ≤ 1000000) {W : World} (hb : Below w.heap.size w W)
include hE hn hb
/-- SetItem of whatever slice came in. -/
theorem rsetI_any (x : Itm) (hx : ItmOk x) : Calls Tryz.prog 111 #[.slice ao n c, x.agg] W (SetRes l x W) := by
  have hI := (hE.itms.below hb).mono hb.size
  have hsz := hE.sz
  cases ao with
  | none =>
    obtain ⟨rfl, rfl⟩ := hE.nil_ rfl
    have hl0 : l = [] := List.eq_nil_of_length_eq_zero hE.itms.1
    subst hl0
    exact rsetI_nil x hx
  | some ad =>
    by_cases h0 : n = 0
    · subst h0
      have hl0 : l = [] := List.eq_nil_of_length_eq_zero hE.itms.1
      subst hl0
      rcases Nat.eq_zero_or_pos c with rfl | h0
      · exact rsetI_zero0 ad x hx
      · exact rsetI_zeroC ad c (by omega) h0 x hx
    · obtain ⟨b, o, h, _, _⟩ := hI.2 (by omega)
      injection h with h
      subst h
      exact rsetI_some hI hE.ok hE.le (by omega) hn x hx
/-- DelItem of whatever slice came in. -/
theorem rdelI_any (key : ByteArray) (hkey : key.size ≤ 9223372036854775807) : Calls Tryz.prog 112 #[.slice ao n c, .string key] W (DelRes l key W) := by
  have hI := (hE.itms.below hb).mono hb.size
  have hsz := hE.sz
  cases ao with
  | none =>
    obtain ⟨rfl, rfl⟩ := hE.nil_ rfl
    have hl0 : l = [] := List.eq_nil_of_length_eq_zero hE.itms.1
    subst hl0
    exact rdelI_nil key hkey
  | some ad =>
    by_cases h0 : n = 0
    · subst h0
      have hl0 : l = [] := List.eq_nil_of_length_eq_zero hE.itms.1
      subst hl0
      exact rdelI_zero ad c key hkey
    · obtain ⟨b, o, h, _, _⟩ := hI.2 (by omega)
      injection h with h
      subst h
      exact rdelI_some hI hE.ok hE.le (by omega) hn key hkey
end
end
end Go.Proofs.YtmdidmllaldbaaaGreat
