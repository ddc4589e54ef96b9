/- The walks of slices.Grow (of nil) and slices.Concat (of three), of children. -/
import Derived.Test.YtmdidmllaldbaaaGreatOwnC
import Derived.Test.YtmdidmllaldbaaaGreatRowsN
import Derived.Lib.AppendZerosOnto
import Derived.Laws.AppendOwnNone
namespace Go.Proofs.YtmdidmllaldbaaaGreat
open Go.RowKit
set_option linter.unusedVariables false
/-- A new row that has room. -/
def GrownC (B : Nat) (w : World) (e : Ending) (w' : World) : Prop :=
  ∃ ao cap, e = .returned (.slice ao 0 cap) ∧ w'.ownsRow B 192 2 (.slice ao 0 cap) 0 [] ∧ Below B w w'
set_option maxRecDepth 20000 in
set_option maxHeartbeats 2000000 in
theorem growC_nil (n : Nat) (hn : n ≤ 4000000) (w : World) :
    Calls Tryz.prog 233 #[.slice none 0 0, .int .i64 n] w (GrownC w.heap.size w) := by
  by_cases h0 : n = 0
  · subst h0
    go_enter Tryz.func233, Tryz.ntmps233
    go_wp2_with fail
    go_ret
    exact ⟨none, 0, rfl, World.ownsRow_nil _ _ _ _, Below.refl _ _⟩
  · obtain ⟨i0, hi, hz0, hz1, hz2⟩ := info_parts chdInfo
    have hold : (Builtin.firstCells i0.size 0 (.slice none 0 0)).run Tryz.prog w.drew = .ok (#[] : Array Value) w.drew := run_firstCells_none w.drew i0.size 0 0 0
    have hrz : ∀ ty, (Builtin.append_ #[66, 3] ty #[.slice none 0 0, .int .i64 n]).run Tryz.prog w =
        .ok (.slice (some ⟨w.heap.size, 0, none⟩) n (grownCap w n 0 192)) (w.drew.alloc (.cells ((#[] : Array Value) ++ Builtin.zeroCells (Value.agg #[.string ⟨#[]⟩, .int .i64 0]).cells n ++ Builtin.zeroCells (Value.agg #[.string ⟨#[]⟩, .int .i64 0]).cells (grownCap w n 0 192 - n)) 192)) := fun ty => by
      have h := Lib.run_append_grow_zeros (P := Tryz.prog) w 66 3 ty 192 i0 _ .i64 .i64 Tryz.underlying66 Tryz.underlying3 hi hz0 none 0 0 [] hold n (by omega) (by omega) (by omega) (by omega)
        (by rw [hz2]; omega) (by rw [hz2]; have : Builtin.nextslicecap (0 + n) 0 = 0 + n := by unfold Builtin.nextslicecap; simp; omega
                                 rw [this]; omega)
      rw [Nat.zero_add] at h
      exact h
    have hGn : n ≤ grownCap w n 0 192 := grownCap_ge w _ _ _
    have hG9 : grownCap w n 0 192 ≤ maxLen := grownCap_le_maxLen w n 0 _ (by unfold maxLen; omega)
    obtain ⟨G, hG⟩ : ∃ G, G = grownCap w n 0 192 := ⟨_, rfl⟩
    rw [← hG] at hrz hGn hG9
    have hown : ∀ Z : Array Value, Z.size = G * 2 → ((w.alloc (.cells Z 192)).drew).ownsRow w.heap.size 192 2 (.slice (some ⟨w.heap.size, 0, none⟩) 0 G) 0 [] :=
      fun Z hZ => World.ownsRow_made (base := w.heap.size) (e := 192) (size := 2) w Z G (Nat.le_refl _) hG9 hZ
    have HO := Lib.hid hown
    have hx0 : (0 : Int) < n := by omega
    have hG63 : G ≤ 9223372036854775807 := by unfold maxLen at hG9; omega
    have HGn := Lib.hid hGn
    clear hold hG hown hG9 h0 hGn
    go_enter Tryz.func233, Tryz.ntmps233
    go_wp2_with (at_builtin; refine Lib.wpList_append_run _ rfl _ _ _ _ rfl _ _ rfl rfl _ _ (hrz _) ?_)
    go_ret
    exact ⟨_, _, rfl, HO.out _ (by
      rw [Array.size_append, size_zeroCells, size_zeroCells]
      have := HGn.out
      show n * 2 + (G - n) * 2 = G * 2
      omega), Below.drew ((Below.refl _ _).alloc (Nat.le_refl _) _)⟩
/-- A slice of children that is handed on: nil only if it is empty. -/
structure ChSrc (w : World) (B : Nat) (ao : Option Addr) (n c : Nat) (l : List Chd) : Prop where
  chds : Chds w B ao n l
  nil_ : ao = none → n = 0 ∧ c = 0
/-- One append of such a slice. -/
def catN (ls : List (List Chd)) (k : Nat) : List Chd := (ls.take k).flatten
def sumN (ns : List Nat) (k : Nat) : Nat := (ns.take k).sum
set_option maxRecDepth 20000 in
set_option maxHeartbeats 8000000 in
theorem concatC_any {w : World} {g n1 c1 n2 c2 n3 c3 : Nat} {a1 a2 a3 : Option Addr} {T : TypeId} {l1 l2 l3 : List Chd} (hg : w.heap[g]? = some (.cells #[.slice a1 n1 c1, .slice a2 n2 c2, .slice a3 n3 c3] T (0, 0)))
    (h1 : ChSrc w w.heap.size a1 n1 c1 l1) (h2 : ChSrc w w.heap.size a2 n2 c2 l2) (h3 : ChSrc w w.heap.size a3 n3 c3 l3) (hn : n1 + n2 + n3 ≤ 4000000) :
    Calls Tryz.prog 181 #[.slice (some ⟨g, 0, none⟩) 3 3] w (OwnsChds w.heap.size (n1 + n2 + n3) (l1 ++ l2 ++ l3) w) := by
  obtain ⟨i0, hi, hz0, hz1, hz2⟩ := info_parts chdInfo
  have HGr : ∀ N : Nat, N = n1 + n2 + n3 → Hid (Calls Tryz.prog 233 #[.slice none 0 0, .int .i64 N] w (GrownC w.heap.size w)) := fun N hN => Lib.hid (growC_nil N (by omega) w)
  obtain ⟨N, hN⟩ : ∃ N, N = n1 + n2 + n3 := ⟨_, rfl⟩
  have HGr := HGr N hN
  obtain ⟨L, hL⟩ : ∃ L, L = l1 ++ l2 ++ l3 := ⟨_, rfl⟩
  rw [← hN, ← hL]
  have HN := Lib.hid hN
  have HL : Hid (L = catN [l1, l2, l3] 3) := Lib.hid (by rw [hL]; simp [catN])
  clear hN hL
  have hc : ∀ W : World, W.heap[g]? = w.heap[g]? → W.cell? ⟨g, 0, none⟩ = some (.slice a1 n1 c1) ∧ W.cell? ⟨g, 1, none⟩ = some (.slice a2 n2 c2) ∧ W.cell? ⟨g, 2, none⟩ = some (.slice a3 n3 c3) := by
    intro W hW
    have hk := hW.trans hg
    refine ⟨?_, ?_, ?_⟩ <;> rw [blk_cell hk] <;> rfl
  have HC := Lib.hid hc
  have hgl := blk_lt hg
  clear hg hc
  have H1 := Lib.hid h1
  have H2 := Lib.hid h2
  have H3 := Lib.hid h3
  have b1 : n1 ≤ 4000000 := by omega
  have b2 : n2 ≤ 4000000 := by omega
  have b3 : n3 ≤ 4000000 := by omega
  clear h1 h2 h3
  obtain ⟨e0, e1, e2⟩ := HC.out w rfl
  go_enter Tryz.func181, Tryz.ntmps181
  go_wp2_with fail
  go_loopw [3, 11] (fun s i wr => ∃ (k m : Nat), k ≤ 3 ∧ i = .int .i64 k ∧ s = .int .i64 m ∧ Hid (m = sumN [n1, n2, n3] k) ∧ m ≤ 4000000 ∧ w = wr) (fun _ i _ => 3 - (intOf i).toNat)
  case atStart => exact ⟨0, 0, by omega, rfl, rfl, Lib.hid rfl, by omega, rfl⟩
  case round =>
    obtain ⟨k, m, hk, rfl, rfl, HM, hm, rfl⟩ := hrel
    by_cases hlt : k < 3
    · have hx1 : (0 : Int) ≤ k := by omega
      have hx2 : (k : Int) < 3 := by omega
      obtain ⟨ak, nk, ck, hck, hmk, hnk⟩ : ∃ ak nk ck, w.cell? ⟨g, k, none⟩ = some (.slice ak nk ck) ∧ m + nk = sumN [n1, n2, n3] (k + 1) ∧ m + nk ≤ 4000000 := by
        have hM := HM.out
        rcases (show k = 0 ∨ k = 1 ∨ k = 2 by omega) with rfl | rfl | rfl
        · exact ⟨a1, n1, c1, e0, by rw [hM]; simp [sumN], by rw [hM]; simp [sumN]; omega⟩
        · exact ⟨a2, n2, c2, e1, by rw [hM]; simp [sumN], by rw [hM]; simp [sumN]; omega⟩
        · exact ⟨a3, n3, c3, e2, by rw [hM]; simp [sumN]; omega, by rw [hM]; simp [sumN]; omega⟩
      have HMK := Lib.hid hmk
      have hd : decide ((m : Int) + nk < 0) = false := by simp; omega
      clear hmk e0 e1 e2
      go_wp2_with fail
      go_roundw
      case rel => exact ⟨k + 1, m + nk, by omega, by go_num, by go_num, HMK, hnk, trivial⟩
      case measure => simp [intOf]; omega
    · obtain rfl : k = 3 := by omega
      have hM := HM.out
      have hm3 : m = N := by rw [hM, HN.out]; simp [sumN]; omega
      subst hm3
      clear hM HM
      go_wp2_with fail
      refine HGr.out.mono ?_
      rintro e w1 ⟨ao1, cap1, rfl, hown1, hb1⟩
      have HO1 := Lib.hid hown1
      have HB1 := Lib.hid hb1
      clear hown1 hb1 e0 e1 e2 HGr
      go_wp2_with fail
      go_loopw [6, 27] (fun v i wr => ∃ (k M : Nat) (ao : Option Addr) (cap : Nat), k ≤ 3 ∧ i = .int .i64 k ∧ v = .slice ao M cap ∧ Hid (M = sumN [n1, n2, n3] k) ∧ Hid (wr.ownsRow w.heap.size 192 2 (.slice ao M cap) M (chdCells (catN [l1, l2, l3] k))) ∧ Hid (Below w.heap.size w wr) ∧ M ≤ 4000000) (fun _ i _ => 3 - (intOf i).toNat)
      case atStart => exact ⟨0, 0, ao1, cap1, by omega, rfl, rfl, Lib.hid rfl, Lib.hid (by simpa [catN, chdCells] using HO1.out), HB1, by omega⟩
      case round =>
        obtain ⟨k, M, ao, cap, hk, rfl, rfl, HM, HO, HB, hM4⟩ := hrel
        by_cases hlt : k < 3
        · have hx1 : (0 : Int) ≤ k := by omega
          have hx2 : (k : Int) < 3 := by omega
          obtain ⟨e0, e1, e2⟩ := HC.out wr (HB.out.block g hgl)
          obtain ⟨ak, nk, ck, lk, hck, hmk, hnk, hsrc, hcat⟩ : ∃ ak nk ck lk, wr.cell? ⟨g, k, none⟩ = some (.slice ak nk ck) ∧ M + nk = sumN [n1, n2, n3] (k + 1) ∧ M + nk ≤ 4000000 ∧ ChSrc w w.heap.size ak nk ck lk ∧ catN [l1, l2, l3] (k + 1) = catN [l1, l2, l3] k ++ lk := by
            have hM := HM.out
            rcases (show k = 0 ∨ k = 1 ∨ k = 2 by omega) with rfl | rfl | rfl
            · exact ⟨a1, n1, c1, l1, e0, by rw [hM]; simp [sumN], by rw [hM]; simp [sumN]; omega, H1.out, by simp [catN]⟩
            · exact ⟨a2, n2, c2, l2, e1, by rw [hM]; simp [sumN], by rw [hM]; simp [sumN]; omega, H2.out, by simp [catN]⟩
            · exact ⟨a3, n3, c3, l3, e2, by rw [hM]; simp [sumN]; omega, by rw [hM]; simp [sumN]; have := HN.out; omega, H3.out, by simp [catN]⟩
          have HMK := Lib.hid hmk
          have HCat := Lib.hid hcat
          have hszr := HB.out.size
          have hlk : lk.length = nk := hsrc.chds.1
          have hsk := hsrc.chds.below HB.out
          have hnil := hsrc.nil_
          cases ak with
          | none =>
            obtain ⟨rfl, rfl⟩ := hnil rfl
            have hl0 : lk = [] := List.eq_nil_of_length_eq_zero hlk
            clear hmk e0 e1 e2 hsrc hcat hlk hsk hnil
            go_wp2_with (at_builtin; refine wpList_append_own_none rfl (.tmp 31) (.tmp 32) 66 rfl w.heap.size 192 i0 2 Tryz.underlying66 hi _ M _ rfl HO.out rfl ?_)
            go_roundw
            case rel => exact ⟨k + 1, M, ao, cap, by omega, by go_num, rfl, Lib.hid (by have := HMK.out; omega), Lib.hid (by rw [HCat.out, hl0, List.append_nil]; exact HO.out), HB, by omega⟩
            case measure => simp [intOf]; omega
          | some ad =>
            have hlen := chdCells_len lk
            rw [hlk] at hlen
            have HLn := Lib.hid hlen
            have HCl := Lib.hid hsk.cells
            clear hmk e0 e1 e2 hsrc hcat hlk hsk hnil hlen
            go_wp2_with (at_builtin; refine wpList_append_own_at _ rfl (.tmp 31) (.tmp 32) 66 rfl w.heap.size 192 i0 _ 2 24 Tryz.underlying66 hi hz0 hz1 hz2 rfl (by omega) _ M _ rfl HO.out ad nk ck (chdCells lk) rfl HLn.out HCl.out (chdCells_one lk) (by unfold maxLen; omega) (by omega) hszr ?_; intro v1 w8 hown8 hg8 _ _; obtain ⟨ao8, cap8, hv8, _⟩ := own_shape hown8; subst hv8; have HO8 := Lib.hid hown8; have HB8 := Lib.hid (HB.out.grown hg8 hszr (fun k hk => (HO.out.lt k hk).1)); clear hown8 hg8)
            go_roundw
            case rel => exact ⟨k + 1, M + nk, ao8, cap8, by omega, by go_num, rfl, HMK, Lib.hid (by rw [HCat.out, chdCells_append]; exact HO8.out), HB8, hnk⟩
            case measure => simp [intOf]; omega
        · obtain rfl : k = 3 := by omega
          have hM := HM.out
          have hm3 : M = m := by rw [hM, HN.out]; simp [sumN]; omega
          subst hm3
          have HO9 : Hid (wr.ownsRow w.heap.size 192 2 (.slice ao M cap) M (chdCells L)) := Lib.hid (by rw [HL.out]; exact HO.out)
          clear hM HM HO
          go_wp2_with fail
          go_ret
          exact ⟨ao, cap, rfl, HO9.out, HB.out⟩
end Go.Proofs.YtmdidmllaldbaaaGreat
