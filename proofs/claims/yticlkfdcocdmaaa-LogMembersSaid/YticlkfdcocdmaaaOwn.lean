/- The walks of slices.Clone (of entries) and of rlog.own: the same entries, in new memory. -/
import Derived.Test.YticlkfdcocdmaaaClone
import Derived.Test.YticlkfdcocdmaaaEntB
import Derived.Lib.SliceRun
namespace Go.Proofs.Yticlkfdcocdmaaa
open Go.RowKit
set_option linter.unusedVariables false
theorem entinfo : (Try.prog.info? 32).map (fun i => (i.zero, i.size, i.bytes)) = some (some (.agg #[.int .i64 0, .int .i64 0, .int .i64 0, .string ⟨#[]⟩]), 4, 40) := by kernel_rfl
/-- A result that owns l. -/
def OwnsEnts (B n : Nat) (l : List Ent) (w : World) (e : Ending) (w' : World) : Prop :=
  ∃ ao cap, e = .returned (.slice ao n cap) ∧ w'.ownsRow B 32 4 (.slice ao n cap) n (entCells l) ∧ Below B w w'
set_option maxHeartbeats 400000 in
theorem cloneE_any (ao : Option Addr) (n c : Nat) (l : List Ent) (w : World) (hl : Ents w w.heap.size ao n l) (hn : n * 40 ≤ 140737488355328) (hnil : ao = none → n = 0) :
    Calls Try.prog 32 #[.slice ao n c] w (OwnsEnts w.heap.size n l w) := by
  cases ao with
  | none =>
    obtain rfl : n = 0 := hnil rfl
    have hl0 : l = [] := List.eq_nil_of_length_eq_zero hl.1
    subst hl0
    have he := Lib.run_eql_slice_nil (P := Try.prog) w 22 32 none 0 c 0 0 Try.underlying22
    go_enter Try.func32, Try.ntmps32
    go_wp2
    go_ret
    exact ⟨none, 0, rfl, World.ownsRow_nil _ _ _ _, Below.refl _ _⟩
  | some ad =>
    obtain ⟨i0, hi, hz0, hz1, hz2⟩ := info_parts entinfo
    have he := Lib.run_eql_slice_nil (P := Try.prog) w 22 32 (some ad) n c 0 0 Try.underlying22
    have hlen := entCells_len l
    rw [hl.1] at hlen
    have hcells := (hl.below ((Below.refl w.heap.size w).alloc (Nat.le_refl _) (.cells #[] 32))).cells
    have HC := Lib.hid hcells
    have HLen := Lib.hid hlen
    have HL := Lib.hid hl
    have HOwn := Lib.hid (World.ownsRow_made (base := w.heap.size) (e := 32) (size := 4) w #[] 0 (Nat.le_refl _) (by unfold maxLen; omega) rfl)
    clear hl hcells hlen hnil
    go_enter Try.func32, Try.ntmps32
    go_wp2_with (at_builtin; refine wpList_append_own_at _ rfl (.tmp 5) (.tmp 6) 22 rfl w.heap.size 32 i0 _ 4 40 Try.underlying22 hi hz0 hz1 hz2 rfl (by omega) _ 0 [] rfl HOwn.out ad n c (entCells l) rfl HLen.out HC.out (entCells_one l) (by unfold maxLen; omega) (by omega) (by simp) ?_; intro v1 w1 hown1 hg1 _ _; obtain ⟨ao1, cap1, hv1, hcap1, hn1, ha1⟩ := own_shape hown1; rw [Nat.zero_add] at hv1; subst hv1)
    go_ret
    have hg1' : (w.alloc (.cells #[] 32)).grownBy w1 (some w.heap.size) := hg1
    have hb1 : Below w.heap.size w w1 := ((Below.refl _ _).alloc (Nat.le_refl _) _).grown hg1' (by simp) (fun k hk => by injection hk with hk; omega)
    rw [Nat.zero_add] at hown1
    exact ⟨ao1, cap1, rfl, hown1, hb1⟩
theorem set_same {α : Type} (l : List α) (j : Nat) (u : α) (h : l[j]? = some u) : l.set j u = l := by
  apply List.ext_getElem?
  intro i
  rw [List.getElem?_set]
  split
  · rename_i hij
    subst hij
    rw [if_pos (List.getElem?_eq_some_iff.1 h).1, h]
  · rfl
set_option maxHeartbeats 400000 in
theorem own_any (ao : Option Addr) (n c : Nat) (l : List Ent) (w : World) (hl : Ents w w.heap.size ao n l) (hn : n * 40 ≤ 140737488355328) (hnil : ao = none → n = 0) (hs : ∀ e ∈ l, e.dt.size ≤ 281474976710656) :
    Calls Try.prog 30 #[.slice ao n c] w (OwnsEnts w.heap.size n l w) := by
  have HC := Lib.hid (cloneE_any ao n c l w hl hn hnil)
  have hl1 := hl.1
  have HL1 := Lib.hid hl1
  have HS := Lib.hid hs
  clear hl hl1 hs hnil
  obtain ⟨B, hB⟩ : ∃ B, B = w.heap.size := ⟨_, rfl⟩
  rw [← hB] at HC ⊢
  have hBw : B ≤ w.heap.size := Nat.le_of_eq hB
  clear hB
  go_enter Try.func30, Try.ntmps30
  go_wp2_with (go_at_call 32; refine (HC.out).mono ?_; rintro e w1 ⟨ao1, cap1, rfl, hown1, hb1⟩; have HOwn1 := Lib.hid hown1; have HB1 := Lib.hid hb1; have hBs := Nat.le_trans hBw hb1.size; clear hown1 hb1)
  go_loopw [9] (fun i wr => ∃ k : Nat, k ≤ n ∧ i = .int .i64 k ∧ wr.ownsRow B 32 4 (.slice ao1 n cap1) n (entCells l) ∧ Below B w wr ∧ B ≤ wr.heap.size) (fun i _ => n - (intOf i).toNat)
  case atStart => exact ⟨0, Nat.zero_le _, rfl, HOwn1.out, HB1.out, hBs⟩
  case round =>
    obtain ⟨k, hk, rfl, hown, hb, hBr⟩ := hrel
    by_cases hlt : k < n
    · obtain ⟨g, cap', hv, hg1, hg2⟩ := hown.form (by omega)
      injection hv with hv _ hcap'
      subst hv
      subst hcap'
      have hkl : k < l.length := by rw [HL1.out]; exact hlt
      obtain ⟨e, he⟩ : ∃ e, l[k]? = some e := ⟨l[k], List.getElem?_eq_getElem hkl⟩
      have hc : wr.cell? ⟨g, k * 4 + 3, none⟩ = some (.string e.dt) := by
        rw [hown.cellAt (k * 4 + 3) (by omega), entCells_get _ _ _ (by omega), he]; rfl
      have hes : e.dt.size ≤ 281474976710656 := HS.out e (List.mem_of_getElem? he)
      have hset : (entCells l).set (k * 4 + 3) (.string e.dt) = entCells l := set_same _ _ _ (by rw [entCells_get _ _ _ (by omega), he]; rfl)
      have HE := Lib.hid he
      have HO := Lib.hid hown
      have HB := Lib.hid hb
      have HSet := Lib.hid hset
      have hkb : k * 4 + 3 < n * 4 := by omega
      clear he hown hb hset
      go_wp2_with (go_at_call 31; refine (clone_any _ _ hes).mono ?_; rintro e' w2 ⟨rfl, hb2⟩; have hc2 : w2.cell? ⟨g, k * 4 + 3, none⟩ = some (.string e.dt) := ((hb2.cell (p := ⟨g, k * 4 + 3, none⟩) hg2).trans hc); have hf2 : w2.frozen? ⟨g, k * 4 + 3, none⟩ = false := (hb2.frozen (p := ⟨g, k * 4 + 3, none⟩) hg2).trans (HO.out.frozenAt _); have HB2 := Lib.hid hb2; clear hb2)
      go_roundw
      case rel => exact ⟨k + 1, by omega, by go_num, by
          have h1 : w2.ownsRow B 32 4 (.slice (some ⟨g, 0, none⟩) n cap1) n (entCells l) := HO.out.kept (row := none) ⟨HB2.out.os, HB2.out.tape, HB2.out.output, HB2.out.size, fun k hk _ => HB2.out.block k hk⟩ (.inr (by simp [Value.ownBlock]))
          have h2 := (h1.stored (k * 4 + 3) (.string e.dt)).1
          rw [HSet.out] at h2
          exact h2, (HB.out.trans (HB2.out.mono hBr)).setCell hg1 _, by simp; exact Nat.le_trans hBr HB2.out.size⟩
      case measure => simp [intOf]; omega
    · have HO := Lib.hid hown
      have HB := Lib.hid hb
      clear hown hb
      go_wp2
      go_ret
      exact ⟨ao1, cap1, rfl, HO.out, HB.out⟩
end Go.Proofs.Yticlkfdcocdmaaa
