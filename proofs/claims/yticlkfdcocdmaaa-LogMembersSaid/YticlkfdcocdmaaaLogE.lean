/- The walk of a log's Add. -/
import Derived.Test.YticlkfdcocdmaaaLogD
import Derived.Deep.AppendLies
import Derived.Deep.RegionLaw
namespace Go.Proofs.Yticlkfdcocdmaaa
open Go.RowKit
set_option linter.unusedVariables false
theorem undrewL {B : Nat} {a w : World} (h : Below B a.drew w) : Below B a w := ⟨h.os, h.tape, h.output, h.size, h.block⟩
theorem own_ne {w : World} {b base : Nat} {T e : TypeId} {size n : Nat} {cs : Array Value} {v : Value} {xs : List Value} (hb : w.heap[b]? = some (.cells cs T (0, 0))) (hT : T ≠ e) (h : w.ownsRow base e size v n xs) : v.ownBlock ≠ some b := by
  rcases h.2 with ⟨rfl, _⟩ | ⟨g, cap, cur, rfl, _, hg, _⟩
  · simp [Value.ownBlock]
  · intro he
    have hgb : g = b := by simpa [Value.ownBlock] using he
    subst hgb
    rw [hb] at hg
    injection hg with hg
    injection hg with _ h2
    exact hT h2
/-- The parts of a log, for a walk that writes it. -/
theorem LogAt.parts {w : World} {B b : Nat} {x : LogV} (h : LogAt w B b x) : ∃ ao cap, B ≤ b ∧ w.heap[b]? = some (.cells #[.int .i64 x.base, .int .i64 x.term, .slice ao x.l.length cap] 61 (0, 0)) ∧ w.ownsRow B 32 4 (.slice ao x.l.length cap) x.l.length (entCells x.l) :=
  ⟨h.2.choose, h.2.choose_spec.choose, h.1, h.2.choose_spec.choose_spec.1, h.2.choose_spec.choose_spec.2⟩
/-- The log with a new list. -/
theorem LogAt.put {w w1 w2 : World} {B b n : Nat} {base term : Int} {v0 v : Value} {l : List Ent} {row : Option Nat} (hBb : B ≤ b) (hB : B ≤ w.heap.size)
    (hb : w1.heap[b]? = some (.cells #[.int .i64 base, .int .i64 term, v0] 61 (0, 0))) (h01 : Below B w w1) (hg : w1.grownBy w2 row) (hrow : ∀ k, row = some k → B ≤ k) (hne : row ≠ some b)
    (ho : w2.ownsRow B 32 4 v n (entCells l)) (hl : l.length = n) : LogAt (w2.setCell ⟨b, 2, none⟩ v) B b ⟨base, term, l⟩ ∧ Below B w (w2.setCell ⟨b, 2, none⟩ v) := by
  have hlt := blk_lt hb
  obtain ⟨ao, cap, rfl, _, _, _⟩ := own_shape ho
  have hb2 : w2.heap[b]? = some (.cells #[.int .i64 base, .int .i64 term, v0] 61 (0, 0)) := (hg.block b hlt (fun e => hne e.symm)).trans hb
  have hbs := blk_set hb2 2 (.slice ao n cap)
  have hob : (Value.slice ao n cap).ownBlock ≠ some b := own_ne hb2 (by decide) ho
  subst hl
  refine ⟨⟨hBb, ao, cap, ?_, ?_⟩, ?_⟩
  · rw [hbs]; rfl
  · exact ho.kept (grown_set w2 b 2 _) (.inr hob)
  · exact ((h01.trans (Below.grown (Below.refl B w1) hg (Nat.le_trans hB h01.size) hrow)).setCell hBb _)
theorem blk_step {w1 w2 : World} {b : Nat} {X : Obj} (hlt : b < w1.heap.size) (hbk : w1.heap[b]? = some X) (h12 : Below w1.heap.size w1 w2) (o : Obj) : (w2.alloc o).heap[b]? = some X :=
  (Below.heap_alloc w2 o b (Nat.lt_of_lt_of_le hlt h12.size)).trans ((h12.block b hlt).trans hbk)
/-- What an append to the log's list leaves, ahead of the store. -/
theorem log_grown {w0 w2 w3 : World} {o : Obj} {B b n0 : Nat} {base term : Int} {v0 : Value} {xs : List Value} (hg : (w2.alloc o).grownBy w3 v0.ownBlock) (hb : w0.heap[b]? = some (.cells #[.int .i64 base, .int .i64 term, v0] 61 (0, 0)))
    (h12 : Below w0.heap.size w0 w2) (ho : w0.ownsRow B 32 4 v0 n0 xs) : w3.cell? ⟨b, 2, none⟩ = some v0 ∧ w3.frozen? ⟨b, 2, none⟩ = false := by
  have hs := blk_step (blk_lt hb) hb h12 o
  have h3 : w3.heap[b]? = some (.cells #[.int .i64 base, .int .i64 term, v0] 61 (0, 0)) := (hg.block b (blk_lt hs) (fun e => own_ne hb (by decide) ho e.symm)).trans hs
  exact ⟨by rw [blk_cell h3]; rfl, blk_frozen h3 _⟩
def AddRes (B b : Nat) (x : LogV) (t k : Int) (d : ByteArray) (w : World) (e : Ending) (w' : World) : Prop :=
  e = .returned (.int .i64 ((lastV x).1 + 1)) ∧ LogAt w' B b ⟨x.base, x.term, x.l ++ [⟨(lastV x).1 + 1, t, k, d⟩]⟩ ∧ Below B w w'
set_option maxHeartbeats 400000 in
theorem add_any {w : World} {B b : Nat} {x : LogV} (h : LogAt w B b x) (t k : Int) (d : ByteArray) (hd : d.size ≤ 281474976710656) (hB : B ≤ w.heap.size) (hn : (x.l.length + 1) * 40 ≤ 140737488355328) (hla : -9223372036854775808 ≤ (lastV x).1) (hlb : (lastV x).1 < 9223372036854775807) :
    Calls Try.prog 18 #[.pointer (some ⟨b, 0, none⟩), .int .i64 t, .int .i64 k, .string d] w (AddRes B b x t k d w) := by
  have HL := Lib.hid (last_any h)
  have HW : Hid (IntKind.i64.wrap ((lastV x).1 + 1) = (lastV x).1 + 1) := Lib.hid (IntWalk.i64_in _ (by omega))
  have HH : Hid (LogAt w B b x) := Lib.hid h
  obtain ⟨i0, hi, hz0, hz1, hz2⟩ := info_parts entinfo
  have HI := Lib.hid (And.intro hi (And.intro hz0 (And.intro hz1 hz2)))
  unfold AddRes
  obtain ⟨u, hu⟩ : ∃ u, u = (lastV x).1 := ⟨_, rfl⟩
  obtain ⟨v, hv⟩ : ∃ v, v = (lastV x).2 := ⟨_, rfl⟩
  rw [← hu] at HW
  rw [← hu, ← hv] at HL
  rw [← hu]
  clear h hu hv hi hz0 hz1 hz2 hla hlb
  have hwu := HW.out
  go_enter Try.func18, Try.ntmps18
  go_wp2_with (go_at_call 14; refine (HL.out).mono ?_; rintro e w1 ⟨rfl, hb1⟩)
  obtain ⟨ao, cap, hBb, hbk, hown⟩ := (HH.out.below hb1 (Nat.le_refl _)).parts
  have hB1 : B ≤ w1.heap.size := Nat.le_trans hB hb1.size
  have hbw : Below B w w1 := hb1.mono hB
  have hlt := blk_lt hbk
  have hc2 : w1.cell? ⟨b, 2, none⟩ = some (.slice ao x.l.length cap) := by rw [blk_cell hbk]; rfl
  have HOwn := Lib.hid hown
  have HBk := Lib.hid hbk
  have HBW := Lib.hid hbw
  clear hown hbk hbw hb1

  go_region_law (first
    | (refine step_append_lies _ (by rfl) (.tmp 22) (.tmp 30) 22 (by rfl) B 32 i0 _ 4 40 Try.underlying22 HI.out.1 HI.out.2.1 HI.out.2.2.1 HI.out.2.2.2 (by rfl) (by omega) (.slice ao x.l.length cap) x.l.length (entCells x.l) (by rfl) (((HOwn.out).kept (row := none) ⟨HB2.out.os, HB2.out.tape, HB2.out.output, HB2.out.size, fun k hk _ => HB2.out.block k hk⟩ (by cases (Value.slice ao x.l.length cap).ownBlock <;> simp)).alloc _) ⟨w2.heap.size, 0, none⟩ 1 1 [.int .i64 (u + 1), .int .i64 t, .int .i64 k, .string d] (by rfl) (by rfl) (World.news_of_block (new_blk _ _)) (entCells_one [⟨u + 1, t, k, d⟩]) (by omega) (by unfold maxLen; omega) hn (Nat.le_trans hB1 (Nat.le_trans HB2.out.size (by simp))) _ rfl ?_; intro g cap3 w3 hown3 hg3 hat3 hlt3; have hc3 := log_grown hg3 HBk.out HB2.out HOwn.out; have hcc := hc3.1; have hff := hc3.2)
    | (go_simp; go_at_call 31; refine (clone_any _ _ hd).mono ?_; rintro e' w2 ⟨rfl, hb2⟩; have hc2' : w2.cell? ⟨b, 2, none⟩ = some (.slice ao x.l.length cap) := (hb2.cell (p := ⟨b, 2, none⟩) hlt).trans hc2; have hc2a : ∀ o, (w2.alloc o).cell? ⟨b, 2, none⟩ = some (.slice ao x.l.length cap) := fun o => (World.cell?_alloc_lt w2 o _ (Nat.lt_of_lt_of_le hlt hb2.size)).trans hc2'; have HB2 := Lib.hid (undrewL hb2); clear hb2))
  all_goals (
    go_wp2
    go_ret
    have hP := LogAt.put (l := x.l ++ [⟨u + 1, t, k, d⟩]) hBb hB (blk_step hlt HBk.out HB2.out _) ((HBW.out.trans (HB2.out.mono hB1)).alloc (Nat.le_trans hB1 HB2.out.size) _) hg3 (fun k' hk' => (HOwn.out.lt k' hk').1) (own_ne HBk.out (by decide) HOwn.out) (by rw [entCells_append]; exact hown3) (by simp)
    exact ⟨rfl, hP.1, hP.2⟩)
end Go.Proofs.Yticlkfdcocdmaaa
