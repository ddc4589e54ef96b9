/- The walks of cmd.Asked. -/
import Derived.Test.YtfogoebflfkknaaCmdFa
import Derived.Deep.DeepCutAuto
namespace Go.Proofs.Ytfogoebflfkknaa
open Go.RowKit
set_option linter.unusedVariables false
/-- Six stores at an operation's block. -/
theorem OpBlk.six {w : World} {g : Nat} {o : OpV} (h : OpBlk w g o) (k s q : Int) (a b c : ByteArray) : OpBlk ((((((w.setCell ⟨g, 0, none⟩ (.int .i64 k)).setCell ⟨g, 1, none⟩ (.int .i64 s)).setCell ⟨g, 2, none⟩ (.int .i64 q)).setCell ⟨g, 3, none⟩ (.string a)).setCell ⟨g, 4, none⟩ (.string b)).setCell ⟨g, 5, none⟩ (.string c)) g ⟨k, s, q, a, b, c⟩ :=
  blk_set (blk_set (blk_set (blk_set (blk_set (blk_set h 0 _) 1 _) 2 _) 3 _) 4 _) 5 _
set_option maxRecDepth 20000 in
set_option maxHeartbeats 4000000 in
theorem asked_err (s : ByteArray) (w : World) (hs : s.size ≤ 281474976710656) (hp : isPre ⟨#[113]⟩ s) (a1 : Int × RSt) (q : OpV) (g : Int) (hg : g ≠ 0)
    (h1 : rVar ((s.extract 1 s.size).data.toList, 0) = a1) (h3 : getOpV a1.2 = (q, g)) :
    Calls Try.prog 25 #[.string s] w fun e w' => e = .returned (.tuple #[.int .i64 0, op0.agg, .int .i64 g]) ∧ Below w.heap.size w w' := by
  have HC := Lib.hid (fun W => cut_yes s ⟨#[113]⟩ W (by omega) hp)
  have HA := Lib.hid (And.intro h1 h3)
  clear hp h1 h3
  obtain ⟨kd, ss, sq, key, val, old⟩ := q
  unfold OpV.agg at *
  have hd : (g != 0) = true := by simpa using hg
  clear hg
  go_enter Try.func25, Try.ntmps25
  go_wp2_with fail
  refine (HC.out _).mono ?_
  rintro e w1 ⟨rfl, rfl⟩
  go_wp2_with fail
  refine (RS.new (w0 := w.alloc (.cells (opCells op0) 23)) (B := w.heap.size + 1) (s.extract 1 s.size) (Below.refl _ _) (by simp) (by simp; omega)).mono ?_
  rintro e w2 ⟨b, rfl, R2⟩
  have HR2 := Lib.hid R2.rvar
  rw [HA.out.1] at HR2
  clear R2
  go_wp2_with fail
  refine HR2.out.mono ?_
  rintro e w4 ⟨rfl, R4, -⟩
  have HR4 := Lib.hid (getOp_any R4)
  rw [HA.out.2] at HR4
  dsimp only [OpV.agg] at HR4
  clear R4 HR2 HA
  go_wp2_with fail
  refine HR4.out.mono ?_
  rintro e w5 ⟨rfl, hb5⟩
  have hk : OpBlk w5 w.heap.size op0 := (hb5.block w.heap.size (by omega)).trans (heap_alloc_new w _)
  have hlt5 : w.heap.size < w5.heap.size := blk_lt hk
  have HB : Hid (Below w.heap.size w w5) := Lib.hid (((Below.refl _ _).alloc (Nat.le_refl _) _).trans (hb5.mono (by omega)))
  have hkW : OpBlk (w5.alloc (.cells #[.int .i64 kd, .int .i64 ss, .int .i64 sq, .string key, .string val, .string old] 23)) w.heap.size op0 := (Below.heap_alloc w5 _ w.heap.size hlt5).trans hk
  have hqW : OpBlk (w5.alloc (.cells #[.int .i64 kd, .int .i64 ss, .int .i64 sq, .string key, .string val, .string old] 23)) w5.heap.size ⟨kd, ss, sq, key, val, old⟩ := heap_alloc_new w5 _
  have hBW : Below w.heap.size w (w5.alloc (.cells #[.int .i64 kd, .int .i64 ss, .int .i64 sq, .string key, .string val, .string old] 23)) := HB.out.alloc (Nat.le_of_lt hlt5) _
  clear hk hb5 HR4 HC HB
  go_upto_region 7 with fail
  generalize w5.alloc (.cells #[.int .i64 kd, .int .i64 ss, .int .i64 sq, .string key, .string val, .string old] 23) = W at hkW hqW hBW ⊢
  obtain ⟨⟨x0, x1, x2⟩, ⟨x3, x4, x5⟩, xf⟩ := hkW.facts
  have xf0 := xf 0
  have xf1 := xf 1
  have xf2 := xf 2
  have xf3 := xf 3
  have xf4 := xf 4
  have xf5 := xf 5
  dsimp only [op0] at x0 x1 x2 x3 x4 x5
  have HB := Lib.hid hBW
  clear xf hkW hqW hBW
  go_wp2_with fail
  refine bodyPost_ret (v := .tuple #[.int .i64 0, .agg #[.int .i64 0, .int .i64 0, .int .i64 0, .string ⟨#[]⟩, .string ⟨#[]⟩, .string ⟨#[]⟩], .int .i64 g]) (by simp (maxDischargeDepth := 10) [results, Try.results25, go_sem, x0, x1, x2, x3, x4, x5]; try rfl) rfl ⟨rfl, ?_⟩
  exact (((((HB.out.setCell (Nat.le_refl _) _).setCell (Nat.le_refl _) _).setCell (Nat.le_refl _) _).setCell (Nat.le_refl _) _).setCell (Nat.le_refl _) _).setCell (Nat.le_refl _) _
set_option maxRecDepth 20000 in
set_option maxHeartbeats 4000000 in
theorem asked_ok (s : ByteArray) (w : World) (hs : s.size ≤ 281474976710656) (hp : isPre ⟨#[113]⟩ s) (a1 : Int × RSt) (q : OpV)
    (h1 : rVar ((s.extract 1 s.size).data.toList, 0) = a1) (h3 : getOpV a1.2 = (q, 0)) :
    Calls Try.prog 25 #[.string s] w fun e w' => e = .returned (.tuple #[.int .i64 a1.1, q.agg, .int .i64 0]) ∧ Below w.heap.size w w' := by
  have HC := Lib.hid (fun W => cut_yes s ⟨#[113]⟩ W (by omega) hp)
  have HA := Lib.hid (And.intro h1 h3)
  clear hp h1 h3
  obtain ⟨kd, ss, sq, key, val, old⟩ := q
  unfold OpV.agg at *
  go_enter Try.func25, Try.ntmps25
  go_wp2_with fail
  refine (HC.out _).mono ?_
  rintro e w1 ⟨rfl, rfl⟩
  go_wp2_with fail
  refine (RS.new (w0 := w.alloc (.cells (opCells op0) 23)) (B := w.heap.size + 1) (s.extract 1 s.size) (Below.refl _ _) (by simp) (by simp; omega)).mono ?_
  rintro e w2 ⟨b, rfl, R2⟩
  have HR2 := Lib.hid R2.rvar
  rw [HA.out.1] at HR2
  clear R2
  go_wp2_with fail
  refine HR2.out.mono ?_
  rintro e w4 ⟨rfl, R4, -⟩
  have HR4 := Lib.hid (getOp_any R4)
  rw [HA.out.2] at HR4
  dsimp only [OpV.agg] at HR4
  clear R4 HR2 HA
  go_wp2_with fail
  refine HR4.out.mono ?_
  rintro e w5 ⟨rfl, hb5⟩
  have hk : OpBlk w5 w.heap.size op0 := (hb5.block w.heap.size (by omega)).trans (heap_alloc_new w _)
  have hlt5 : w.heap.size < w5.heap.size := blk_lt hk
  have HB : Hid (Below w.heap.size w w5) := Lib.hid (((Below.refl _ _).alloc (Nat.le_refl _) _).trans (hb5.mono (by omega)))
  have hkW : OpBlk (w5.alloc (.cells #[.int .i64 kd, .int .i64 ss, .int .i64 sq, .string key, .string val, .string old] 23)) w.heap.size op0 := (Below.heap_alloc w5 _ w.heap.size hlt5).trans hk
  have hqW : OpBlk (w5.alloc (.cells #[.int .i64 kd, .int .i64 ss, .int .i64 sq, .string key, .string val, .string old] 23)) w5.heap.size ⟨kd, ss, sq, key, val, old⟩ := heap_alloc_new w5 _
  have hBW : Below w.heap.size w (w5.alloc (.cells #[.int .i64 kd, .int .i64 ss, .int .i64 sq, .string key, .string val, .string old] 23)) := HB.out.alloc (Nat.le_of_lt hlt5) _
  clear hk hb5 HR4 HC HB
  go_upto_region 7 with fail
  generalize w5.alloc (.cells #[.int .i64 kd, .int .i64 ss, .int .i64 sq, .string key, .string val, .string old] 23) = W at hkW hqW hBW ⊢
  obtain ⟨⟨x0, x1, x2⟩, ⟨x3, x4, x5⟩, xf⟩ := hkW.facts
  have xf0 := xf 0
  have xf1 := xf 1
  have xf2 := xf 2
  have xf3 := xf 3
  have xf4 := xf 4
  have xf5 := xf 5
  dsimp only [op0] at x0 x1 x2 x3 x4 x5
  have HB := Lib.hid hBW
  obtain ⟨⟨y0, y1, y2⟩, ⟨y3, y4, y5⟩, _⟩ := hqW.facts
  dsimp only at y0 y1 y2 y3 y4 y5
  clear xf hkW hqW hBW
  go_wp2_with fail
  go_region
  all_goals (
    go_wp2_with fail
    refine bodyPost_ret (v := .tuple #[.int .i64 a1.1, .agg #[.int .i64 kd, .int .i64 ss, .int .i64 sq, .string key, .string val, .string old], .int .i64 0]) (by simp (maxDischargeDepth := 10) [results, Try.results25, go_sem, x0, x1, x2, x3, x4, x5]; try rfl) rfl ⟨rfl, ?_⟩
    exact (by ((repeat (with_reducible (first | exact HB.out | refine Below.setCell ?_ ?_ _ | refine Below.drew ?_ | refine below_drewN ?_ _))); all_goals (first | exact Nat.le_refl _ | (simp <;> omega)))))
end Go.Proofs.Ytfogoebflfkknaa
