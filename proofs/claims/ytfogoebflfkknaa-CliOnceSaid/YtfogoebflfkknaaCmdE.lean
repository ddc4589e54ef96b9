/- The walks of cmd.Told. -/
import Derived.Test.YtfogoebflfkknaaCmdD
import Derived.Test.YtfogoebflfkknaaCutPre
namespace Go.Proofs.Ytfogoebflfkknaa
open Go.RowKit
set_option linter.unusedVariables false
set_option maxRecDepth 20000 in
theorem told_no (s : ByteArray) (w : World) (hs : s.size ≤ 281474976710656) (hp : ¬ isPre ⟨#[97]⟩ s) :
    Calls Try.prog 27 #[.string s] w fun e w' => e = .returned (.tuple #[.int .i64 0, .int .i64 0, rep0.agg, .int .i64 4]) ∧ Below w.heap.size w w' := by
  have HC := Lib.hid (fun W => cut_no s ⟨#[97]⟩ W (by omega) (by decide) hp)
  have hk : RepBlk (w.alloc (.cells (repCells rep0) 26)) w.heap.size rep0 := heap_alloc_new w _
  obtain ⟨⟨x0, x1, x2⟩, xf⟩ := hk.facts
  have xf0 := xf 0
  have xf1 := xf 1
  have xf2 := xf 2
  have HB : Hid (Below w.heap.size w (w.alloc (.cells (repCells rep0) 26))) := Lib.hid ((Below.refl _ _).alloc (Nat.le_refl _) _)
  clear hk xf hp
  go_enter Try.func27, Try.ntmps27
  go_wp2_with fail
  refine (HC.out _).mono ?_
  rintro e w1 ⟨rfl, rfl⟩
  dsimp only [rep0, repCells] at x0 x1 x2 xf0 xf1 xf2 HB
  go_wp2_with fail
  refine bodyPost_ret (v := .tuple #[.int .i64 0, .int .i64 0, .agg #[.int .i64 0, .string ⟨#[]⟩, .int .i64 0], .int .i64 4]) (by simp (maxDischargeDepth := 10) [results, Try.results27, go_sem, x0, x1, x2]; try rfl) rfl ⟨rfl, ?_⟩
  exact (by ((repeat (with_reducible (first | exact HB.out | refine Below.setCell ?_ ?_ _ | refine Below.drew ?_ | refine below_drewN ?_ _))); all_goals (first | exact Nat.le_refl _ | (simp <;> omega))))
set_option maxRecDepth 20000 in
set_option maxHeartbeats 2000000 in
theorem told_err (s : ByteArray) (w : World) (hs : s.size ≤ 281474976710656) (hp : isPre ⟨#[97]⟩ s) (a1 a2 : Int × RSt) (q : RepV) (g : Int)
    (hg : g ≠ 0) (h1 : rVar ((s.extract 1 s.size).data.toList, 0) = a1) (h2 : rVar a1.2 = a2) (h3 : getRepV a2.2 = (q, g)) :
    Calls Try.prog 27 #[.string s] w fun e w' => e = .returned (.tuple #[.int .i64 0, .int .i64 0, rep0.agg, .int .i64 g]) ∧ Below w.heap.size w w' := by
  have HC := Lib.hid (fun W => cut_yes s ⟨#[97]⟩ W (by omega) hp)
  have HA := Lib.hid (And.intro h1 (And.intro h2 h3))
  clear hp h1 h2 h3
  obtain ⟨er, nm, vl⟩ := q
  unfold RepV.agg at *
  go_enter Try.func27, Try.ntmps27
  go_wp2_with fail
  refine (HC.out _).mono ?_
  rintro e w1 ⟨rfl, rfl⟩
  go_wp2_with fail
  refine (RS.new (w0 := w.alloc (.cells (repCells rep0) 26)) (B := w.heap.size + 1) (s.extract 1 s.size) (Below.refl _ _) (by simp) (by simp; omega)).mono ?_
  rintro e w2 ⟨b, rfl, R2⟩
  have HR2 := Lib.hid R2.rvar
  rw [HA.out.1] at HR2
  clear R2
  go_wp2_with fail
  refine HR2.out.mono ?_
  rintro e w3 ⟨rfl, R3, -⟩
  have HR3 := Lib.hid R3.rvar
  rw [HA.out.2.1] at HR3
  clear R3 HR2
  go_wp2_with fail
  refine HR3.out.mono ?_
  rintro e w4 ⟨rfl, R4, -⟩
  have HR4 := Lib.hid (getRep_any R4)
  rw [HA.out.2.2] at HR4
  dsimp only [RepV.agg] at HR4
  clear R4 HR3 HA
  go_wp2_with fail
  refine HR4.out.mono ?_
  rintro e w5 ⟨rfl, hb5⟩
  have hk : RepBlk w5 w.heap.size rep0 := (hb5.block w.heap.size (by omega)).trans (heap_alloc_new w _)
  obtain ⟨⟨x0, x1, x2⟩, xf⟩ := hk.facts
  have xf0 := xf 0
  have xf1 := xf 1
  have xf2 := xf 2
  dsimp only [rep0] at x0 x1 x2
  have HB : Hid (Below w.heap.size w w5) := Lib.hid (((Below.refl _ _).alloc (Nat.le_refl _) _).trans (hb5.mono (by omega)))
  clear hk xf hb5 HR4 HC
  have hd : (g != 0) = true := by simpa using hg
  clear hg
  go_wp2_with fail
  refine bodyPost_ret (v := .tuple #[.int .i64 0, .int .i64 0, .agg #[.int .i64 0, .string ⟨#[]⟩, .int .i64 0], .int .i64 g]) (by simp (maxDischargeDepth := 10) [results, Try.results27, go_sem, x0, x1, x2]; try rfl) rfl ⟨rfl, ?_⟩
  exact (by ((repeat (with_reducible (first | exact HB.out | refine Below.setCell ?_ ?_ _ | refine Below.drew ?_ | refine below_drewN ?_ _))); all_goals (first | exact Nat.le_refl _ | (simp <;> omega))))
set_option maxRecDepth 20000 in
set_option maxHeartbeats 2000000 in
theorem told_ok (s : ByteArray) (w : World) (hs : s.size ≤ 281474976710656) (hp : isPre ⟨#[97]⟩ s) (a1 a2 : Int × RSt) (q : RepV)
    (h1 : rVar ((s.extract 1 s.size).data.toList, 0) = a1) (h2 : rVar a1.2 = a2) (h3 : getRepV a2.2 = (q, 0)) :
    Calls Try.prog 27 #[.string s] w fun e w' => e = .returned (.tuple #[.int .i64 a1.1, .int .i64 a2.1, q.agg, .int .i64 0]) ∧ Below w.heap.size w w' := by
  have HC := Lib.hid (fun W => cut_yes s ⟨#[97]⟩ W (by omega) hp)
  have HA := Lib.hid (And.intro h1 (And.intro h2 h3))
  clear hp h1 h2 h3
  obtain ⟨er, nm, vl⟩ := q
  unfold RepV.agg at *
  go_enter Try.func27, Try.ntmps27
  go_wp2_with fail
  refine (HC.out _).mono ?_
  rintro e w1 ⟨rfl, rfl⟩
  go_wp2_with fail
  refine (RS.new (w0 := w.alloc (.cells (repCells rep0) 26)) (B := w.heap.size + 1) (s.extract 1 s.size) (Below.refl _ _) (by simp) (by simp; omega)).mono ?_
  rintro e w2 ⟨b, rfl, R2⟩
  have HR2 := Lib.hid R2.rvar
  rw [HA.out.1] at HR2
  clear R2
  go_wp2_with fail
  refine HR2.out.mono ?_
  rintro e w3 ⟨rfl, R3, -⟩
  have HR3 := Lib.hid R3.rvar
  rw [HA.out.2.1] at HR3
  clear R3 HR2
  go_wp2_with fail
  refine HR3.out.mono ?_
  rintro e w4 ⟨rfl, R4, -⟩
  have HR4 := Lib.hid (getRep_any R4)
  rw [HA.out.2.2] at HR4
  dsimp only [RepV.agg] at HR4
  clear R4 HR3 HA
  go_wp2_with fail
  refine HR4.out.mono ?_
  rintro e w5 ⟨rfl, hb5⟩
  have hk : RepBlk w5 w.heap.size rep0 := (hb5.block w.heap.size (by omega)).trans (heap_alloc_new w _)
  obtain ⟨⟨x0, x1, x2⟩, xf⟩ := hk.facts
  have xf0 := xf 0
  have xf1 := xf 1
  have xf2 := xf 2
  dsimp only [rep0] at x0 x1 x2
  have HB : Hid (Below w.heap.size w w5) := Lib.hid (((Below.refl _ _).alloc (Nat.le_refl _) _).trans (hb5.mono (by omega)))
  clear hk xf hb5 HR4 HC
  go_wp2_with fail
  go_region
  all_goals (
    go_wp2_with fail
    refine bodyPost_ret (v := .tuple #[.int .i64 a1.1, .int .i64 a2.1, .agg #[.int .i64 er, .string vl, .int .i64 nm], .int .i64 0]) (by simp (maxDischargeDepth := 10) [results, Try.results27, go_sem, x0, x1, x2]; try rfl) rfl ⟨rfl, ?_⟩
    exact (by ((repeat (with_reducible (first | exact HB.out | refine Below.setCell ?_ ?_ _ | refine Below.drew ?_ | refine below_drewN ?_ _))); all_goals (first | exact Nat.le_refl _ | (simp <;> omega)))))
end Go.Proofs.Ytfogoebflfkknaa
