/- The walks of cmd.Get, getReply and PutReply. -/
import Derived.Test.YtfogoebflfkknaaCmdB
namespace Go.Proofs.Ytfogoebflfkknaa
open Go.RowKit
set_option linter.unusedVariables false
structure RepV where
  err : Int
  num : Int
  val : ByteArray
def RepV.agg (r : RepV) : Value := .agg #[.int .i64 r.err, .string r.val, .int .i64 r.num]
def rep0 : RepV := ⟨0, 0, ⟨#[]⟩⟩
def repSt (st : RSt) : RSt := (rText 2000 (rVar (rVar st).2).2).2
def readRep (st : RSt) : RepV := ⟨(rVar st).1, (rVar (rVar st).2).1, bs (rText 2000 (rVar (rVar st).2).2).1⟩
def getRepV (st : RSt) : RepV × Int := if rEnd (repSt st) = 0 then (readRep st, 0) else (rep0, rEnd (repSt st))
def repCells (r : RepV) : Array Value := #[.int .i64 r.err, .string r.val, .int .i64 r.num]
def RepBlk (w : World) (g : Nat) (r : RepV) : Prop := w.heap[g]? = some (.cells (repCells r) 26 (0, 0))
theorem RepBlk.far {w w' : World} {g b : Nat} {o : RepV} (h : RepBlk w g o) (hg : w.grownBy w' (some b)) (hne : g ≠ b) : RepBlk w' g o := (hg.block g (blk_lt h) (fun e => hne (by injection e))).trans h
theorem RepBlk.below {w w' : World} {g : Nat} {o : RepV} (h : RepBlk w g o) (hb : Below w.heap.size w w') : RepBlk w' g o := (hb.block g (blk_lt h)).trans h
theorem RepBlk.facts {w : World} {g : Nat} {o : RepV} (h : RepBlk w g o) : (w.cell? ⟨g, 0, none⟩ = some (.int .i64 o.err) ∧ w.cell? ⟨g, 1, none⟩ = some (.string o.val) ∧ w.cell? ⟨g, 2, none⟩ = some (.int .i64 o.num)) ∧ (∀ i, w.frozen? ⟨g, i, none⟩ = false) := by
  refine ⟨⟨?_, ?_, ?_⟩, fun i => blk_frozen h i⟩ <;> rw [blk_cell h] <;> rfl
set_option maxRecDepth 20000 in
set_option maxHeartbeats 2000000 in
theorem getRep_any {w0 W : World} {B b : Nat} {st : RSt} (h : RS w0 W B b st) :
    Calls Try.prog 54 #[.pointer (some ⟨b, 0, none⟩)] W fun e w' => e = .returned (.tuple #[(getRepV st).1.agg, .int .i64 (getRepV st).2]) ∧ Below B w0 w' := by
  have hbW : b < W.heap.size := h.1.lt
  have hBR : B ≤ W.heap.size := h.size
  have R0 := h.alloc (.cells (repCells rep0) 26)
  have O0 : RepBlk (W.alloc (.cells (repCells rep0) 26)) W.heap.size rep0 := heap_alloc_new W _
  have HO0 := Lib.hid O0
  have hx := R0.rvar
  have HX : Hid (Calls Try.prog 57 #[.pointer (some ⟨b, 0, none⟩)] (W.alloc (.cells #[.int .i64 0, .string ⟨#[]⟩, .int .i64 0] 26)) fun e w' => e = .returned (.int .i64 (rVar st).1) ∧ RS w0 w' B b (rVar st).2 ∧ (W.alloc (.cells (repCells rep0) 26)).grownBy w' (some b)) := Lib.hid hx
  clear h R0 O0 hx
  obtain ⟨a1, ha1⟩ : ∃ a1, a1 = rVar st := ⟨_, rfl⟩
  rw [← ha1] at HX
  have HA1 := Lib.hid ha1
  clear ha1
  go_enter Try.func54, Try.ntmps54
  go_wp2_with fail
  refine HX.out.mono ?_
  rintro e w1 ⟨rfl, R1, hg1⟩
  have HO1 := Lib.hid (HO0.out.far hg1 (by omega))
  have HV2 := Lib.hid R1.rvar
  obtain ⟨a2, ha2⟩ : ∃ a2, a2 = rVar a1.2 := ⟨_, rfl⟩
  rw [← ha2] at HV2
  have HA2 := Lib.hid ha2
  clear ha2 R1 hg1 HX HO0
  go_wp2_with fail
  refine HV2.out.mono ?_
  rintro e w2 ⟨rfl, R2, hg2⟩
  have HO2 := Lib.hid (HO1.out.far hg2 (by omega))
  have HV3 := Lib.hid (R2.text 2000)
  have hsl : ((rText 2000 a2.2).1.length : Int) ≤ 2000 := by have := rText_len 2000 a2.2; omega
  obtain ⟨a3, ha3⟩ : ∃ a3, a3 = rText 2000 a2.2 := ⟨_, rfl⟩
  rw [← ha3] at HV3 hsl
  have HA3 := Lib.hid ha3
  clear ha3 R2 hg2 HV2 HO1
  go_wp2_with fail
  refine HV3.out.mono ?_
  rintro e w3 ⟨rfl, R3, hg3⟩
  have HO3 := Lib.hid (HO2.out.far hg3 (by omega))
  have HR3 := Lib.hid R3
  clear R3 hg3 HV3 HO2
  go_wp2_with fail
  refine (clone_any ⟨a3.1.toArray⟩ w3 (by show a3.1.toArray.size ≤ _; simp; omega)).mono ?_
  rintro e w4 ⟨rfl, hb4⟩
  have HO4 := Lib.hid (HO3.out.below hb4)
  have HR4 := Lib.hid (HR3.out.step hb4)
  have hlt4 : W.heap.size < w4.heap.size := blk_lt HO4.out
  have HF := Lib.hid (HR4.out.alloc (.cells #[.int .i64 a1.1, .string ⟨a3.1.toArray⟩, .int .i64 a2.1] 26)).fin
  have hE : rEnd (repSt st) = rEnd a3.2 := by unfold repSt; rw [← HA1.out, ← HA2.out, ← HA3.out]
  have hRd : readRep st = ⟨a1.1, a2.1, ⟨a3.1.toArray⟩⟩ := by unfold readRep; rw [← HA1.out, ← HA2.out, ← HA3.out]; rfl
  have HG : Hid (getRepV st = if rEnd a3.2 = 0 then (⟨a1.1, a2.1, ⟨a3.1.toArray⟩⟩, 0) else (rep0, rEnd a3.2)) := Lib.hid (by unfold getRepV; rw [hE, hRd])
  obtain ⟨r, hr⟩ : ∃ r, r = rEnd a3.2 := ⟨_, rfl⟩
  rw [← hr] at HF HG
  obtain ⟨⟨x0, x1, x2⟩, xf⟩ := HO4.out.facts
  have xf0 := xf 0
  have xf1 := xf 1
  have xf2 := xf 2
  have y0 : ∀ ob, (w4.alloc ob).cell? ⟨W.heap.size, 0, none⟩ = some (.int .i64 0) := fun ob => (World.cell?_alloc_lt w4 ob _ hlt4).trans x0
  have y1 : ∀ ob, (w4.alloc ob).cell? ⟨W.heap.size, 1, none⟩ = some (.string ⟨#[]⟩) := fun ob => (World.cell?_alloc_lt w4 ob _ hlt4).trans x1
  have y2 : ∀ ob, (w4.alloc ob).cell? ⟨W.heap.size, 2, none⟩ = some (.int .i64 0) := fun ob => (World.cell?_alloc_lt w4 ob _ hlt4).trans x2
  have HB4 := Lib.hid HR4.out.2.1
  have hal : ∀ (u0 u1 u2 : Value) (ob : Obj) (i : Nat), ((((w4.setCell ⟨W.heap.size, 0, none⟩ u0).setCell ⟨W.heap.size, 1, none⟩ u1).setCell ⟨W.heap.size, 2, none⟩ u2).alloc ob).cell? ⟨W.heap.size, i, none⟩ = (((w4.setCell ⟨W.heap.size, 0, none⟩ u0).setCell ⟨W.heap.size, 1, none⟩ u1).setCell ⟨W.heap.size, 2, none⟩ u2).cell? ⟨W.heap.size, i, none⟩ :=
    fun u0 u1 u2 ob i => World.cell?_alloc_lt _ _ _ (by simp [World.setCell]; omega)
  have HAl := Lib.hid hal
  clear hal
  dsimp only [rep0] at x0 x1 x2
  clear hE hRd hr xf hb4 HR3 HO3 HA1 HA2 HA3 HR4
  by_cases h0 : r = 0
  · have hG := HG.out
    rw [if_pos h0] at hG
    have HRes := Lib.hid hG
    rw [h0] at HF
    clear hG HG h0
    go_wp2_with fail
    refine HF.out.mono ?_
    rintro e w5 ⟨rfl, rfl⟩
    go_wp2_with fail
    rw [HRes.out]
    refine bodyPost_ret (v := .tuple #[.agg #[.int .i64 a1.1, .string ⟨a3.1.toArray⟩, .int .i64 a2.1], .int .i64 0]) (by simp [results, Try.results54, go_sem, HAl.out, x0, x1, x2]; try rfl) rfl ⟨rfl, ?_⟩
    exact (((HB4.out.setCell hBR _).setCell hBR _).setCell hBR _).alloc (by simp [World.setCell]; omega) _
  · have hd : (r != 0) = true := by simpa using h0
    have hG := HG.out
    rw [if_neg h0] at hG
    have HRes := Lib.hid hG
    clear hG HG h0
    go_wp2_with fail
    refine HF.out.mono ?_
    rintro e w5 ⟨rfl, rfl⟩
    go_wp2_with fail
    rw [HRes.out]
    refine bodyPost_ret (v := .tuple #[rep0.agg, .int .i64 r]) (by simp [results, Try.results54, go_sem, HAl.out, x0, x1, x2, rep0, RepV.agg]; try rfl) rfl ⟨rfl, ?_⟩
    exact (((HB4.out.setCell hBR _).setCell hBR _).setCell hBR _).alloc (by simp [World.setCell]; omega) _
end Go.Proofs.Ytfogoebflfkknaa
