/- The walk of cmd.get: it reads an operation to the end. -/
import Derived.Test.YtfogoebflfkknaaCmdA
import Derived.Test.YtfogoebflfkknaaRdr
namespace Go.Proofs.Ytfogoebflfkknaa
open Go.RowKit
set_option linter.unusedVariables false
def bs (l : List UInt8) : ByteArray := ⟨l.toArray⟩
def op0 : OpV := ⟨0, 0, 0, ⟨#[]⟩, ⟨#[]⟩, ⟨#[]⟩⟩
/-- The state behind k texts, and the k-th text. -/
def tSt (st : RSt) : Nat → RSt
  | 0 => st
  | k + 1 => (rText 1000 (tSt st k)).2
def tX (st : RSt) (k : Nat) : ByteArray := bs (rText 1000 (tSt st k)).1
def vSt (st : RSt) : RSt := (rVar (rVar (rVar st).2).2).2
def readOp (st : RSt) : OpV := ⟨(rVar st).1, (rVar (rVar st).2).1, (rVar (rVar (rVar st).2).2).1, tX (vSt st) 0, tX (vSt st) 1, tX (vSt st) 2⟩
/-- What get answers. -/
def getOpE (st : RSt) : Int := if rEnd (tSt (vSt st) 3) = 0 then validV (readOp st) else rEnd (tSt (vSt st) 3)
def getOpV (st : RSt) : OpV × Int := if getOpE st = 0 then (readOp st, 0) else (op0, getOpE st)
theorem tX_len (st : RSt) (k : Nat) : (tX st k).size ≤ 1000 := by
  have := rText_len 1000 (tSt st k)
  show (rText 1000 (tSt st k)).1.toArray.size ≤ 1000
  rw [List.size_toArray]
  omega
def opK (x y z : Int) (v : RSt) (k : Nat) : OpV := ⟨x, y, z, if 0 < k then tX v 0 else ⟨#[]⟩, if 1 < k then tX v 1 else ⟨#[]⟩, if 2 < k then tX v 2 else ⟨#[]⟩⟩
/-- The cells of an operation in a block. -/
def opCells (o : OpV) : Array Value := #[.int .i64 o.kd, .int .i64 o.ss, .int .i64 o.sq, .string o.key, .string o.val, .string o.old]
def OpBlk (w : World) (g : Nat) (o : OpV) : Prop := w.heap[g]? = some (.cells (opCells o) 23 (0, 0))
theorem OpBlk.far {w w' : World} {g b : Nat} {o : OpV} (h : OpBlk w g o) (hg : w.grownBy w' (some b)) (hne : g ≠ b) : OpBlk w' g o := (hg.block g (blk_lt h) (fun e => hne (by injection e))).trans h
theorem OpBlk.below {w w' : World} {g : Nat} {o : OpV} (h : OpBlk w g o) (hb : Below w.heap.size w w') : OpBlk w' g o := (hb.block g (blk_lt h)).trans h
theorem OpBlk.facts {w : World} {g : Nat} {o : OpV} (h : OpBlk w g o) : (w.cell? ⟨g, 0, none⟩ = some (.int .i64 o.kd) ∧ w.cell? ⟨g, 1, none⟩ = some (.int .i64 o.ss) ∧ w.cell? ⟨g, 2, none⟩ = some (.int .i64 o.sq)) ∧ (w.cell? ⟨g, 3, none⟩ = some (.string o.key) ∧ w.cell? ⟨g, 4, none⟩ = some (.string o.val) ∧ w.cell? ⟨g, 5, none⟩ = some (.string o.old)) ∧ (∀ i, w.frozen? ⟨g, i, none⟩ = false) := by
  refine ⟨⟨?_, ?_, ?_⟩, ⟨?_, ?_, ?_⟩, fun i => blk_frozen h i⟩ <;> rw [blk_cell h] <;> rfl
theorem RS.set {w0 W : World} {B b g i : Nat} {st : RSt} {u : Value} (h : RS w0 W B b st) (hne : g ≠ b) (hB : B ≤ g) : RS w0 (W.setCell ⟨g, i, none⟩ u) B b st :=
  h.far (grown_set W g i u) (fun e => hne (by injection e)) (h.2.1.setCell hB _)
set_option maxRecDepth 20000 in
set_option maxHeartbeats 4000000 in
theorem getOp_any {w0 W : World} {B b : Nat} {st : RSt} (h : RS w0 W B b st) :
    Calls Try.prog 51 #[.pointer (some ⟨b, 0, none⟩)] W fun e w' => e = .returned (.tuple #[(getOpV st).1.agg, .int .i64 (getOpV st).2]) ∧ Below B w0 w' := by
  have hbW : b < W.heap.size := h.1.lt
  have hBW := h.size
  have R0 := h.alloc (.cells (opCells op0) 23)
  have O0 : OpBlk (W.alloc (.cells (opCells op0) 23)) W.heap.size op0 := heap_alloc_new W _
  have HR0 := Lib.hid R0
  have HO0 := Lib.hid O0
  have hx := R0.rvar
  have HX : Hid (Calls Try.prog 57 #[.pointer (some ⟨b, 0, none⟩)] (W.alloc (.cells #[.int .i64 0, .int .i64 0, .int .i64 0, .string ⟨#[]⟩, .string ⟨#[]⟩, .string ⟨#[]⟩] 23)) fun e w' => e = .returned (.int .i64 (rVar st).1) ∧ RS w0 w' B b (rVar st).2 ∧ (W.alloc (.cells (opCells op0) 23)).grownBy w' (some b)) := Lib.hid hx
  clear h R0 O0 hx HR0
  obtain ⟨a1, ha1⟩ : ∃ a1, a1 = rVar st := ⟨_, rfl⟩
  rw [← ha1] at HX
  have HA1 := Lib.hid ha1
  clear ha1
  go_enter Try.func51, Try.ntmps51
  go_wp2_with fail
  refine HX.out.mono ?_
  rintro e w1 ⟨rfl, R1, hg1⟩
  have HO1 := Lib.hid (HO0.out.far hg1 (by omega))
  have HV2 := Lib.hid R1.rvar
  obtain ⟨a2, ha2⟩ : ∃ a2, a2 = rVar a1.2 := ⟨_, rfl⟩
  rw [← ha2] at HV2
  have HA2 := Lib.hid ha2
  clear ha2 R1 hg1 HX HO0
  go_wp2_with fail
  refine HV2.out.mono ?_
  rintro e w2 ⟨rfl, R2, hg2⟩
  have HO2 := Lib.hid (HO1.out.far hg2 (by omega))
  have HV3 := Lib.hid R2.rvar
  obtain ⟨a3, ha3⟩ : ∃ a3, a3 = rVar a2.2 := ⟨_, rfl⟩
  rw [← ha3] at HV3
  have HA3 := Lib.hid ha3
  clear ha3 R2 hg2 HV2 HO1
  go_wp2_with fail
  refine HV3.out.mono ?_
  rintro e w3 ⟨rfl, R3, hg3⟩
  have HO3 := Lib.hid (HO2.out.far hg3 (by omega))
  have HR3 := Lib.hid R3
  have hlt3 : W.heap.size < w3.heap.size := blk_lt HO3.out
  clear R3 hg3 HV3 HO2
  obtain ⟨v, hv⟩ : ∃ v, v = a3.2 := ⟨_, rfl⟩
  have HVs : Hid (v = vSt st) := Lib.hid (by rw [hv, HA3.out, HA2.out, HA1.out]; rfl)
  have HRd : Hid (opK a1.1 a2.1 a3.1 v 3 = readOp st) := Lib.hid (by
    unfold readOp opK
    rw [← HVs.out, ← HA1.out, ← HA2.out, ← HA3.out]
    rfl)
  rw [← hv] at HR3
  have hsz3 := HR3.out.size
  have hbB := HR3.out.2.2
  have HR5 : Hid (RS w0 ((w3.alloc (.cells (opCells (opK a1.1 a2.1 a3.1 v 0)) 23)).alloc (.cells #[.pointer (some ⟨w3.heap.size, 3, none⟩), .pointer (some ⟨w3.heap.size, 4, none⟩), .pointer (some ⟨w3.heap.size, 5, none⟩)] 127)) B b (tSt v 0)) := Lib.hid ((HR3.out.alloc _).alloc _)
  have HO5 : Hid (OpBlk ((w3.alloc (.cells (opCells (opK a1.1 a2.1 a3.1 v 0)) 23)).alloc (.cells #[.pointer (some ⟨w3.heap.size, 3, none⟩), .pointer (some ⟨w3.heap.size, 4, none⟩), .pointer (some ⟨w3.heap.size, 5, none⟩)] 127)) w3.heap.size (opK a1.1 a2.1 a3.1 v 0)) := Lib.hid (old_at _ _ _ _ (new_at _ _ _ rfl))
  have HP5 : Hid (((w3.alloc (.cells (opCells (opK a1.1 a2.1 a3.1 v 0)) 23)).alloc (.cells #[.pointer (some ⟨w3.heap.size, 3, none⟩), .pointer (some ⟨w3.heap.size, 4, none⟩), .pointer (some ⟨w3.heap.size, 5, none⟩)] 127)).heap[w3.heap.size + 1]? = some (.cells #[.pointer (some ⟨w3.heap.size, 3, none⟩), .pointer (some ⟨w3.heap.size, 4, none⟩), .pointer (some ⟨w3.heap.size, 5, none⟩)] 127 (0, 0))) := Lib.hid (new_at _ _ _ (by simp))
  have HZ5 : Hid (OpBlk ((w3.alloc (.cells (opCells (opK a1.1 a2.1 a3.1 v 0)) 23)).alloc (.cells #[.pointer (some ⟨w3.heap.size, 3, none⟩), .pointer (some ⟨w3.heap.size, 4, none⟩), .pointer (some ⟨w3.heap.size, 5, none⟩)] 127)) W.heap.size op0) := Lib.hid (old_at _ _ _ _ (old_at _ _ _ _ HO3.out))
  obtain ⟨O, hO⟩ : ∃ O, O = w3.heap.size := ⟨_, rfl⟩
  have hlO : W.heap.size < O := by omega
  clear hv HR3 HO3 HA1 HA2 HA3
  go_wp2_with fail
  go_loopw [20] (fun i wr => ∃ k : Nat, k ≤ 3 ∧ i = .int .i64 k ∧ Hid (OpBlk wr w3.heap.size (opK a1.1 a2.1 a3.1 v k)) ∧ Hid (wr.heap[w3.heap.size + 1]? = some (.cells #[.pointer (some ⟨w3.heap.size, 3, none⟩), .pointer (some ⟨w3.heap.size, 4, none⟩), .pointer (some ⟨w3.heap.size, 5, none⟩)] 127 (0, 0))) ∧ Hid (OpBlk wr W.heap.size op0) ∧ Hid (RS w0 wr B b (tSt v k))) (fun i _ => 3 - (intOf i).toNat)
  case atStart => exact ⟨0, Nat.zero_le _, rfl, HO5, HP5, HZ5, HR5⟩
  case round =>
    obtain ⟨k, hk, rfl, HOk, HPk, HZk, HRk⟩ := hrel
    clear HR5 HO5 HP5 HZ5
    by_cases hlt : k < 3
    · have hx1 : (0 : Int) ≤ k := by omega
      have hx2 : (k : Int) < 3 := by omega
      have hts : Hid (Calls Try.prog 82 #[.pointer (some ⟨b, 0, none⟩), .int .i64 1000] wr fun e w' => e = .returned (.string (tX v k)) ∧ RS w0 w' B b (tSt v (k + 1)) ∧ wr.grownBy w' (some b)) := Lib.hid (HRk.out.text 1000)
      have hxl := tX_len v k
      obtain ⟨T, hT⟩ : ∃ T, T = tX v k := ⟨_, rfl⟩
      rw [← hT] at hts hxl
      have HT := Lib.hid hT
      clear hT
      have hk3 : k = 0 ∨ k = 1 ∨ k = 2 := by omega
      rcases hk3 with hk0 | hk0 | hk0
      · have cP : wr.cell? ⟨w3.heap.size + 1, k, none⟩ = some (.pointer (some ⟨w3.heap.size, 3, none⟩)) := by rw [blk_cell HPk.out, hk0]; rfl
        have HNext : Hid (∀ w6 : World, OpBlk w6 w3.heap.size (opK a1.1 a2.1 a3.1 v k) → OpBlk (w6.setCell ⟨w3.heap.size, 3, none⟩ (.string T)) w3.heap.size (opK a1.1 a2.1 a3.1 v (k + 1))) := Lib.hid (fun w6 h => by
          subst hk0
          rw [HT.out]
          exact blk_set h 3 _)
        clear hk0
        go_wp2_with fail
        refine hts.out.mono ?_
        rintro e w5 ⟨rfl, R5, hg5⟩
        have HO5 := HOk.out.far hg5 (by omega)
        have HZ5 := HZk.out.far hg5 (by omega)
        have HP5 := (hg5.block (w3.heap.size + 1) (blk_lt HPk.out) (fun e => by injection e with e; omega)).trans HPk.out
        clear hg5
        go_wp2_with fail
        refine (clone_any T w5 (by omega)).mono ?_
        rintro e w6 ⟨rfl, hb6⟩
        have HO6 := Lib.hid (HO5.below hb6)
        have HZ6 := Lib.hid (HZ5.below hb6)
        have HP6 := Lib.hid ((hb6.block (w3.heap.size + 1) (blk_lt HP5)).trans HP5)
        have HR6 := Lib.hid (R5.step hb6)
        obtain ⟨⟨_, _, _⟩, ⟨x3, x4, x5⟩, xf⟩ := HO6.out.facts
        have xfr := xf 3
        clear HO5 HZ5 HP5 hb6 R5 xf
        go_wp2_with fail
        go_roundw
        case rel => exact ⟨k + 1, by omega, by go_num, Lib.hid (HNext.out _ HO6.out), Lib.hid ((Below.heap_setCell _ _ _ _ (by show w3.heap.size + 1 ≠ w3.heap.size; omega)).trans HP6.out), Lib.hid ((Below.heap_setCell _ _ _ _ (by show W.heap.size ≠ w3.heap.size; omega)).trans HZ6.out), Lib.hid (HR6.out.set (by omega) (by omega))⟩
        case measure => simp [intOf] <;> omega
      · have cP : wr.cell? ⟨w3.heap.size + 1, k, none⟩ = some (.pointer (some ⟨w3.heap.size, 4, none⟩)) := by rw [blk_cell HPk.out, hk0]; rfl
        have HNext : Hid (∀ w6 : World, OpBlk w6 w3.heap.size (opK a1.1 a2.1 a3.1 v k) → OpBlk (w6.setCell ⟨w3.heap.size, 4, none⟩ (.string T)) w3.heap.size (opK a1.1 a2.1 a3.1 v (k + 1))) := Lib.hid (fun w6 h => by
          subst hk0
          rw [HT.out]
          exact blk_set h 4 _)
        clear hk0
        go_wp2_with fail
        refine hts.out.mono ?_
        rintro e w5 ⟨rfl, R5, hg5⟩
        have HO5 := HOk.out.far hg5 (by omega)
        have HZ5 := HZk.out.far hg5 (by omega)
        have HP5 := (hg5.block (w3.heap.size + 1) (blk_lt HPk.out) (fun e => by injection e with e; omega)).trans HPk.out
        clear hg5
        go_wp2_with fail
        refine (clone_any T w5 (by omega)).mono ?_
        rintro e w6 ⟨rfl, hb6⟩
        have HO6 := Lib.hid (HO5.below hb6)
        have HZ6 := Lib.hid (HZ5.below hb6)
        have HP6 := Lib.hid ((hb6.block (w3.heap.size + 1) (blk_lt HP5)).trans HP5)
        have HR6 := Lib.hid (R5.step hb6)
        obtain ⟨⟨_, _, _⟩, ⟨x3, x4, x5⟩, xf⟩ := HO6.out.facts
        have xfr := xf 4
        clear HO5 HZ5 HP5 hb6 R5 xf
        go_wp2_with fail
        go_roundw
        case rel => exact ⟨k + 1, by omega, by go_num, Lib.hid (HNext.out _ HO6.out), Lib.hid ((Below.heap_setCell _ _ _ _ (by show w3.heap.size + 1 ≠ w3.heap.size; omega)).trans HP6.out), Lib.hid ((Below.heap_setCell _ _ _ _ (by show W.heap.size ≠ w3.heap.size; omega)).trans HZ6.out), Lib.hid (HR6.out.set (by omega) (by omega))⟩
        case measure => simp [intOf] <;> omega
      · have cP : wr.cell? ⟨w3.heap.size + 1, k, none⟩ = some (.pointer (some ⟨w3.heap.size, 5, none⟩)) := by rw [blk_cell HPk.out, hk0]; rfl
        have HNext : Hid (∀ w6 : World, OpBlk w6 w3.heap.size (opK a1.1 a2.1 a3.1 v k) → OpBlk (w6.setCell ⟨w3.heap.size, 5, none⟩ (.string T)) w3.heap.size (opK a1.1 a2.1 a3.1 v (k + 1))) := Lib.hid (fun w6 h => by
          subst hk0
          rw [HT.out]
          exact blk_set h 5 _)
        clear hk0
        go_wp2_with fail
        refine hts.out.mono ?_
        rintro e w5 ⟨rfl, R5, hg5⟩
        have HO5 := HOk.out.far hg5 (by omega)
        have HZ5 := HZk.out.far hg5 (by omega)
        have HP5 := (hg5.block (w3.heap.size + 1) (blk_lt HPk.out) (fun e => by injection e with e; omega)).trans HPk.out
        clear hg5
        go_wp2_with fail
        refine (clone_any T w5 (by omega)).mono ?_
        rintro e w6 ⟨rfl, hb6⟩
        have HO6 := Lib.hid (HO5.below hb6)
        have HZ6 := Lib.hid (HZ5.below hb6)
        have HP6 := Lib.hid ((hb6.block (w3.heap.size + 1) (blk_lt HP5)).trans HP5)
        have HR6 := Lib.hid (R5.step hb6)
        obtain ⟨⟨_, _, _⟩, ⟨x3, x4, x5⟩, xf⟩ := HO6.out.facts
        have xfr := xf 5
        clear HO5 HZ5 HP5 hb6 R5 xf
        go_wp2_with fail
        go_roundw
        case rel => exact ⟨k + 1, by omega, by go_num, Lib.hid (HNext.out _ HO6.out), Lib.hid ((Below.heap_setCell _ _ _ _ (by show w3.heap.size + 1 ≠ w3.heap.size; omega)).trans HP6.out), Lib.hid ((Below.heap_setCell _ _ _ _ (by show W.heap.size ≠ w3.heap.size; omega)).trans HZ6.out), Lib.hid (HR6.out.set (by omega) (by omega))⟩
        case measure => simp [intOf] <;> omega
    · obtain rfl : k = 3 := by omega
      have HF := Lib.hid HRk.out.fin
      have HVd := Lib.hid (fun W => valid_any (opK a1.1 a2.1 a3.1 v 3) W)
      have HBl := Lib.hid HRk.out.2.1
      have HSz := Lib.hid HRk.out.size
      have hBR : B ≤ W.heap.size := hBW
      obtain ⟨⟨z0, z1, z2⟩, ⟨z3, z4, z5⟩, zf⟩ := HZk.out.facts
      have hO2 := HOk.out
      obtain ⟨⟨y0, y1, y2⟩, ⟨y3, y4, y5⟩, _⟩ := HOk.out.facts
      have zf0 := zf 0
      have zf1 := zf 1
      have zf2 := zf 2
      have zf3 := zf 3
      have zf4 := zf 4
      have zf5 := zf 5
      have HE : Hid (getOpE st = if rEnd (tSt v 3) = 0 then validV (opK a1.1 a2.1 a3.1 v 3) else rEnd (tSt v 3)) := Lib.hid (by unfold getOpE; rw [HRd.out, HVs.out])
      obtain ⟨q, hq⟩ : ∃ q, q = opK a1.1 a2.1 a3.1 v 3 := ⟨_, rfl⟩
      rw [← hq] at HVd HE HRd hO2 y0 y1 y2 y3 y4 y5
      have HO2 := Lib.hid hO2
      clear hO2
      obtain ⟨r, hr⟩ : ∃ r, r = rEnd (tSt v 3) := ⟨_, rfl⟩
      rw [← hr] at HF HE
      have HZ2 := Lib.hid HZk.out
      clear hq hr zf HRk HOk HPk HZk HVs
      dsimp only [op0] at z0 z1 z2 z3 z4 z5
      by_cases h0 : r = 0
      · have hd : (r == 0) = true := by simp [h0]
        have hE := HE.out
        rw [if_pos h0] at hE
        obtain ⟨g, hg⟩ : ∃ g, g = validV q := ⟨_, rfl⟩
        rw [← hg] at HVd hE
        by_cases hg0 : g = 0
        · have hres : getOpV st = (q, 0) := by unfold getOpV; rw [hE, if_pos hg0, ← HRd.out]
          rw [hg0] at HVd
          have HRes := Lib.hid hres
          rw [h0] at HF
          clear hres hE hg hg0 hd h0 HE
          go_wp2_with fail
          refine HF.out.mono ?_
          rintro e w5 ⟨rfl, rfl⟩
          go_wp2_with fail
          refine (HVd.out wr).mono ?_
          rintro e w6 ⟨rfl, hb6⟩
          have hk6 := HZ2.out.below hb6
          have ho6 := HO2.out.below hb6
          have hbl6 : Below B w0 w6 := HBl.out.trans (hb6.mono HSz.out)
          obtain ⟨⟨x0, x1, x2⟩, ⟨x3, x4, x5⟩, xf⟩ := hk6.facts
          obtain ⟨⟨u0, u1, u2⟩, ⟨u3, u4, u5⟩, _⟩ := ho6.facts
          have xf0 := xf 0
          have xf1 := xf 1
          have xf2 := xf 2
          have xf3 := xf 3
          have xf4 := xf 4
          have xf5 := xf 5
          dsimp only [op0] at x0 x1 x2 x3 x4 x5
          have HB6 := Lib.hid hbl6
          clear hk6 ho6 xf hb6 z0 z1 z2 z3 z4 z5 y0 y1 y2 y3 y4 y5 zf0 zf1 zf2 zf3 zf4 zf5 hbl6
          go_wp2_with fail
          rw [HRes.out]
          refine bodyPost_ret (v := .tuple #[q.agg, .int .i64 0]) (by simp [results, Try.results51, go_sem, x0, x1, x2, x3, x4, x5, OpV.agg]; try rfl) rfl ⟨rfl, ?_⟩
          exact (((((HB6.out.setCell hBR _).setCell hBR _).setCell hBR _).setCell hBR _).setCell hBR _).setCell hBR _
        · have hres : getOpV st = (op0, g) := by unfold getOpV; rw [hE, if_neg hg0]
          have hd2 : (g != 0) = true := by simpa using hg0
          have HRes := Lib.hid hres
          rw [h0] at HF
          clear hres hE hg hg0 hd h0 HE
          go_wp2_with fail
          refine HF.out.mono ?_
          rintro e w5 ⟨rfl, rfl⟩
          go_wp2_with fail
          refine (HVd.out wr).mono ?_
          rintro e w6 ⟨rfl, hb6⟩
          have hk6 := HZ2.out.below hb6
          have ho6 := HO2.out.below hb6
          have hbl6 : Below B w0 w6 := HBl.out.trans (hb6.mono HSz.out)
          obtain ⟨⟨x0, x1, x2⟩, ⟨x3, x4, x5⟩, xf⟩ := hk6.facts
          obtain ⟨⟨u0, u1, u2⟩, ⟨u3, u4, u5⟩, _⟩ := ho6.facts
          have xf0 := xf 0
          have xf1 := xf 1
          have xf2 := xf 2
          have xf3 := xf 3
          have xf4 := xf 4
          have xf5 := xf 5
          dsimp only [op0] at x0 x1 x2 x3 x4 x5
          have HB6 := Lib.hid hbl6
          clear hk6 ho6 xf hb6 z0 z1 z2 z3 z4 z5 y0 y1 y2 y3 y4 y5 zf0 zf1 zf2 zf3 zf4 zf5 hbl6
          go_wp2_with fail
          rw [HRes.out]
          refine bodyPost_ret (v := .tuple #[op0.agg, .int .i64 g]) (by simp [results, Try.results51, go_sem, x0, x1, x2, x3, x4, x5, op0, OpV.agg]; try rfl) rfl ⟨rfl, ?_⟩
          exact (((((HB6.out.setCell hBR _).setCell hBR _).setCell hBR _).setCell hBR _).setCell hBR _).setCell hBR _
      · have hd : (r == 0) = false := by simpa using h0
        have hd2 : (r != 0) = true := by simpa using h0
        have hE := HE.out
        rw [if_neg h0] at hE
        have hres : getOpV st = (op0, r) := by unfold getOpV; rw [hE, if_neg h0]
        have HRes := Lib.hid hres
        clear hres hE h0 HE HVd HRd
        go_wp2_with fail
        refine HF.out.mono ?_
        rintro e w5 ⟨rfl, rfl⟩
        go_wp2_with fail
        rw [HRes.out]
        refine bodyPost_ret (v := .tuple #[op0.agg, .int .i64 r]) (by simp [results, Try.results51, go_sem, z0, z1, z2, z3, z4, z5, op0, OpV.agg]; try rfl) rfl ⟨rfl, ?_⟩
        exact (((((HBl.out.setCell hBR _).setCell hBR _).setCell hBR _).setCell hBR _).setCell hBR _).setCell hBR _
end Go.Proofs.Ytfogoebflfkknaa
