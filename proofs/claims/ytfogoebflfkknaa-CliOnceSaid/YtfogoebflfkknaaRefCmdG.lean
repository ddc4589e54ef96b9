/- The walks of arboretumref22.Get, GetReply, Asked and Told, and of cmd.GetReply (printed by wip/gen_refcmdg.py). -/
import Derived.Test.YtfogoebflfkknaaRefCmdR
import Derived.Test.YtfogoebflfkknaaCmdFb
namespace Go.Proofs.Ytfogoebflfkknaa
open Go.RowKit
set_option linter.unusedVariables false
/-- The document's reader along a walk. -/
def RRS (w0 w1 : World) (B b : Nat) (st : RSt) : Prop := RRdr w1 b st ∧ Below B w0 w1 ∧ B ≤ b
theorem RRS.new {w0 W : World} {B : Nat} (s : ByteArray) (hb : Below B w0 W) (hB : B ≤ W.heap.size) (hs : s.size ≤ 281474976710656) (g : Nat) (hg : W.heap.size = g) : RRS w0 (W.alloc (.cells #[.string s, .int .i64 0] 92)) B g (s.data.toList, 0) := by
  subst hg
  exact ⟨⟨s, rfl, by omega, heap_alloc_new W _⟩, hb.alloc hB _, hB⟩
section
variable {w0 W : World} {B b : Nat} {st : RSt} (h : RRS w0 W B b st)
include h
theorem RRS.rvar : Calls Try.prog 58 #[.pointer (some ⟨b, 0, none⟩)] W fun e w' => e = .returned (.int .i64 (rVar st).1) ∧ RRS w0 w' B b (rVar st).2 := by
  refine (rrvar_any h.1).mono ?_
  rintro e w' ⟨he, hr, hg⟩
  exact ⟨he, hr, h.2.1.grown hg (Nat.le_of_lt (Nat.lt_of_le_of_lt h.2.2 h.1.lt)) (fun k e => by injection e with e; have := h.2.2; omega), h.2.2⟩
theorem RRS.op : Calls Try.prog 53 #[.pointer (some ⟨b, 0, none⟩)] W fun e w' => e = .returned (.tuple #[(getOpV st).1.agg, .int .i64 (getOpV st).2]) ∧ Below B w0 w' := by
  refine (rreadOp_any h.1).mono ?_
  rintro e w' ⟨he, hg⟩
  exact ⟨he, h.2.1.grown hg (Nat.le_of_lt (Nat.lt_of_le_of_lt h.2.2 h.1.lt)) (fun k e => by injection e with e; have := h.2.2; omega)⟩
theorem RRS.rep : Calls Try.prog 55 #[.pointer (some ⟨b, 0, none⟩)] W fun e w' => e = .returned (.tuple #[(getRepV st).1.agg, .int .i64 (getRepV st).2]) ∧ Below B w0 w' := by
  refine (rreadRep_any h.1).mono ?_
  rintro e w' ⟨he, hg⟩
  exact ⟨he, h.2.1.grown hg (Nat.le_of_lt (Nat.lt_of_le_of_lt h.2.2 h.1.lt)) (fun k e => by injection e with e; have := h.2.2; omega)⟩
end
theorem size0 {s : ByteArray} (h : s.size = 0) : s = ⟨#[]⟩ := by
  rcases s with ⟨⟨l⟩⟩
  have : l = [] := List.eq_nil_of_length_eq_zero h
  subst this; rfl
theorem notEmp {s : ByteArray} (h : s.size ≠ 0) : s.toList.isEmpty = false := by
  rw [ByteArray.toList_eq]
  have hl : s.data.toList.length = s.size := rfl
  cases hh : s.data.toList with
  | nil => rw [hh] at hl; exact absurd hl.symm h
  | cons a r => rfl
theorem isPre_one (c : UInt8) {s : ByteArray} (h0 : 0 < s.size) : isPre ⟨#[c]⟩ s ↔ s[0].toNat = c.toNat := by
  rcases s with ⟨⟨l⟩⟩
  cases l with
  | nil => exact absurd h0 (by decide)
  | cons a r =>
    show [a] = [c] ↔ a.toNat = c.toNat
    constructor
    · intro h; injection h with h1; rw [h1]
    · intro h; rw [UInt8.toNat_inj.1 h]

set_option maxRecDepth 20000 in
theorem rget_aux (s : ByteArray) (w : World) (hs : s.size ≤ 281474976710656) (q : OpV) (g : Int) (hr : getOpV (s.data.toList, 0) = (q, g)) :
    Calls Try.prog 22 #[.string s] w fun e w' => e = .returned (.tuple #[q.agg, .int .i64 g]) ∧ Below w.heap.size w w' := by
  have HG := Lib.hid ((RRS.new (w0 := w.alloc (.cells (opCells op0) 23)) (B := w.heap.size + 1) s (Below.refl _ _) (by simp) hs (w.heap.size + 1) (by simp)).op)
  rw [hr] at HG
  clear hr
  dsimp only [OpV.agg, RepV.agg] at HG ⊢
  go_enter Try.func22, Try.ntmps22
  go_wp2_with fail
  refine HG.out.mono ?_
  rintro e w2 ⟨rfl, hb2⟩
  have hk : OpBlk w2 w.heap.size op0 := (hb2.block w.heap.size (by omega)).trans (heap_alloc_new w _)
  obtain ⟨⟨x0, x1, x2⟩, ⟨x3, x4, x5⟩, xf⟩ := hk.facts
  have xf0 := xf 0
  have xf1 := xf 1
  have xf2 := xf 2
  have xf3 := xf 3
  have xf4 := xf 4
  have xf5 := xf 5
  dsimp only [op0] at x0 x1 x2 x3 x4 x5
  have HB : Hid (Below w.heap.size w w2) := Lib.hid (((Below.refl _ _).alloc (Nat.le_refl _) _).trans (hb2.mono (by omega)))
  clear hk xf hb2 HG
  go_wp2_with fail
  refine bodyPost_ret (v := .tuple #[.agg #[.int .i64 q.kd, .int .i64 q.ss, .int .i64 q.sq, .string q.key, .string q.val, .string q.old], .int .i64 g]) (by simp [results, Try.results22, go_sem, x0, x1, x2, x3, x4, x5]; try rfl) rfl ⟨rfl, ?_⟩
  exact (by ((repeat (with_reducible (first | exact HB.out | refine Below.setCell ?_ ?_ _ | refine Below.alloc ?_ ?_ _ | refine Below.drew ?_ | refine below_drewN ?_ _))); all_goals (first | exact Nat.le_refl _ | (simp [World.setCell] <;> omega))))
theorem rget_any (s : ByteArray) (w : World) (hs : s.size ≤ 281474976710656) :
    Calls Try.prog 22 #[.string s] w fun e w' => e = .returned (.tuple #[(getOpV (s.data.toList, 0)).1.agg, .int .i64 (getOpV (s.data.toList, 0)).2]) ∧ Below w.heap.size w w' :=
  rget_aux s w hs _ _ rfl
set_option maxRecDepth 20000 in
theorem rgetRep_aux (s : ByteArray) (w : World) (hs : s.size ≤ 281474976710656) (q : RepV) (g : Int) (hr : getRepV (s.data.toList, 0) = (q, g)) :
    Calls Try.prog 24 #[.string s] w fun e w' => e = .returned (.tuple #[q.agg, .int .i64 g]) ∧ Below w.heap.size w w' := by
  have HG := Lib.hid ((RRS.new (w0 := w.alloc (.cells (repCells rep0) 26)) (B := w.heap.size + 1) s (Below.refl _ _) (by simp) hs (w.heap.size + 1) (by simp)).rep)
  rw [hr] at HG
  clear hr
  dsimp only [OpV.agg, RepV.agg] at HG ⊢
  go_enter Try.func24, Try.ntmps24
  go_wp2_with fail
  refine HG.out.mono ?_
  rintro e w2 ⟨rfl, hb2⟩
  have hk : RepBlk w2 w.heap.size rep0 := (hb2.block w.heap.size (by omega)).trans (heap_alloc_new w _)
  obtain ⟨⟨x0, x1, x2⟩, xf⟩ := hk.facts
  have xf0 := xf 0
  have xf1 := xf 1
  have xf2 := xf 2
  dsimp only [rep0] at x0 x1 x2
  have HB : Hid (Below w.heap.size w w2) := Lib.hid (((Below.refl _ _).alloc (Nat.le_refl _) _).trans (hb2.mono (by omega)))
  clear hk xf hb2 HG
  go_wp2_with fail
  refine bodyPost_ret (v := .tuple #[.agg #[.int .i64 q.err, .string q.val, .int .i64 q.num], .int .i64 g]) (by simp [results, Try.results24, go_sem, x0, x1, x2]; try rfl) rfl ⟨rfl, ?_⟩
  exact (by ((repeat (with_reducible (first | exact HB.out | refine Below.setCell ?_ ?_ _ | refine Below.alloc ?_ ?_ _ | refine Below.drew ?_ | refine below_drewN ?_ _))); all_goals (first | exact Nat.le_refl _ | (simp [World.setCell] <;> omega))))
theorem rgetRep_any (s : ByteArray) (w : World) (hs : s.size ≤ 281474976710656) :
    Calls Try.prog 24 #[.string s] w fun e w' => e = .returned (.tuple #[(getRepV (s.data.toList, 0)).1.agg, .int .i64 (getRepV (s.data.toList, 0)).2]) ∧ Below w.heap.size w w' :=
  rgetRep_aux s w hs _ _ rfl
set_option maxRecDepth 20000 in
theorem cmdGetRep_aux (s : ByteArray) (w : World) (hs : s.size ≤ 281474976710656) (q : RepV) (g : Int) (hr : getRepV (s.data.toList, 0) = (q, g)) :
    Calls Try.prog 23 #[.string s] w fun e w' => e = .returned (.tuple #[q.agg, .int .i64 g]) ∧ Below w.heap.size w w' := by
  go_enter Try.func23, Try.ntmps23
  go_wp2_with fail
  refine (RS.new (w0 := w.alloc (.cells (repCells rep0) 26)) (B := w.heap.size + 1) s (Below.refl _ _) (by simp) hs).mono ?_
  rintro e w1 ⟨b, rfl, R1⟩
  go_wp2_with fail
  refine (getRep_any R1).mono ?_
  rw [hr]
  clear hr
  dsimp only [RepV.agg]
  rintro e w2 ⟨rfl, hb2⟩
  have hk : RepBlk w2 w.heap.size rep0 := (hb2.block w.heap.size (by omega)).trans (heap_alloc_new w _)
  obtain ⟨⟨x0, x1, x2⟩, xf⟩ := hk.facts
  have xf0 := xf 0
  have xf1 := xf 1
  have xf2 := xf 2
  dsimp only [rep0] at x0 x1 x2
  have HB : Hid (Below w.heap.size w w2) := Lib.hid (((Below.refl _ _).alloc (Nat.le_refl _) _).trans (hb2.mono (by omega)))
  clear hk xf hb2 R1
  go_wp2_with fail
  refine bodyPost_ret (v := .tuple #[.agg #[.int .i64 q.err, .string q.val, .int .i64 q.num], .int .i64 g]) (by simp [results, Try.results23, go_sem, x0, x1, x2]; try rfl) rfl ⟨rfl, ?_⟩
  exact (by ((repeat (with_reducible (first | exact HB.out | refine Below.setCell ?_ ?_ _ | refine Below.alloc ?_ ?_ _ | refine Below.drew ?_ | refine below_drewN ?_ _))); all_goals (first | exact Nat.le_refl _ | (simp [World.setCell] <;> omega))))
theorem cmdGetRep_any (s : ByteArray) (w : World) (hs : s.size ≤ 281474976710656) :
    Calls Try.prog 23 #[.string s] w fun e w' => e = .returned (.tuple #[(getRepV (s.data.toList, 0)).1.agg, .int .i64 (getRepV (s.data.toList, 0)).2]) ∧ Below w.heap.size w w' :=
  cmdGetRep_aux s w hs _ _ rfl
set_option maxRecDepth 20000 in
set_option maxHeartbeats 4000000 in
theorem rasked_no (s : ByteArray) (w : World) (hs : s.size ≤ 281474976710656) (hp : ¬ isPre ⟨#[113]⟩ s) :
    Calls Try.prog 26 #[.string s] w fun e w' => e = .returned (.tuple #[.int .i64 0, op0.agg, .int .i64 4]) ∧ Below w.heap.size w w' := by
  have hk : OpBlk (w.alloc (.cells (opCells op0) 23)) w.heap.size op0 := heap_alloc_new w _
  obtain ⟨⟨x0, x1, x2⟩, ⟨x3, x4, x5⟩, xf⟩ := hk.facts
  have xf0 := xf 0
  have xf1 := xf 1
  have xf2 := xf 2
  have xf3 := xf 3
  have xf4 := xf 4
  have xf5 := xf 5
  have HB : Hid (Below w.heap.size w (w.alloc (.cells (opCells op0) 23))) := Lib.hid ((Below.refl _ _).alloc (Nat.le_refl _) _)
  clear hk xf
  have hc : s = ⟨#[]⟩ ∨ (s.toList.isEmpty = false ∧ 0 < s.size ∧ ∀ h : 0 < s.size, ((s[0].toNat : Int) != 113) = true) := by
    by_cases h0 : s.size = 0
    · exact .inl (size0 h0)
    · refine .inr ⟨notEmp h0, by omega, fun h => ?_⟩
      have h2 : ¬ s[0].toNat = 113 := fun h1 => hp ((isPre_one 113 h).2 h1)
      simp
      omega
  clear hp
  dsimp only [op0, opCells] at x0 x1 x2 x3 x4 x5 HB
  rcases hc with rfl | ⟨h1, h2, h3⟩
  · go_enter Try.func26, Try.ntmps26
    go_wp2_with fail
    refine bodyPost_ret (v := .tuple #[.int .i64 0, .agg #[.int .i64 0, .int .i64 0, .int .i64 0, .string ⟨#[]⟩, .string ⟨#[]⟩, .string ⟨#[]⟩], .int .i64 4]) (by simp (maxDischargeDepth := 10) [results, Try.results26, go_sem, x0, x1, x2, x3, x4, x5]; try rfl) rfl ⟨rfl, ?_⟩
    exact (by ((repeat (with_reducible (first | exact HB.out | refine Below.setCell ?_ ?_ _ | refine Below.alloc ?_ ?_ _ | refine Below.drew ?_ | refine below_drewN ?_ _))); all_goals (first | exact Nat.le_refl _ | (simp [World.setCell] <;> omega))))
  · have h4 := h3 h2
    clear h3
    go_enter Try.func26, Try.ntmps26
    go_wp2_with fail
    refine bodyPost_ret (v := .tuple #[.int .i64 0, .agg #[.int .i64 0, .int .i64 0, .int .i64 0, .string ⟨#[]⟩, .string ⟨#[]⟩, .string ⟨#[]⟩], .int .i64 4]) (by simp (maxDischargeDepth := 10) [results, Try.results26, go_sem, x0, x1, x2, x3, x4, x5]; try rfl) rfl ⟨rfl, ?_⟩
    exact (by ((repeat (with_reducible (first | exact HB.out | refine Below.setCell ?_ ?_ _ | refine Below.alloc ?_ ?_ _ | refine Below.drew ?_ | refine below_drewN ?_ _))); all_goals (first | exact Nat.le_refl _ | (simp [World.setCell] <;> omega))))
set_option maxRecDepth 20000 in
set_option maxHeartbeats 4000000 in
theorem rasked_err (s : ByteArray) (w : World) (hs : s.size ≤ 281474976710656) (hp : isPre ⟨#[113]⟩ s) (a1 : Int × RSt) (q : OpV) (g : Int)
    (hg : g ≠ 0) (h1 : rVar ((s.extract 1 s.size).data.toList, 0) = a1) (h3 : getOpV a1.2 = (q, g)) :
    Calls Try.prog 26 #[.string s] w fun e w' => e = .returned (.tuple #[.int .i64 0, op0.agg, .int .i64 g]) ∧ Below w.heap.size w w' := by
  have hz := isPre_size hp
  have h0 : 0 < s.size := hz
  have hq := (isPre_one 113 h0).1 hp
  have h5 : ((s[0].toNat : Int) != 113) = false := by rw [hq]; rfl
  have h6 := notEmp (s := s) (by omega)
  have h7 : (1 : Int) ≤ s.size := by omega
  have HA := Lib.hid (And.intro h1 h3)
  clear hp hz hq h1 h3
  obtain ⟨kd, ss, sq, key, val, old⟩ := q
  unfold OpV.agg at *
  have hd : (g != 0) = true := by simpa using hg
  clear hg
  have HR2 := Lib.hid ((RRS.new (w0 := w.alloc (.cells (opCells op0) 23)) (B := w.heap.size + 1) (s.extract 1 s.size) (Below.refl _ _) (by simp) (by simp; omega) (w.heap.size + 1) (by simp)).rvar)
  rw [HA.out.1] at HR2
  go_enter Try.func26, Try.ntmps26
  go_wp2_with fail
  refine HR2.out.mono ?_
  rintro e w4 ⟨rfl, R4⟩
  have HR4 := Lib.hid R4.op
  rw [HA.out.2] at HR4
  dsimp only [OpV.agg] at HR4
  clear R4 HA HR2
  go_wp2_with fail
  refine HR4.out.mono ?_
  rintro e w5 ⟨rfl, hb5⟩
  have hk : OpBlk w5 w.heap.size op0 := (hb5.block w.heap.size (by omega)).trans (heap_alloc_new w _)
  have hlt5 : w.heap.size < w5.heap.size := blk_lt hk
  have HB : Hid (Below w.heap.size w w5) := Lib.hid (((Below.refl _ _).alloc (Nat.le_refl _) _).trans (hb5.mono (by omega)))
  have hkW : OpBlk (w5.alloc (.cells #[.int .i64 kd, .int .i64 ss, .int .i64 sq, .string key, .string val, .string old] 23)) w.heap.size op0 := (Below.heap_alloc w5 _ w.heap.size hlt5).trans hk
  have hqW : OpBlk (w5.alloc (.cells #[.int .i64 kd, .int .i64 ss, .int .i64 sq, .string key, .string val, .string old] 23)) w5.heap.size ⟨kd, ss, sq, key, val, old⟩ := heap_alloc_new w5 _
  have hBW : Below w.heap.size w (w5.alloc (.cells #[.int .i64 kd, .int .i64 ss, .int .i64 sq, .string key, .string val, .string old] 23)) := HB.out.alloc (Nat.le_of_lt hlt5) _
  clear hk hb5 HR4 HB
  go_upto_region 6 with fail
  generalize w5.alloc (.cells #[.int .i64 kd, .int .i64 ss, .int .i64 sq, .string key, .string val, .string old] 23) = W at hkW hqW hBW ⊢
  obtain ⟨⟨x0, x1, x2⟩, ⟨x3, x4, x5⟩, xf⟩ := hkW.facts
  have xf0 := xf 0
  have xf1 := xf 1
  have xf2 := xf 2
  have xf3 := xf 3
  have xf4 := xf 4
  have xf5 := xf 5
  dsimp only [op0] at x0 x1 x2 x3 x4 x5
  have HB := Lib.hid hBW
  clear xf hkW hqW hBW
  go_wp2_with fail
  refine bodyPost_ret (v := .tuple #[.int .i64 0, .agg #[.int .i64 0, .int .i64 0, .int .i64 0, .string ⟨#[]⟩, .string ⟨#[]⟩, .string ⟨#[]⟩], .int .i64 g]) (by simp (maxDischargeDepth := 10) [results, Try.results26, go_sem, x0, x1, x2, x3, x4, x5]; try rfl) rfl ⟨rfl, ?_⟩
  exact (by ((repeat (with_reducible (first | exact HB.out | refine Below.setCell ?_ ?_ _ | refine Below.alloc ?_ ?_ _ | refine Below.drew ?_ | refine below_drewN ?_ _))); all_goals (first | exact Nat.le_refl _ | (simp [World.setCell] <;> omega))))
set_option maxRecDepth 20000 in
set_option maxHeartbeats 4000000 in
theorem rasked_ok (s : ByteArray) (w : World) (hs : s.size ≤ 281474976710656) (hp : isPre ⟨#[113]⟩ s) (a1 : Int × RSt) (q : OpV) (g : Int)
    (hg : g = 0) (h1 : rVar ((s.extract 1 s.size).data.toList, 0) = a1) (h3 : getOpV a1.2 = (q, g)) :
    Calls Try.prog 26 #[.string s] w fun e w' => e = .returned (.tuple #[.int .i64 a1.1, q.agg, .int .i64 0]) ∧ Below w.heap.size w w' := by
  have hz := isPre_size hp
  have h0 : 0 < s.size := hz
  have hq := (isPre_one 113 h0).1 hp
  have h5 : ((s[0].toNat : Int) != 113) = false := by rw [hq]; rfl
  have h6 := notEmp (s := s) (by omega)
  have h7 : (1 : Int) ≤ s.size := by omega
  have HA := Lib.hid (And.intro h1 h3)
  clear hp hz hq h1 h3
  obtain ⟨kd, ss, sq, key, val, old⟩ := q
  unfold OpV.agg at *
  subst hg
  have HR2 := Lib.hid ((RRS.new (w0 := w.alloc (.cells (opCells op0) 23)) (B := w.heap.size + 1) (s.extract 1 s.size) (Below.refl _ _) (by simp) (by simp; omega) (w.heap.size + 1) (by simp)).rvar)
  rw [HA.out.1] at HR2
  go_enter Try.func26, Try.ntmps26
  go_wp2_with fail
  refine HR2.out.mono ?_
  rintro e w4 ⟨rfl, R4⟩
  have HR4 := Lib.hid R4.op
  rw [HA.out.2] at HR4
  dsimp only [OpV.agg] at HR4
  clear R4 HA HR2
  go_wp2_with fail
  refine HR4.out.mono ?_
  rintro e w5 ⟨rfl, hb5⟩
  have hk : OpBlk w5 w.heap.size op0 := (hb5.block w.heap.size (by omega)).trans (heap_alloc_new w _)
  have hlt5 : w.heap.size < w5.heap.size := blk_lt hk
  have HB : Hid (Below w.heap.size w w5) := Lib.hid (((Below.refl _ _).alloc (Nat.le_refl _) _).trans (hb5.mono (by omega)))
  have hkW : OpBlk (w5.alloc (.cells #[.int .i64 kd, .int .i64 ss, .int .i64 sq, .string key, .string val, .string old] 23)) w.heap.size op0 := (Below.heap_alloc w5 _ w.heap.size hlt5).trans hk
  have hqW : OpBlk (w5.alloc (.cells #[.int .i64 kd, .int .i64 ss, .int .i64 sq, .string key, .string val, .string old] 23)) w5.heap.size ⟨kd, ss, sq, key, val, old⟩ := heap_alloc_new w5 _
  have hBW : Below w.heap.size w (w5.alloc (.cells #[.int .i64 kd, .int .i64 ss, .int .i64 sq, .string key, .string val, .string old] 23)) := HB.out.alloc (Nat.le_of_lt hlt5) _
  clear hk hb5 HR4 HB
  go_upto_region 6 with fail
  generalize w5.alloc (.cells #[.int .i64 kd, .int .i64 ss, .int .i64 sq, .string key, .string val, .string old] 23) = W at hkW hqW hBW ⊢
  obtain ⟨⟨x0, x1, x2⟩, ⟨x3, x4, x5⟩, xf⟩ := hkW.facts
  have xf0 := xf 0
  have xf1 := xf 1
  have xf2 := xf 2
  have xf3 := xf 3
  have xf4 := xf 4
  have xf5 := xf 5
  dsimp only [op0] at x0 x1 x2 x3 x4 x5
  have HB := Lib.hid hBW
  obtain ⟨⟨y0, y1, y2⟩, ⟨y3, y4, y5⟩, _⟩ := hqW.facts
  dsimp only at y0 y1 y2 y3 y4 y5
  clear xf hkW hqW hBW
  go_wp2_with fail
  go_region
  all_goals (
    go_wp2_with fail
    refine bodyPost_ret (v := .tuple #[.int .i64 a1.1, .agg #[.int .i64 kd, .int .i64 ss, .int .i64 sq, .string key, .string val, .string old], .int .i64 0]) (by simp (maxDischargeDepth := 10) [results, Try.results26, go_sem, x0, x1, x2, x3, x4, x5]; try rfl) rfl ⟨rfl, ?_⟩
    exact (by ((repeat (with_reducible (first | exact HB.out | refine Below.setCell ?_ ?_ _ | refine Below.alloc ?_ ?_ _ | refine Below.drew ?_ | refine below_drewN ?_ _))); all_goals (first | exact Nat.le_refl _ | (simp [World.setCell] <;> omega)))))
set_option maxRecDepth 20000 in
set_option maxHeartbeats 4000000 in
theorem rtold_no (s : ByteArray) (w : World) (hs : s.size ≤ 281474976710656) (hp : ¬ isPre ⟨#[97]⟩ s) :
    Calls Try.prog 28 #[.string s] w fun e w' => e = .returned (.tuple #[.int .i64 0, .int .i64 0, rep0.agg, .int .i64 4]) ∧ Below w.heap.size w w' := by
  have hk : RepBlk (w.alloc (.cells (repCells rep0) 26)) w.heap.size rep0 := heap_alloc_new w _
  obtain ⟨⟨x0, x1, x2⟩, xf⟩ := hk.facts
  have xf0 := xf 0
  have xf1 := xf 1
  have xf2 := xf 2
  have HB : Hid (Below w.heap.size w (w.alloc (.cells (repCells rep0) 26))) := Lib.hid ((Below.refl _ _).alloc (Nat.le_refl _) _)
  clear hk xf
  have hc : s = ⟨#[]⟩ ∨ (s.toList.isEmpty = false ∧ 0 < s.size ∧ ∀ h : 0 < s.size, ((s[0].toNat : Int) != 97) = true) := by
    by_cases h0 : s.size = 0
    · exact .inl (size0 h0)
    · refine .inr ⟨notEmp h0, by omega, fun h => ?_⟩
      have h2 : ¬ s[0].toNat = 97 := fun h1 => hp ((isPre_one 97 h).2 h1)
      simp
      omega
  clear hp
  dsimp only [rep0, repCells] at x0 x1 x2 HB
  rcases hc with rfl | ⟨h1, h2, h3⟩
  · go_enter Try.func28, Try.ntmps28
    go_wp2_with fail
    refine bodyPost_ret (v := .tuple #[.int .i64 0, .int .i64 0, .agg #[.int .i64 0, .string ⟨#[]⟩, .int .i64 0], .int .i64 4]) (by simp (maxDischargeDepth := 10) [results, Try.results28, go_sem, x0, x1, x2]; try rfl) rfl ⟨rfl, ?_⟩
    exact (by ((repeat (with_reducible (first | exact HB.out | refine Below.setCell ?_ ?_ _ | refine Below.alloc ?_ ?_ _ | refine Below.drew ?_ | refine below_drewN ?_ _))); all_goals (first | exact Nat.le_refl _ | (simp [World.setCell] <;> omega))))
  · have h4 := h3 h2
    clear h3
    go_enter Try.func28, Try.ntmps28
    go_wp2_with fail
    refine bodyPost_ret (v := .tuple #[.int .i64 0, .int .i64 0, .agg #[.int .i64 0, .string ⟨#[]⟩, .int .i64 0], .int .i64 4]) (by simp (maxDischargeDepth := 10) [results, Try.results28, go_sem, x0, x1, x2]; try rfl) rfl ⟨rfl, ?_⟩
    exact (by ((repeat (with_reducible (first | exact HB.out | refine Below.setCell ?_ ?_ _ | refine Below.alloc ?_ ?_ _ | refine Below.drew ?_ | refine below_drewN ?_ _))); all_goals (first | exact Nat.le_refl _ | (simp [World.setCell] <;> omega))))
set_option maxRecDepth 20000 in
set_option maxHeartbeats 4000000 in
theorem rtold_err (s : ByteArray) (w : World) (hs : s.size ≤ 281474976710656) (hp : isPre ⟨#[97]⟩ s) (a1 a2 : Int × RSt) (q : RepV) (g : Int)
    (hg : g ≠ 0) (h1 : rVar ((s.extract 1 s.size).data.toList, 0) = a1) (h2 : rVar a1.2 = a2) (h3 : getRepV a2.2 = (q, g)) :
    Calls Try.prog 28 #[.string s] w fun e w' => e = .returned (.tuple #[.int .i64 0, .int .i64 0, rep0.agg, .int .i64 g]) ∧ Below w.heap.size w w' := by
  have hz := isPre_size hp
  have h0 : 0 < s.size := hz
  have hq := (isPre_one 97 h0).1 hp
  have h5 : ((s[0].toNat : Int) != 97) = false := by rw [hq]; rfl
  have h6 := notEmp (s := s) (by omega)
  have h7 : (1 : Int) ≤ s.size := by omega
  have HA := Lib.hid (And.intro h1 (And.intro h2 h3))
  clear hp hz hq h1 h2 h3
  obtain ⟨er, nm, vl⟩ := q
  unfold RepV.agg at *
  have hd : (g != 0) = true := by simpa using hg
  clear hg
  have HR2 := Lib.hid ((RRS.new (w0 := w.alloc (.cells (repCells rep0) 26)) (B := w.heap.size + 1) (s.extract 1 s.size) (Below.refl _ _) (by simp) (by simp; omega) (w.heap.size + 1) (by simp)).rvar)
  rw [HA.out.1] at HR2
  go_enter Try.func28, Try.ntmps28
  go_wp2_with fail
  refine HR2.out.mono ?_
  rintro e w4 ⟨rfl, R4⟩
  have HR3 := Lib.hid R4.rvar
  rw [HA.out.2.1] at HR3
  clear R4 HR2
  go_wp2_with fail
  refine HR3.out.mono ?_
  rintro e w4' ⟨rfl, R4⟩
  have HR4 := Lib.hid R4.rep
  rw [HA.out.2.2] at HR4
  dsimp only [RepV.agg] at HR4
  clear R4 HA HR3
  go_wp2_with fail
  refine HR4.out.mono ?_
  rintro e w5 ⟨rfl, hb5⟩
  have hk : RepBlk w5 w.heap.size rep0 := (hb5.block w.heap.size (by omega)).trans (heap_alloc_new w _)
  have hlt5 : w.heap.size < w5.heap.size := blk_lt hk
  have HB : Hid (Below w.heap.size w w5) := Lib.hid (((Below.refl _ _).alloc (Nat.le_refl _) _).trans (hb5.mono (by omega)))
  have hkW : RepBlk (w5.alloc (.cells #[.int .i64 er, .string vl, .int .i64 nm] 26)) w.heap.size rep0 := (Below.heap_alloc w5 _ w.heap.size hlt5).trans hk
  have hqW : RepBlk (w5.alloc (.cells #[.int .i64 er, .string vl, .int .i64 nm] 26)) w5.heap.size ⟨er, nm, vl⟩ := heap_alloc_new w5 _
  have hBW : Below w.heap.size w (w5.alloc (.cells #[.int .i64 er, .string vl, .int .i64 nm] 26)) := HB.out.alloc (Nat.le_of_lt hlt5) _
  clear hk hb5 HR4 HB
  go_upto_region 7 with fail
  generalize w5.alloc (.cells #[.int .i64 er, .string vl, .int .i64 nm] 26) = W at hkW hqW hBW ⊢
  obtain ⟨⟨x0, x1, x2⟩, xf⟩ := hkW.facts
  have xf0 := xf 0
  have xf1 := xf 1
  have xf2 := xf 2
  dsimp only [rep0] at x0 x1 x2
  have HB := Lib.hid hBW
  clear xf hkW hqW hBW
  go_wp2_with fail
  refine bodyPost_ret (v := .tuple #[.int .i64 0, .int .i64 0, .agg #[.int .i64 0, .string ⟨#[]⟩, .int .i64 0], .int .i64 g]) (by simp (maxDischargeDepth := 10) [results, Try.results28, go_sem, x0, x1, x2]; try rfl) rfl ⟨rfl, ?_⟩
  exact (by ((repeat (with_reducible (first | exact HB.out | refine Below.setCell ?_ ?_ _ | refine Below.alloc ?_ ?_ _ | refine Below.drew ?_ | refine below_drewN ?_ _))); all_goals (first | exact Nat.le_refl _ | (simp [World.setCell] <;> omega))))
set_option maxRecDepth 20000 in
set_option maxHeartbeats 4000000 in
theorem rtold_ok (s : ByteArray) (w : World) (hs : s.size ≤ 281474976710656) (hp : isPre ⟨#[97]⟩ s) (a1 a2 : Int × RSt) (q : RepV) (g : Int)
    (hg : g = 0) (h1 : rVar ((s.extract 1 s.size).data.toList, 0) = a1) (h2 : rVar a1.2 = a2) (h3 : getRepV a2.2 = (q, g)) :
    Calls Try.prog 28 #[.string s] w fun e w' => e = .returned (.tuple #[.int .i64 a1.1, .int .i64 a2.1, q.agg, .int .i64 0]) ∧ Below w.heap.size w w' := by
  have hz := isPre_size hp
  have h0 : 0 < s.size := hz
  have hq := (isPre_one 97 h0).1 hp
  have h5 : ((s[0].toNat : Int) != 97) = false := by rw [hq]; rfl
  have h6 := notEmp (s := s) (by omega)
  have h7 : (1 : Int) ≤ s.size := by omega
  have HA := Lib.hid (And.intro h1 (And.intro h2 h3))
  clear hp hz hq h1 h2 h3
  obtain ⟨er, nm, vl⟩ := q
  unfold RepV.agg at *
  subst hg
  have HR2 := Lib.hid ((RRS.new (w0 := w.alloc (.cells (repCells rep0) 26)) (B := w.heap.size + 1) (s.extract 1 s.size) (Below.refl _ _) (by simp) (by simp; omega) (w.heap.size + 1) (by simp)).rvar)
  rw [HA.out.1] at HR2
  go_enter Try.func28, Try.ntmps28
  go_wp2_with fail
  refine HR2.out.mono ?_
  rintro e w4 ⟨rfl, R4⟩
  have HR3 := Lib.hid R4.rvar
  rw [HA.out.2.1] at HR3
  clear R4 HR2
  go_wp2_with fail
  refine HR3.out.mono ?_
  rintro e w4' ⟨rfl, R4⟩
  have HR4 := Lib.hid R4.rep
  rw [HA.out.2.2] at HR4
  dsimp only [RepV.agg] at HR4
  clear R4 HA HR3
  go_wp2_with fail
  refine HR4.out.mono ?_
  rintro e w5 ⟨rfl, hb5⟩
  have hk : RepBlk w5 w.heap.size rep0 := (hb5.block w.heap.size (by omega)).trans (heap_alloc_new w _)
  have hlt5 : w.heap.size < w5.heap.size := blk_lt hk
  have HB : Hid (Below w.heap.size w w5) := Lib.hid (((Below.refl _ _).alloc (Nat.le_refl _) _).trans (hb5.mono (by omega)))
  have hkW : RepBlk (w5.alloc (.cells #[.int .i64 er, .string vl, .int .i64 nm] 26)) w.heap.size rep0 := (Below.heap_alloc w5 _ w.heap.size hlt5).trans hk
  have hqW : RepBlk (w5.alloc (.cells #[.int .i64 er, .string vl, .int .i64 nm] 26)) w5.heap.size ⟨er, nm, vl⟩ := heap_alloc_new w5 _
  have hBW : Below w.heap.size w (w5.alloc (.cells #[.int .i64 er, .string vl, .int .i64 nm] 26)) := HB.out.alloc (Nat.le_of_lt hlt5) _
  clear hk hb5 HR4 HB
  go_upto_region 7 with fail
  generalize w5.alloc (.cells #[.int .i64 er, .string vl, .int .i64 nm] 26) = W at hkW hqW hBW ⊢
  obtain ⟨⟨x0, x1, x2⟩, xf⟩ := hkW.facts
  have xf0 := xf 0
  have xf1 := xf 1
  have xf2 := xf 2
  dsimp only [rep0] at x0 x1 x2
  have HB := Lib.hid hBW
  obtain ⟨⟨y0, y1, y2⟩, _⟩ := hqW.facts
  dsimp only at y0 y1 y2
  clear xf hkW hqW hBW
  go_wp2_with fail
  go_region
  all_goals (
    go_wp2_with fail
    refine bodyPost_ret (v := .tuple #[.int .i64 a1.1, .int .i64 a2.1, .agg #[.int .i64 er, .string vl, .int .i64 nm], .int .i64 0]) (by simp (maxDischargeDepth := 10) [results, Try.results28, go_sem, x0, x1, x2]; try rfl) rfl ⟨rfl, ?_⟩
    exact (by ((repeat (with_reducible (first | exact HB.out | refine Below.setCell ?_ ?_ _ | refine Below.alloc ?_ ?_ _ | refine Below.drew ?_ | refine below_drewN ?_ _))); all_goals (first | exact Nat.le_refl _ | (simp [World.setCell] <;> omega)))))
end Go.Proofs.Ytfogoebflfkknaa
