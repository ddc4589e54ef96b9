/- The walk of arboretumlaw29.CliOne (printed by wip/gen_clione.py). -/
import Derived.Test.YtfogoebflfkknaaCliL
import Derived.Test.YtfogoebflfkknaaTellP
import Derived.Laws.StructEq
namespace Go.Proofs.Ytfogoebflfkknaa
open Go.RowKit
set_option linter.unusedVariables false
theorem RepBlk.farC {w0 w w' : World} {B b gn ch cap g : Nat} {v : CliV} {q : List (Int × RepV)} {r : RepV} (h : RepBlk w g r) (hC : Cli w0 w B b gn ch cap v q) (hF : FarC w w' b ch) : RepBlk w' g r := by
  refine (hF.2 g (blk_lt h) ?_ ?_).trans h
  · intro e
    have := hC.blk
    unfold RepBlk at h
    rw [← e, h] at this
    injection this with this
    injection this with _ this
    exact absurd this (by decide)
  · intro e
    obtain ⟨s, r, hc⟩ := hC.chn
    unfold RepBlk at h
    rw [← e, h] at hc
    cases hc
theorem RepBlk.alC {w : World} {g : Nat} {r : RepV} (h : RepBlk w g r) (ob : Obj) : RepBlk (w.alloc ob) g r := (Below.heap_alloc w ob g (blk_lt h)).trans h
theorem one_at {w : World} {g : Nat} {t : TypeId} (h : w.heap[g]? = some (.cells #[.int .i64 1] t (0, 0))) : ∀ j x, ([1] : List Int)[j]? = some x → w.cell? ((⟨g, 0, none⟩ : Addr).add j) = some (.int .i64 x) := by
  intro j x hj
  rw [add_lit, blk_cell h]
  rcases j with _ | j
  · simp at hj; subst hj; rfl
  · simp at hj
/-- A client whose one question was answered. -/
def dV (l : List Int) (o : OpV) (cur : Nat) (wait : Int) (st : Bool) : CliV := { gV 101 l o cur wait st with opn := false, asked := false }

set_option maxRecDepth 20000 in
set_option maxHeartbeats 4000000 in
theorem one_alive (k : Int) (key : ByteArray) (r : RepV) (w : World) (h : key.size < 1 ∨ 38 < key.size ∨ 1000 < r.val.size ∨ r.err = 21 ∨ r.err = 22 ∨ r.err = 10) : Calls Try.prog 7 #[.int .i64 k, .string key, r.agg] w fun e w' => e = .returned (.bool true) ∧ Below w.heap.size w w' := by
  have hR : RepBlk (w.alloc (.cells #[.int .i64 r.err, .string r.val, .int .i64 r.num] 26)) w.heap.size r := heap_alloc_new w _
  have HB := Lib.hid ((Below.refl w.heap.size w).alloc (Nat.le_refl _) (.cells #[.int .i64 r.err, .string r.val, .int .i64 r.num] 26))
  have hrk : r.agg = .agg #[.int .i64 r.err, .string r.val, .int .i64 r.num] := rfl
  rw [hrk]
  clear hrk
  by_cases g0 : key.size < 1
  · clear h
    have d0 : decide ((key.size : Int) < 1) = true := by simp; omega
    clear g0
    go_enter Try.func7, Try.ntmps7
    go_wp2_with fail
    refine (aliveCl_any _).mono ?_
    rintro e w1 ⟨rfl, hb⟩
    have HB1 := Lib.hid (HB.out.trans (hb.mono HB.out.size))
    clear hb HB hR
    go_wp2_with fail
    go_ret
    exact ⟨rfl, HB1.out⟩
  by_cases g1 : 38 < key.size
  · clear h
    have d0 : decide ((key.size : Int) < 1) = false := by simp; omega
    have d1 : decide ((38 : Int) < key.size) = true := by simp; omega
    clear g0 g1
    go_enter Try.func7, Try.ntmps7
    go_wp2_with fail
    refine (aliveCl_any _).mono ?_
    rintro e w1 ⟨rfl, hb⟩
    have HB1 := Lib.hid (HB.out.trans (hb.mono HB.out.size))
    clear hb HB hR
    go_wp2_with fail
    go_ret
    exact ⟨rfl, HB1.out⟩
  by_cases g2 : 1000 < r.val.size
  · clear h
    have d0 : decide ((key.size : Int) < 1) = false := by simp; omega
    have d1 : decide ((38 : Int) < key.size) = false := by simp; omega
    have d2 : decide ((1000 : Int) < r.val.size) = true := by simp; omega
    clear g0 g1 g2
    go_enter Try.func7, Try.ntmps7
    go_wp2_with fail
    refine (aliveCl_any _).mono ?_
    rintro e w1 ⟨rfl, hb⟩
    have HB1 := Lib.hid (HB.out.trans (hb.mono HB.out.size))
    clear hb HB hR
    go_wp2_with fail
    go_ret
    exact ⟨rfl, HB1.out⟩
  by_cases g3 : r.err = 21
  · clear h
    have d0 : decide ((key.size : Int) < 1) = false := by simp; omega
    have d1 : decide ((38 : Int) < key.size) = false := by simp; omega
    have d2 : decide ((1000 : Int) < r.val.size) = false := by simp; omega
    have d3 : (r.err == 21) = true := by simpa using g3
    clear g0 g1 g2 g3
    go_enter Try.func7, Try.ntmps7
    go_wp2_with fail
    refine (aliveCl_any _).mono ?_
    rintro e w1 ⟨rfl, hb⟩
    have HB1 := Lib.hid (HB.out.trans (hb.mono HB.out.size))
    clear hb HB hR
    go_wp2_with fail
    go_ret
    exact ⟨rfl, HB1.out⟩
  by_cases g4 : r.err = 22
  · clear h
    have d0 : decide ((key.size : Int) < 1) = false := by simp; omega
    have d1 : decide ((38 : Int) < key.size) = false := by simp; omega
    have d2 : decide ((1000 : Int) < r.val.size) = false := by simp; omega
    have d3 : (r.err == 21) = false := by simpa using g3
    have d4 : (r.err == 22) = true := by simpa using g4
    clear g0 g1 g2 g3 g4
    go_enter Try.func7, Try.ntmps7
    go_wp2_with fail
    refine (aliveCl_any _).mono ?_
    rintro e w1 ⟨rfl, hb⟩
    have HB1 := Lib.hid (HB.out.trans (hb.mono HB.out.size))
    clear hb HB hR
    go_wp2_with fail
    go_ret
    exact ⟨rfl, HB1.out⟩
  by_cases g5 : r.err = 10
  · clear h
    have d0 : decide ((key.size : Int) < 1) = false := by simp; omega
    have d1 : decide ((38 : Int) < key.size) = false := by simp; omega
    have d2 : decide ((1000 : Int) < r.val.size) = false := by simp; omega
    have d3 : (r.err == 21) = false := by simpa using g3
    have d4 : (r.err == 22) = false := by simpa using g4
    have d5 : (r.err == 10) = true := by simpa using g5
    clear g0 g1 g2 g3 g4 g5
    go_enter Try.func7, Try.ntmps7
    go_wp2_with fail
    refine (aliveCl_any _).mono ?_
    rintro e w1 ⟨rfl, hb⟩
    have HB1 := Lib.hid (HB.out.trans (hb.mono HB.out.size))
    clear hb HB hR
    go_wp2_with fail
    go_ret
    exact ⟨rfl, HB1.out⟩
  exfalso; rcases h with h | h | h | h | h | h <;> contradiction
set_option maxRecDepth 20000 in
set_option maxHeartbeats 4000000 in
theorem one_main (k : Int) (key : ByteArray) (er nm : Int) (vl : ByteArray) (w : World) (h1 : 1 ≤ key.size) (h2 : key.size ≤ 38) (hv : vl.size ≤ 1000) (he1 : er ≠ 21) (he2 : er ≠ 22) (he3 : er ≠ 10) (hok : RepOk ⟨er, nm, vl⟩) : Calls Try.prog 7 #[.int .i64 k, .string key, (RepV.mk er nm vl).agg] w fun e w' => e = .returned (.bool true) ∧ Below w.heap.size w w' := by
  have hR : RepBlk (w.alloc (.cells #[.int .i64 er, .string vl, .int .i64 nm] 26)) w.heap.size ⟨er, nm, vl⟩ := heap_alloc_new w _
  have hb0 := (Below.refl w.heap.size w).alloc (Nat.le_refl _) (.cells #[.int .i64 er, .string vl, .int .i64 nm] 26)
  have HT7 := Lib.hid (fun W => rtell_any 7 1 ⟨er, nm, vl⟩ (by omega) (by omega) hok W)
  have HT1 := Lib.hid (fun W => rtell_any 1 1 ⟨er, nm, vl⟩ (by omega) (by omega) hok W)
  have HO7 := Lib.hid (fun W => told_of (n := 7) (l := 1) (r := ⟨er, nm, vl⟩) (by omega) (by omega) hok (show vl.size ≤ 2000 by omega) W)
  have HO1 := Lib.hid (fun W => told_of (n := 1) (l := 1) (r := ⟨er, nm, vl⟩) (by omega) (by omega) hok (show vl.size ≤ 2000 by omega) W)
  obtain ⟨D7, hD7⟩ : ∃ D, D = (⟨(tellB 7 1 ⟨er, nm, vl⟩).toArray⟩ : ByteArray) := ⟨_, rfl⟩
  obtain ⟨D1, hD1⟩ : ∃ D, D = (⟨(tellB 1 1 ⟨er, nm, vl⟩).toArray⟩ : ByteArray) := ⟨_, rfl⟩
  rw [← hD7] at HT7 HO7
  rw [← hD1] at HT1 HO1
  have hn1 : ((w.alloc (.cells #[.int .i64 er, .string vl, .int .i64 nm] 26)).alloc (.cells #[.int .i64 1] 3)).heap[w.heap.size + 1]? = some (.cells #[.int .i64 1] 3 (0, 0)) := new_at _ _ _ (by simp)
  have HN := Lib.hid (new_any ⟨w.heap.size + 1, 0, none⟩ 1 1 [1] ((w.alloc (.cells #[.int .i64 er, .string vl, .int .i64 nm] 26)).alloc (.cells #[.int .i64 1] 3)) rfl (by omega) (by omega) (blk_lt hn1) (one_at hn1) 101 (by omega))
  clear hn1
  have d0 : decide ((key.size : Int) < 1) = false := by simp; omega
  have d1 : decide ((38 : Int) < key.size) = false := by simp; omega
  have d2 : decide ((1000 : Int) < vl.size) = false := by simp; omega
  have d3 : (er == 21) = false := by simpa using he1
  have d4 : (er == 22) = false := by simpa using he2
  have d5 : (er == 10) = false := by simpa using he3
  have HE := Lib.hid (And.intro he1 (And.intro he2 he3))
  have HK := Lib.hid (And.intro h1 h2)
  have hb1 := hb0.alloc hb0.size (.cells #[.int .i64 1] 3)
  have HB := Lib.hid hb1
  have HX := Lib.hid (hR.alC (.cells #[.int .i64 1] 3))
  unfold RepV.agg at HT7 HT1 ⊢
  dsimp only at HT7 HT1 ⊢
  clear hD7 hD1 hok hv he1 he2 he3 h1 h2 hb0 hb1 hR
  go_enter Try.func7, Try.ntmps7
  go_wp2_with fail
  refine HN.out.mono ?_
  rintro e w1 ⟨b, gn, ch, cap, rfl, c1⟩
  have R1 : Hid (RepBlk w1 w.heap.size ⟨er, nm, vl⟩) := Lib.hid ((c1.below.block _ (blk_lt HX.out)).trans HX.out)
  clear HX HN d0 d1 d2 d3 d4 d5
  generalize (w.alloc (.cells #[.int .i64 er, .string vl, .int .i64 nm] 26)).alloc (.cells #[.int .i64 1] 3) = W0 at c1 HB
  have C1 := Lib.hid c1
  clear c1
  have HS := Lib.hid (gask C1.out HK.out.1 HK.out.2)
  go_wp2_with fail
  refine HS.out.mono ?_
  rintro e w2 ⟨rfl, c2, f2⟩
  have R2 := Lib.hid (R1.out.farC C1.out f2)
  have C2 := Lib.hid c2
  clear c2 f2 HS R1 C1
  have HS := Lib.hid (asks_busy C2.out rfl k key ⟨#[]⟩ ⟨#[]⟩)
  go_wp2_with fail
  refine HS.out.mono ?_
  rintro e w3 ⟨rfl, rfl⟩
  clear HS
  have HS := Lib.hid (gtick1 C2.out HK.out.1 HK.out.2 1 rfl)
  go_wp2_with fail
  refine HS.out.mono ?_
  rintro e w3 ⟨g, rfl, c3, -, -, f3⟩
  have R3 := Lib.hid (R2.out.farC C2.out f3)
  have C3 := Lib.hid c3
  obtain ⟨⟨x0, x1, x2⟩, -⟩ := R3.out.facts
  dsimp only at x0 x1 x2
  clear c3 f3 HS R2 C2
  go_wp2_with fail
  refine (HT7.out _).mono ?_
  rintro e w4 ⟨rfl, hb4⟩
  have R4 := Lib.hid (R3.out.below hb4)
  have C4 := Lib.hid (C3.out.step hb4)
  have hs : Calls Try.prog 39 #[.pointer (some ⟨b, 0, none⟩), .agg #[.int .i64 1, .int .i64 101, .string D7]] w4 (fun e w' => e = .returned (.slice none 0 0) ∧ Cli W0 w' W0.heap.size b gn ch cap (gV 101 [1] (getO key) 0 20 false) [] ∧ FarC w4 w' b ch) := take_bad C4.out rfl 1 D7 7 1 ⟨er, nm, vl⟩ 0 HO7.out (.inr ⟨rfl, by show (7 : Int) ≠ 1; decide⟩)
  have HS := Lib.hid hs
  clear hb4 hs R3 C3 x0 x1 x2
  go_wp2_with fail
  refine HS.out.mono ?_
  rintro e w5 ⟨rfl, c5, f5⟩
  have R5 := Lib.hid (R4.out.farC C4.out f5)
  have C5 := Lib.hid c5
  clear c5 f5 HS R4 C4 HT7 HO7
  have HS := Lib.hid (result_none C5.out)
  go_wp2_with fail
  refine HS.out.mono ?_
  rintro e w6 ⟨rfl, c6, f6⟩
  have hal := (Below.refl w6.heap.size w6).alloc (Nat.le_refl _) (.cells #[.int .i64 0, .string ⟨#[]⟩, .int .i64 0] 26)
  have R6 := Lib.hid ((R5.out.farC C5.out f6).below hal)
  have C6 := Lib.hid (c6.step hal)
  have R6a := R5.out.farC C5.out f6
  have hlt := blk_lt R6a
  obtain ⟨⟨x0, x1, x2⟩, -⟩ := R6a.facts
  dsimp only at x0 x1 x2
  clear c6 f6 HS R5 C5 hal R6a
  go_wp2_with fail
  generalize w6.alloc (.cells #[.int .i64 0, .string ⟨#[]⟩, .int .i64 0] 26) = W6 at R6 C6 ⊢
  clear x0 x1 x2 hlt
  refine (HT1.out _).mono ?_
  rintro e w7 ⟨rfl, hb7⟩
  have R7 := Lib.hid (R6.out.below hb7)
  have C7 := Lib.hid (C6.out.step hb7)
  have hs : Calls Try.prog 39 #[.pointer (some ⟨b, 0, none⟩), .agg #[.int .i64 1, .int .i64 101, .string D1]] w7 (fun e w' => e = .returned (.slice none 0 0) ∧ Cli W0 w' W0.heap.size b gn ch cap (dV [1] (getO key) 0 20 false) [((1 : Int), (⟨er, nm, vl⟩ : RepV))] ∧ FarC w7 w' b ch) := by
    by_cases h24 : er = 24
    · exact take_get_s C7.out rfl 1 D1 1 ⟨er, nm, vl⟩ HO1.out HE.out (by show (4 : Int) ≠ 5; decide) rfl h24
    · exact take_get C7.out rfl 1 D1 1 ⟨er, nm, vl⟩ HO1.out HE.out (by show (4 : Int) ≠ 5; decide) rfl h24
  have HS := Lib.hid hs
  clear hb7 hs R6 C6
  go_wp2_with fail
  refine HS.out.mono ?_
  rintro e w8 ⟨rfl, c8, f8⟩
  have R8 := Lib.hid (R7.out.farC C7.out f8)
  have C8 := Lib.hid c8
  clear c8 f8 HS R7 C7 HT1 HO1
  have HS := Lib.hid (asks_busy C8.out rfl 4 key ⟨#[]⟩ ⟨#[]⟩)
  go_wp2_with fail
  refine HS.out.mono ?_
  rintro e w9 ⟨rfl, rfl⟩
  clear HS
  have HS := Lib.hid (result_some C8.out)
  go_wp2_with fail
  refine HS.out.mono ?_
  rintro e w9 ⟨rfl, c9, f9⟩
  have hal := (Below.refl w9.heap.size w9).alloc (Nat.le_refl _) (.cells #[.int .i64 er, .string vl, .int .i64 nm] 26)
  have R9 := Lib.hid ((R8.out.farC C8.out f9).below hal)
  have C9 := Lib.hid (c9.step hal)
  have X9 : Hid (RepBlk (w9.alloc (.cells #[.int .i64 er, .string vl, .int .i64 nm] 26)) w9.heap.size ⟨er, nm, vl⟩) := Lib.hid (heap_alloc_new w9 _)
  clear c9 f9 HS R8 C8 hal
  go_wp2_with fail
  generalize w9.heap.size = gx at X9 ⊢
  generalize w9.alloc (.cells #[.int .i64 er, .string vl, .int .i64 nm] 26) = W9 at R9 C9 X9 ⊢
  refine (result_none C9.out).mono ?_
  rintro e w10 ⟨rfl, c10, f10⟩
  have hal := (Below.refl w10.heap.size w10).alloc (Nat.le_refl _) (.cells #[.int .i64 0, .string ⟨#[]⟩, .int .i64 0] 26)
  have R10 := Lib.hid ((R9.out.farC C9.out f10).below hal)
  have X10 := Lib.hid ((X9.out.farC C9.out f10).below hal)
  have C10 := Lib.hid (c10.step hal)
  clear c10 f10 R9 C9 X9 hal
  go_wp2_with fail
  generalize w10.alloc (.cells #[.int .i64 0, .string ⟨#[]⟩, .int .i64 0] 26) = W10 at R10 C10 X10 ⊢
  have hs : Calls Try.prog 37 #[.pointer (some ⟨b, 0, none⟩), .int .i64 4, .string key, .string ⟨#[]⟩, .string ⟨#[]⟩] W10 (fun e w' => e = .returned (.tuple #[.int .i64 2, .int .i64 0]) ∧ Cli W0 w' W0.heap.size b gn ch cap (askedV (dV [1] (getO key) 0 20 false) 4 key ⟨#[]⟩ ⟨#[]⟩) [] ∧ FarC W10 w' b ch) :=
    asks_get C10.out rfl (show (1 : Nat) ≤ 1000000 by omega) key ⟨#[]⟩ ⟨#[]⟩ (by have := HK.out; omega) (by decide) (by decide) (getO_ok HK.out.1 HK.out.2).2
  have HS := Lib.hid hs
  clear hs
  refine HS.out.mono ?_
  rintro e w11 ⟨rfl, c11, f11⟩
  have R11 := Lib.hid (R10.out.farC C10.out f11)
  have X11 := Lib.hid (X10.out.farC C10.out f11)
  have C11 := Lib.hid c11
  clear c11 f11 HS R10 X10 C10
  go_wp2_with fail
  refine (aliveCl_any _).mono ?_
  rintro e w12 ⟨rfl, hb12⟩
  obtain ⟨⟨x0, x1, x2⟩, -⟩ := (R11.out.below hb12).facts
  obtain ⟨⟨y0, y1, y2⟩, -⟩ := (X11.out.below hb12).facts
  dsimp only at x0 x1 x2 y0 y1 y2
  have HBz := Lib.hid (HB.out.trans ((C11.out.step hb12).below.mono HB.out.size))
  clear hb12 R11 X11 C11
  go_wp2_with fail
  go_ret
  exact ⟨rfl, HBz.out⟩
theorem walk_CliOne (k : Int) (hk : (Lit.int .i64 k).wf = true) (key : ByteArray) (hkey : key.size ≤ maxLen) (r : RepV) (hr1 : -9223372036854775808 ≤ r.err ∧ r.err ≤ 9223372036854775807) (hr2 : -9223372036854775808 ≤ r.num ∧ r.num ≤ 9223372036854775807) (hr3 : r.val.size ≤ 140737488351232) (w : World) : Calls Try.prog 7 #[.int .i64 k, .string key, r.agg] w fun e w' => e = .returned (.bool true) ∧ Below w.heap.size w w' := by
  by_cases h : key.size < 1 ∨ 38 < key.size ∨ 1000 < r.val.size ∨ r.err = 21 ∨ r.err = 22 ∨ r.err = 10
  · exact one_alive k key r w h
  · obtain ⟨er, nm, vl⟩ := r
    simp only [not_or] at h
    obtain ⟨a, b, c, d, e, f⟩ := h
    have c' : ¬ 1000 < vl.size := c
    exact one_main k key er nm vl w (by omega) (by omega) (by omega) d e f ⟨hr1, hr2, by show vl.size ≤ _; omega⟩
end Go.Proofs.Ytfogoebflfkknaa
