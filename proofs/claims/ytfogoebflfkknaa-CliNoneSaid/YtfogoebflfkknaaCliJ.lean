/- The walk of a client's Result. -/
import Derived.Test.YtfogoebflfkknaaCliI
import Derived.Test.YtfogoebflfkknaaCliNil
namespace Go.Proofs.Ytfogoebflfkknaa
open Go.Conc Go.RowKit
set_option linter.unusedVariables false
theorem result_nil {w : World} {p : Option Addr} (h : NoCli w p) : Calls Try.prog 42 #[.pointer p] w fun e w' => e = .returned (.tuple #[.int .i64 0, .agg #[.int .i64 0, .string ⟨#[]⟩, .int .i64 0], .bool false]) ∧ Below w.heap.size w w' := by
  have hA : Below w.heap.size w (w.alloc (.cells #[.int .i64 0, .string ⟨#[]⟩, .int .i64 0] 26)) := (Below.refl _ _).alloc (Nat.le_refl _) _
  have HN := Lib.hid (none_no (h.below hA))
  have HA := Lib.hid hA
  have hR : RepBlk (w.alloc (.cells #[.int .i64 0, .string ⟨#[]⟩, .int .i64 0] 26)) w.heap.size rep0 := heap_alloc_new w _
  obtain ⟨⟨x0, x1, x2⟩, xf⟩ := hR.facts
  dsimp only [rep0] at x0 x1 x2
  have xf0 := xf 0
  have xf1 := xf 1
  have xf2 := xf 2
  clear h hA hR xf
  go_enter Try.func42, Try.ntmps42
  go_wp2_with fail
  refine HN.out.mono ?_
  rintro e w1 ⟨rfl, rfl⟩
  go_wp2_with fail
  refine bodyPost_ret (v := .tuple #[.int .i64 0, .agg #[.int .i64 0, .string ⟨#[]⟩, .int .i64 0], .bool false]) (by simp (maxDischargeDepth := 10) [results, Try.results42, go_sem, x0, x1, x2]; try rfl) rfl ⟨rfl, ?_⟩
  exact (by ((repeat (with_reducible (first | exact HA.out | refine Below.setCell ?_ ?_ _ | refine Below.drew ?_ | refine below_drewN ?_ _))); all_goals (first | exact Nat.le_refl _ | (simp <;> omega))))
variable {w0 W : World} {B b gn ch cap : Nat} {v : CliV} {q : List (Int × RepV)}
theorem Cli.far {W' : World} {g : Nat} (h : Cli w0 W B b gn ch cap v q) (hg : W.grownBy W' (some g)) (h1 : g ≠ b) (h2 : g ≠ gn) (h3 : g ≠ ch) (hB : Below B w0 W') : Cli w0 W' B b gn ch cap v q where
  blk := (hg.block b h.blt (fun e => h1 (by injection e with e; exact e.symm))).trans h.blk
  nds := fun i n hi => by
    have hk := hg.block gn h.gnlt (fun e => h2 (by injection e with e; exact e.symm))
    have hc := h.nds i n hi
    unfold World.cell? at hc ⊢
    simp only [hk]
    exact hc
  nfr := fun i => by
    have hk := hg.block gn h.gnlt (fun e => h2 (by injection e with e; exact e.symm))
    have hc := h.nfr i
    unfold World.frozen? at hc ⊢
    simp only [hk]
    exact hc
  gnlt := Nat.lt_of_lt_of_le h.gnlt hg.size
  ne := h.ne
  nech := h.nech
  chn := by
    obtain ⟨s, r, hc⟩ := h.chn
    exact ⟨s, r, (hg.block ch h.chlt (fun e => h3 (by injection e with e; exact e.symm))).trans hc⟩
  below := hB
  hb := h.hb
  hgn := h.hgn
  hch := h.hch
  pos := h.pos
  few := h.few
  curlt := h.curlt
theorem FarC.newer {W W2 W3 : World} {b ch g : Nat} (h : FarC W W2 b ch) (hg : W2.grownBy W3 (some g)) (hgz : W.heap.size ≤ g) : FarC W W3 b ch :=
  ⟨Nat.le_trans h.1 hg.size, fun k hk h1 h2 => (hg.block k (Nat.lt_of_lt_of_le hk h.1) (fun e => by injection e; omega)).trans (h.2 k hk h1 h2)⟩
set_option maxRecDepth 20000 in
set_option maxHeartbeats 2000000 in
theorem result_none (h : Cli w0 W B b gn ch cap v []) : Calls Try.prog 42 #[.pointer (some ⟨b, 0, none⟩)] W fun e w' => e = .returned (.tuple #[.int .i64 0, .agg #[.int .i64 0, .string ⟨#[]⟩, .int .i64 0], .bool false]) ∧ Cli w0 w' B b gn ch cap v [] ∧ FarC W w' b ch := by
  have hA : Below W.heap.size W (W.alloc (.cells #[.int .i64 0, .string ⟨#[]⟩, .int .i64 0] 26)) := (Below.refl _ _).alloc (Nat.le_refl _) _
  have HN := Lib.hid (none_yes (h.step hA))
  have hR : RepBlk (W.alloc (.cells #[.int .i64 0, .string ⟨#[]⟩, .int .i64 0] 26)) W.heap.size rep0 := heap_alloc_new W _
  have h1 := h.step hA
  have c23 : (W.alloc (.cells #[.int .i64 0, .string ⟨#[]⟩, .int .i64 0] 26)).cell? ⟨b, 23, none⟩ = some (.chan (some ch)) := h1.cell 23
  obtain ⟨s, r0, hc⟩ := h1.chn
  have HC := Lib.hid hc
  obtain ⟨⟨x0, x1, x2⟩, xf⟩ := hR.facts
  dsimp only [rep0] at x0 x1 x2
  have xf0 := xf 0
  have xf1 := xf 1
  have xf2 := xf 2
  have HA := Lib.hid hA
  have HX := Lib.hid (And.intro h1 (FarC.below (b := b) (ch := ch) hA))
  have hlt := h.blt
  have c23' : W.cell? ⟨b, 23, none⟩ = some (.chan (some ch)) := h.cell 23
  clear h hA hR xf h1 hc
  go_enter Try.func42, Try.ntmps42
  go_wp2_with fail
  refine HN.out.mono ?_
  rintro e w1 ⟨rfl, rfl⟩
  go_upto_region 4 with fail
  refine wp_region_recv_none (c := ch) (z := .agg #[.int .i64 0, .int .i64 0, .string ⟨#[]⟩, .int .i64 0]) rfl (by simp [go_sem, execOp, rcase, Act.eval]) HC.out ?_
  go_wp2_with fail
  refine bodyPost_ret (v := .tuple #[.int .i64 0, .agg #[.int .i64 0, .string ⟨#[]⟩, .int .i64 0], .bool false]) (by simp (maxDischargeDepth := 10) [results, Try.results42, go_sem, x0, x1, x2]; try rfl) rfl ⟨rfl, ?_⟩
  exact HX.out
set_option maxRecDepth 20000 in
set_option maxHeartbeats 2000000 in
theorem result_some {n er nm : Int} {vl : ByteArray} (h : Cli w0 W B b gn ch cap v [(n, ⟨er, nm, vl⟩)]) : Calls Try.prog 42 #[.pointer (some ⟨b, 0, none⟩)] W fun e w' => e = .returned (.tuple #[.int .i64 n, .agg #[.int .i64 er, .string vl, .int .i64 nm], .bool true]) ∧ Cli w0 w' B b gn ch cap v [] ∧ FarC W w' b ch := by
  have hA : Below W.heap.size W (W.alloc (.cells #[.int .i64 0, .string ⟨#[]⟩, .int .i64 0] 26)) := (Below.refl _ _).alloc (Nat.le_refl _) _
  have HN := Lib.hid (none_yes (h.step hA))
  have hR : RepBlk (W.alloc (.cells #[.int .i64 0, .string ⟨#[]⟩, .int .i64 0] 26)) W.heap.size rep0 := heap_alloc_new W _
  have h1 := h.step hA
  obtain ⟨s, r0, hc⟩ := h1.chn
  have HC := Lib.hid hc
  have HR := Lib.hid hR
  have HX := Lib.hid (And.intro h1 (FarC.below (b := b) (ch := ch) hA))
  have hlt := h.blt
  have hch := h.chlt
  have hgnl := h.gnlt
  have c23' : W.cell? ⟨b, 23, none⟩ = some (.chan (some ch)) := h.cell 23
  clear h hA hR h1 hc
  go_enter Try.func42, Try.ntmps42
  go_wp2_with fail
  refine HN.out.mono ?_
  rintro e w1 ⟨rfl, rfl⟩
  go_upto_region 4 with fail
  refine wp_region_recv (c := ch) (z := .agg #[.int .i64 0, .int .i64 0, .string ⟨#[]⟩, .int .i64 0]) rfl (by simp [go_sem, execOp, rcase, Act.eval]) HC.out (by simp) ?_
  rw [show (List.map resAgg [(n, RepV.mk er nm vl)]).toArray.getD 0 undef = .agg #[.int .i64 n, .int .i64 er, .string vl, .int .i64 nm] from rfl]
  generalize hW : World.setChan _ _ _ _ _ _ _ _ = W2
  have h2 : Cli w0 W2 B b gn ch cap v [] := by rw [← hW]; simpa using HX.out.1.chan [] s (r0 + 1)
  have hF2 : FarC W W2 b ch := by rw [← hW]; exact HX.out.2.trans (FarC.chan _ _ _ _ _ _ _)
  have hR2 : RepBlk W2 W.heap.size rep0 := by rw [← hW]; exact (setChan_other _ _ _ _ _ _ _ _ _ (by omega)).trans HR.out
  have hz : W.heap.size ≤ W.heap.size := Nat.le_refl _
  generalize hg : W.heap.size = g at hlt hch hgnl hR2 hz ⊢
  have hzF := hF2.1
  rw [hg] at hzF
  obtain ⟨⟨x0, x1, x2⟩, xf⟩ := hR2.facts
  dsimp only [rep0] at x0 x1 x2
  have xf0 := xf 0
  have xf1 := xf 1
  have xf2 := xf 2
  have hg2 : g < W2.heap.size := blk_lt hR2
  have HR2 := Lib.hid hR2
  have HBg : Hid (B ≤ g) := Lib.hid (Nat.le_trans h2.hb (Nat.le_of_lt hlt))
  have HGN : Hid (gn < g) := Lib.hid hgnl
  have HX := Lib.hid (And.intro h2 hF2)
  have HG := Lib.hid hg
  clear hW h2 hF2 hR2 xf HC HR HN c23' hg hgnl
  go_wp2_with fail
  go_region
  all_goals
    go_wp2_with fail
    generalize hW3 : World.drew _ = W3
    have hg3 : W2.grownBy W3 (some g) := by rw [← hW3]; exact g_drew (g_alloc (g_set (g_set (g_set (grown_refl _ _)))))
    have hR3 : RepBlk W3 g ⟨er, nm, vl⟩ := by rw [← hW3]; exact at_drew (old_at _ _ _ _ (blk_set (blk_set (blk_set HR2.out 0 _) 1 _) 2 _))
    have hB3 : Below B w0 W3 := by
      rw [← hW3]
      have hq1 := HX.out.1.size
      exact (((((HX.out.1.below.setCell (by have := HBg.out; simpa using this) _).setCell (by have := HBg.out; simpa using this) _).setCell (by have := HBg.out; simpa using this) _).alloc (by simp; omega) _).drew)
    have HX3 := Lib.hid (And.intro (HX.out.1.far hg3 (by omega) (by have := HGN.out; omega) (by omega) hB3) (HX.out.2.newer hg3 (by have := HG.out; omega)))
    obtain ⟨⟨y0, y1, y2⟩, -⟩ := hR3.facts
    dsimp only at y0 y1 y2
    clear hW3 hg3 hR3 hB3 x0 x1 x2 xf0 xf1 xf2
    refine bodyPost_ret (v := .tuple #[.int .i64 n, .agg #[.int .i64 er, .string vl, .int .i64 nm], .bool true]) (by simp (maxDischargeDepth := 10) [results, Try.results42, go_sem, y0, y1, y2]; try rfl) rfl ⟨rfl, ?_⟩
    exact HX3.out
end Go.Proofs.Ytfogoebflfkknaa
