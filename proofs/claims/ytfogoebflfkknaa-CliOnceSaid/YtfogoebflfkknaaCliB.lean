/- A client in memory: its block, its nodes, its channel; the walks of none, Busy, pause and next. -/
import Derived.Test.YtfogoebflfkknaaCmdG
import Derived.Test.YtfogoebflfkknaaCmdC
import Derived.Test.YtfogoebflfkknaaRowsN
import Derived.Test.YtfogoebflfkknaaChanL
import Derived.Test.YtfogoebflfkknaaSince
import Derived.StillTailTactics
namespace Go.Proofs.Ytfogoebflfkknaa
/-! ### A client in memory: its block, its nodes, its channel; the walks of none, Busy, pause and next. -/
section
open Go.Conc Go.RowKit
set_option linter.unusedVariables false
structure CliV where
  id : Int
  nodes : List Int
  cur : Nat
  ss : Int
  sq : Int
  number : Nat
  asked : Bool
  op : OpV
  num : Nat
  opn : Bool
  qu : OpV
  wait : Int
  stays : Bool
def cliCells (v : CliV) (nv cv : Value) : Array Value :=
  #[.int .i64 v.id, nv, .int .i64 v.cur, .int .i64 v.ss, .int .i64 v.sq, .int .i64 v.number, .bool v.asked,
    .int .i64 v.op.kd, .int .i64 v.op.ss, .int .i64 v.op.sq, .string v.op.key, .string v.op.val, .string v.op.old,
    .int .i64 v.num, .bool v.opn,
    .int .i64 v.qu.kd, .int .i64 v.qu.ss, .int .i64 v.qu.sq, .string v.qu.key, .string v.qu.val, .string v.qu.old,
    .int .i64 v.wait, .bool v.stays, cv]
/-- What lies in the channel: the number, and the reply. -/
def resAgg (x : Int × RepV) : Value := .agg #[.int .i64 x.1, .int .i64 x.2.err, .string x.2.val, .int .i64 x.2.num]
/-- A client of the call's own: all of it lies at or above B. -/
structure Cli (w0 W : World) (B b gn ch cap : Nat) (v : CliV) (q : List (Int × RepV)) : Prop where
  blk : W.heap[b]? = some (.cells (cliCells v (.slice (some ⟨gn, 0, none⟩) v.nodes.length cap) (.chan (some ch))) 77 (0, 0))
  nds : ∀ i n, v.nodes[i]? = some n → W.cell? ⟨gn, i, none⟩ = some (.int .i64 n)
  nfr : ∀ i, W.frozen? ⟨gn, i, none⟩ = false
  gnlt : gn < W.heap.size
  ne : gn ≠ b
  nech : gn ≠ ch
  chn : ∃ s r, W.heap[ch]? = some (.chan 1 (q.map resAgg).toArray false s r false)
  below : Below B w0 W
  hb : B ≤ b
  hgn : B ≤ gn
  hch : B ≤ ch
  pos : 0 < v.nodes.length
  few : v.nodes.length ≤ 100
  curlt : v.cur < v.nodes.length
variable {w0 W : World} {B b gn ch cap : Nat} {v : CliV} {q : List (Int × RepV)}
theorem Cli.blt (h : Cli w0 W B b gn ch cap v q) : b < W.heap.size := blk_lt h.blk
theorem Cli.chlt (h : Cli w0 W B b gn ch cap v q) : ch < W.heap.size := by
  obtain ⟨s, r, hc⟩ := h.chn
  exact chan_lt hc
theorem Cli.nebc (h : Cli w0 W B b gn ch cap v q) : ch ≠ b := by
  intro e
  obtain ⟨s, r, hc⟩ := h.chn
  have := h.blk
  rw [e, this] at hc
  cases hc
theorem Cli.size (h : Cli w0 W B b gn ch cap v q) : B ≤ W.heap.size := Nat.le_trans h.hb (Nat.le_of_lt h.blt)
/-- Nothing of the client has turned. -/
theorem Cli.step {W' : World} (h : Cli w0 W B b gn ch cap v q) (hb : Below W.heap.size W W') : Cli w0 W' B b gn ch cap v q where
  blk := (hb.block b h.blt).trans h.blk
  nds := fun i n hi => (hb.cell (p := ⟨gn, i, none⟩) h.gnlt).trans (h.nds i n hi)
  nfr := fun i => (hb.frozen (p := ⟨gn, i, none⟩) h.gnlt).trans (h.nfr i)
  gnlt := Nat.lt_of_lt_of_le h.gnlt hb.size
  ne := h.ne
  nech := h.nech
  chn := by
    obtain ⟨s, r, hc⟩ := h.chn
    exact ⟨s, r, (hb.block ch h.chlt).trans hc⟩
  below := h.below.trans (hb.mono h.size)
  hb := h.hb
  hgn := h.hgn
  hch := h.hch
  pos := h.pos
  few := h.few
  curlt := h.curlt
/-- The client's block alone has turned (and new memory was made). -/
theorem Cli.upd {W' : World} {cs : Array Value} (h : Cli w0 W B b gn ch cap v q) (v' : CliV) (hblk : W'.heap[b]? = some (.cells cs 77 (0, 0))) (hg : W.grownBy W' (some b)) (hB : Below B w0 W')
    (hcs : cs = cliCells v' (.slice (some ⟨gn, 0, none⟩) v.nodes.length cap) (.chan (some ch))) (hn : v'.nodes = v.nodes) (hcur : v'.cur < v.nodes.length) : Cli w0 W' B b gn ch cap v' q where
  blk := by rw [hblk, hcs, hn]
  nds := fun i n hi => by
    rw [hn] at hi
    have := hg.block gn h.gnlt (fun e => h.ne (by injection e))
    have hc := h.nds i n hi
    unfold World.cell? at hc ⊢
    simp only [this]
    exact hc
  nfr := fun i => by
    have := hg.block gn h.gnlt (fun e => h.ne (by injection e))
    have hc := h.nfr i
    unfold World.frozen? at hc ⊢
    simp only [this]
    exact hc
  gnlt := Nat.lt_of_lt_of_le h.gnlt hg.size
  ne := h.ne
  nech := h.nech
  chn := by
    obtain ⟨s, r, hc⟩ := h.chn
    exact ⟨s, r, (hg.block ch h.chlt (fun e => h.nebc (by injection e))).trans hc⟩
  below := hB
  hb := h.hb
  hgn := h.hgn
  hch := h.hch
  pos := by rw [hn]; exact h.pos
  few := by rw [hn]; exact h.few
  curlt := by rw [hn]; exact hcur
/-- What lies in the channel has turned. -/
theorem Cli.chan (h : Cli w0 W B b gn ch cap v q) (q' : List (Int × RepV)) (s r : Nat) : Cli w0 (W.setChan ch 1 (q'.map resAgg).toArray false s r false) B b gn ch cap v q' where
  blk := (setChan_other _ _ _ _ _ _ _ _ _ h.nebc).trans h.blk
  nds := fun i n hi => by
    have hc := h.nds i n hi
    unfold World.cell? at hc ⊢
    rw [setChan_other _ _ _ _ _ _ _ _ _ (Ne.symm h.nech)]
    exact hc
  nfr := fun i => by
    have hc := h.nfr i
    unfold World.frozen? at hc ⊢
    rw [setChan_other _ _ _ _ _ _ _ _ _ (Ne.symm h.nech)]
    exact hc
  gnlt := by rw [size_setChan]; exact h.gnlt
  ne := h.ne
  nech := h.nech
  chn := ⟨s, r, heap_setChan _ _ _ _ _ _ _ _ h.chlt⟩
  below := below_setChan h.below h.hch _ _ _ _ _ _
  hb := h.hb
  hgn := h.hgn
  hch := h.hch
  pos := h.pos
  few := h.few
  curlt := h.curlt
theorem Cli.cell (h : Cli w0 W B b gn ch cap v q) (i : Nat) : W.cell? ⟨b, i, none⟩ = (cliCells v (.slice (some ⟨gn, 0, none⟩) v.nodes.length cap) (.chan (some ch)))[i]? := blk_cell h.blk i
theorem Cli.fr (h : Cli w0 W B b gn ch cap v q) (i : Nat) : W.frozen? ⟨b, i, none⟩ = false := blk_frozen h.blk i
/-- All but the client's block and its channel lies as it did. -/
def FarC (W W' : World) (b ch : Nat) : Prop := W.heap.size ≤ W'.heap.size ∧ ∀ g, g < W.heap.size → g ≠ b → g ≠ ch → W'.heap[g]? = W.heap[g]?
theorem FarC.refl (W : World) (b ch : Nat) : FarC W W b ch := ⟨Nat.le_refl _, fun _ _ _ _ => rfl⟩
theorem FarC.trans {W W1 W2 : World} {b ch : Nat} (h : FarC W W1 b ch) (h' : FarC W1 W2 b ch) : FarC W W2 b ch :=
  ⟨Nat.le_trans h.1 h'.1, fun g hg h1 h2 => (h'.2 g (Nat.lt_of_lt_of_le hg h.1) h1 h2).trans (h.2 g hg h1 h2)⟩
theorem FarC.below {W W' : World} {b ch : Nat} (h : Below W.heap.size W W') : FarC W W' b ch := ⟨h.size, fun g hg _ _ => h.block g hg⟩
theorem FarC.grown {W W' : World} {b ch : Nat} (h : W.grownBy W' (some b)) : FarC W W' b ch := ⟨h.size, fun g hg h1 _ => h.block g hg (fun e => h1 (by injection e))⟩
theorem FarC.chan (W : World) {b ch : Nat} (cap : Nat) (buf : Array Value) (cl : Bool) (s r : Nat) (tm : Bool) : FarC W (W.setChan ch cap buf cl s r tm) b ch :=
  ⟨by rw [size_setChan]; exact Nat.le_refl _, fun g _ _ h2 => setChan_other _ _ _ _ _ _ _ _ _ (Ne.symm h2)⟩
theorem Cli.upd2 {W' : World} {cs : Array Value} (h : Cli w0 W B b gn ch cap v q) (v' : CliV) (hblk : W'.heap[b]? = some (.cells cs 77 (0, 0))) (hg : W.grownBy W' (some b)) (hB : Below B w0 W')
    (hcs : cs = cliCells v' (.slice (some ⟨gn, 0, none⟩) v.nodes.length cap) (.chan (some ch))) (hn : v'.nodes = v.nodes) (hcur : v'.cur < v.nodes.length) : Cli w0 W' B b gn ch cap v' q ∧ FarC W W' b ch :=
  ⟨h.upd v' hblk hg hB hcs hn hcur, FarC.grown hg⟩
theorem Cli.upd3 {Wz W' : World} {cs : Array Value} (h : Cli w0 W B b gn ch cap v q) (hf : FarC Wz W b ch) (v' : CliV) (hblk : W'.heap[b]? = some (.cells cs 77 (0, 0))) (hg : W.grownBy W' (some b)) (hB : Below B w0 W')
    (hcs : cs = cliCells v' (.slice (some ⟨gn, 0, none⟩) v.nodes.length cap) (.chan (some ch))) (hn : v'.nodes = v.nodes) (hcur : v'.cur < v.nodes.length) : Cli w0 W' B b gn ch cap v' q ∧ FarC Wz W' b ch :=
  ⟨h.upd v' hblk hg hB hcs hn hcur, hf.trans (FarC.grown hg)⟩
theorem none_yes (h : Cli w0 W B b gn ch cap v q) : Calls Try.prog 73 #[.pointer (some ⟨b, 0, none⟩)] W fun e w' => e = .returned (.bool false) ∧ W = w' := by
  have c1 : W.cell? ⟨b, 1, none⟩ = some (.slice (some ⟨gn, 0, none⟩) v.nodes.length cap) := h.cell 1
  have d1 : (((v.nodes.length : Nat) : Int) == 0) = false := by have := h.pos; rw [beq_eq_false_iff_ne]; omega
  clear h
  generalize v.nodes.length = n at c1 d1
  go_enter Try.func73, Try.ntmps73
  go_wp2_with fail
  go_ret
  exact ⟨rfl, rfl⟩
theorem busy_any (h : Cli w0 W B b gn ch cap v q) : Calls Try.prog 40 #[.pointer (some ⟨b, 0, none⟩)] W fun e w' => e = .returned (.bool (v.asked || !q.isEmpty)) ∧ W = w' := by
  have HN := Lib.hid (none_yes h)
  have c6 : W.cell? ⟨b, 6, none⟩ = some (.bool v.asked) := h.cell 6
  have c23 : W.cell? ⟨b, 23, none⟩ = some (.chan (some ch)) := h.cell 23
  obtain ⟨s, r, hc⟩ := h.chn
  have hlen := fun ty => run_len_chan (P := Try.prog) 75 ty Try.underlying75 hc
  have hz : ((q.map resAgg).toArray).size = q.length := by simp
  rw [hz] at hlen
  clear h hc hz
  generalize v.asked = ask1 at c6 ⊢
  cases ask1
  · cases q with
    | nil =>
      have hlen' := hlen
      simp only [List.length_nil] at hlen'
      clear hlen
      go_enter Try.func40, Try.ntmps40
      go_wp2_with fail
      refine HN.out.mono ?_
      rintro e w1 ⟨rfl, rfl⟩
      go_wp2_with fail
      go_ret
      exact ⟨rfl, rfl⟩
    | cons x l =>
      have d : decide (0 < (x :: l).length) = true := by simp
      generalize (x :: l).length = n at hlen d
      go_enter Try.func40, Try.ntmps40
      go_wp2_with fail
      refine HN.out.mono ?_
      rintro e w1 ⟨rfl, rfl⟩
      go_wp2_with fail
      go_ret
      exact ⟨rfl, rfl⟩
  · clear hlen
    go_enter Try.func40, Try.ntmps40
    go_wp2_with fail
    refine HN.out.mono ?_
    rintro e w1 ⟨rfl, rfl⟩
    go_wp2_with fail
    go_ret
    exact ⟨rfl, rfl⟩
end
/-! ### The walks of a client's pause and next. -/
section
open Go.Conc Go.RowKit
set_option linter.unusedVariables false
theorem at_drew {w : World} {g : Nat} {o : Obj} (h : w.heap[g]? = some o) : w.drew.heap[g]? = some o := h
theorem at_drewN {w : World} {g n : Nat} {o : Obj} (h : w.heap[g]? = some o) : (w.drewN n).heap[g]? = some o := h
theorem g_drewN {a w : World} {n : Nat} {r : Option Nat} (h : a.grownBy w r) : a.grownBy (w.drewN n) r := h.trans (grown_drewN _ n _)
theorem at_far {w : World} {g g' i : Nat} {o : Obj} {u : Value} (h : w.heap[g]? = some o) (hne : g' ≠ g) : (w.setCell ⟨g', i, none⟩ u).heap[g]? = some o :=
  (Below.heap_setCell _ _ _ _ (fun e => hne e.symm)).trans h
theorem g_set {a w : World} {b i : Nat} {u : Value} (h : a.grownBy w (some b)) : a.grownBy (w.setCell ⟨b, i, none⟩ u) (some b) := h.trans (grown_set _ _ _ _)
theorem g_new {a w : World} {b g i : Nat} {u : Value} (h : a.grownBy w (some b)) (hg : a.heap.size ≤ g) : a.grownBy (w.setCell ⟨g, i, none⟩ u) (some b) :=
  ⟨h.os, h.tape, h.output, by simpa [World.setCell] using h.size, fun k hk hne => (Below.heap_setCell _ _ _ _ (fun e => by simp at e; omega)).trans (h.block k hk hne)⟩
theorem g_alloc {a w : World} {o : Obj} {r : Option Nat} (h : a.grownBy w r) : a.grownBy (w.alloc o) r := h.trans (World.grownBy_alloc _ _ _)
theorem g_drew {a w : World} {r : Option Nat} (h : a.grownBy w r) : a.grownBy w.drew r := h.trans (grown_drewN _ 1 _)
variable {w0 W : World} {B b gn ch cap : Nat} {v : CliV} {q : List (Int × RepV)}
theorem pause_any (h : Cli w0 W B b gn ch cap v q) : Calls Try.prog 79 #[.pointer (some ⟨b, 0, none⟩)] W fun e w' => e = .returned (.tuple #[]) ∧ Cli w0 w' B b gn ch cap { v with wait := 4, stays := true } q ∧ FarC W w' b ch := by
  have HH := Lib.hid h
  have c21 : W.cell? ⟨b, 21, none⟩ = some (.int .i64 v.wait) := h.cell 21
  have c22 : W.cell? ⟨b, 22, none⟩ = some (.bool v.stays) := h.cell 22
  have f21 := h.fr 21
  have f22 := h.fr 22
  clear h
  go_enter Try.func79, Try.ntmps79
  go_wp2_with fail
  go_end0
  refine ⟨rfl, ?_⟩
  exact HH.out.upd2 _ (blk_set (blk_set HH.out.blk 21 _) 22 _) ((grown_set _ _ _ _).trans (grown_set _ _ _ _)) ((HH.out.below.setCell HH.out.hb _).setCell HH.out.hb _) (by simp [cliCells]) rfl HH.out.curlt
theorem next_any (h : Cli w0 W B b gn ch cap v q) : Calls Try.prog 77 #[.pointer (some ⟨b, 0, none⟩)] W fun e w' => e = .returned (.tuple #[]) ∧ Cli w0 w' B b gn ch cap { v with cur := (v.cur + 1) % v.nodes.length } q ∧ FarC W w' b ch := by
  have HH := Lib.hid h
  have c1 : W.cell? ⟨b, 1, none⟩ = some (.slice (some ⟨gn, 0, none⟩) v.nodes.length cap) := h.cell 1
  have c2 : W.cell? ⟨b, 2, none⟩ = some (.int .i64 v.cur) := h.cell 2
  have f2 := h.fr 2
  have hp := h.pos
  have hf := h.few
  have hc := h.curlt
  clear h
  go_enter Try.func77, Try.ntmps77
  go_wp2_with fail
  go_region
  all_goals
    go_end0
    refine ⟨rfl, ?_⟩
    have e : ((v.cur : Int) + 1) % (v.nodes.length : Int) = (((v.cur + 1) % v.nodes.length : Nat) : Int) := by simp
    exact HH.out.upd2 _ (blk_set HH.out.blk 2 _) (g_drew (grown_set _ _ _ _)) (HH.out.below.setCell HH.out.hb _).drew (by rw [e]; simp [cliCells]) rfl (Nat.mod_lt _ HH.out.pos)
end
/-! ### The walk of a client's ask: it makes a question (printed by wip/gen_clid.py). -/
section
open Go.Conc Go.RowKit
set_option linter.unusedVariables false
variable {w0 W : World} {B b gn ch cap : Nat} {v : CliV} {q : List (Int × RepV)}
/-- The question that a client makes of what is asked. -/
def askQ (v : CliV) : OpV := if v.op.kd = 4 then v.op else if v.ss = 0 then ⟨5, 0, v.id, ⟨#[]⟩, ⟨#[]⟩, ⟨#[]⟩⟩ else ⟨v.op.kd, v.ss, v.sq + 1, v.op.key, v.op.val, v.op.old⟩
def askV (v : CliV) : CliV := { v with num := v.num + 1, opn := true, qu := askQ v }
set_option maxRecDepth 20000 in
set_option maxHeartbeats 2000000 in
theorem mkask_any (h : Cli w0 W B b gn ch cap v q) (hnum : v.num ≤ 1000000) (hsq : 0 ≤ v.sq ∧ v.sq ≤ 1000000) : Calls Try.prog 75 #[.pointer (some ⟨b, 0, none⟩)] W fun e w' => e = .returned (.tuple #[]) ∧ Cli w0 w' B b gn ch cap (askV v) q ∧ FarC W w' b ch := by
  have HH := Lib.hid h
  have c0 : W.cell? ⟨b, 0, none⟩ = some (.int .i64 v.id) := h.cell 0
  have c3 : W.cell? ⟨b, 3, none⟩ = some (.int .i64 v.ss) := h.cell 3
  have c4 : W.cell? ⟨b, 4, none⟩ = some (.int .i64 v.sq) := h.cell 4
  have c7 : W.cell? ⟨b, 7, none⟩ = some (.int .i64 v.op.kd) := h.cell 7
  have c8 : W.cell? ⟨b, 8, none⟩ = some (.int .i64 v.op.ss) := h.cell 8
  have c9 : W.cell? ⟨b, 9, none⟩ = some (.int .i64 v.op.sq) := h.cell 9
  have c10 : W.cell? ⟨b, 10, none⟩ = some (.string v.op.key) := h.cell 10
  have c11 : W.cell? ⟨b, 11, none⟩ = some (.string v.op.val) := h.cell 11
  have c12 : W.cell? ⟨b, 12, none⟩ = some (.string v.op.old) := h.cell 12
  have c13 : W.cell? ⟨b, 13, none⟩ = some (.int .i64 v.num) := h.cell 13
  have c14 : W.cell? ⟨b, 14, none⟩ = some (.bool v.opn) := h.cell 14
  have c15 : W.cell? ⟨b, 15, none⟩ = some (.int .i64 v.qu.kd) := h.cell 15
  have c16 : W.cell? ⟨b, 16, none⟩ = some (.int .i64 v.qu.ss) := h.cell 16
  have c17 : W.cell? ⟨b, 17, none⟩ = some (.int .i64 v.qu.sq) := h.cell 17
  have c18 : W.cell? ⟨b, 18, none⟩ = some (.string v.qu.key) := h.cell 18
  have c19 : W.cell? ⟨b, 19, none⟩ = some (.string v.qu.val) := h.cell 19
  have c20 : W.cell? ⟨b, 20, none⟩ = some (.string v.qu.old) := h.cell 20
  have fr := h.fr
  have hlt := h.blt
  by_cases hk : v.op.kd = 4
  · have d1 : (v.op.kd == 4) = true := by simpa using hk
    have hQ : askV v = { v with num := v.num + 1, opn := true, qu := v.op } := by unfold askV askQ; rw [if_pos hk]
    have HQ := Lib.hid hQ
    clear h hk hQ
    go_enter Try.func75, Try.ntmps75
    go_wp2_with fail
    go_region
    all_goals
      go_end0
      refine ⟨rfl, ?_⟩
      refine HH.out.upd2 (askV v) (by ((repeat (with_reducible (first | exact HH.out.blk | apply blk_set | refine at_far ?_ (by simp; omega) | apply old_at | apply at_drew))))) (by ((repeat (with_reducible (first | exact grown_refl _ _ | refine g_set ?_ | refine g_new ?_ (by simp) | refine g_alloc ?_ | refine g_drew ?_))))) (by ((repeat (with_reducible (first | exact HH.out.below | refine Below.setCell ?_ ?_ _ | refine Below.drew ?_ | refine Below.alloc ?_ ?_ _))); all_goals (have hq1 := HH.out.hb; have hq2 := HH.out.size; simp <;> omega))) (by rw [HQ.out]; simp [cliCells]) (by rw [HQ.out]) (by rw [HQ.out]; exact HH.out.curlt)
  · have d1 : (v.op.kd == 4) = false := by simpa using hk
    by_cases hs : v.ss = 0
    · have d2 : (v.ss == 0) = true := by simpa using hs
      have hQ : askV v = { v with num := v.num + 1, opn := true, qu := ⟨5, 0, v.id, ⟨#[]⟩, ⟨#[]⟩, ⟨#[]⟩⟩ } := by unfold askV askQ; rw [if_neg hk, if_pos hs]
      have HQ := Lib.hid hQ
      clear h hk hs hQ
      go_enter Try.func75, Try.ntmps75
      go_wp2_with fail
      go_region
      all_goals
        go_end0
        refine ⟨rfl, ?_⟩
        refine HH.out.upd2 (askV v) (by ((repeat (with_reducible (first | exact HH.out.blk | apply blk_set | refine at_far ?_ (by simp; omega) | apply old_at | apply at_drew))))) (by ((repeat (with_reducible (first | exact grown_refl _ _ | refine g_set ?_ | refine g_new ?_ (by simp) | refine g_alloc ?_ | refine g_drew ?_))))) (by ((repeat (with_reducible (first | exact HH.out.below | refine Below.setCell ?_ ?_ _ | refine Below.drew ?_ | refine Below.alloc ?_ ?_ _))); all_goals (have hq1 := HH.out.hb; have hq2 := HH.out.size; simp <;> omega))) (by rw [HQ.out]; simp [cliCells]) (by rw [HQ.out]) (by rw [HQ.out]; exact HH.out.curlt)
    · have d2 : (v.ss == 0) = false := by simpa using hs
      have hQ : askV v = { v with num := v.num + 1, opn := true, qu := ⟨v.op.kd, v.ss, v.sq + 1, v.op.key, v.op.val, v.op.old⟩ } := by unfold askV askQ; rw [if_neg hk, if_neg hs]
      have HQ := Lib.hid hQ
      clear h hk hs hQ
      go_enter Try.func75, Try.ntmps75
      go_wp2_with fail
      go_region
      all_goals
        go_wp2_with fail
        go_region
        all_goals
          go_end0
          refine ⟨rfl, ?_⟩
          refine HH.out.upd2 (askV v) (by ((repeat (with_reducible (first | exact HH.out.blk | apply blk_set | refine at_far ?_ (by simp; omega) | apply old_at | apply at_drew))))) (by ((repeat (with_reducible (first | exact grown_refl _ _ | refine g_set ?_ | refine g_new ?_ (by simp) | refine g_alloc ?_ | refine g_drew ?_))))) (by ((repeat (with_reducible (first | exact HH.out.below | refine Below.setCell ?_ ?_ _ | refine Below.drew ?_ | refine Below.alloc ?_ ?_ _))); all_goals (have hq1 := HH.out.hb; have hq2 := HH.out.size; simp <;> omega))) (by rw [HQ.out]; simp [cliCells]) (by rw [HQ.out]) (by rw [HQ.out]; exact HH.out.curlt)
end
/-! ### The walk of a client's send. -/
section
open Go.Conc Go.RowKit
set_option linter.unusedVariables false
variable {w0 W : World} {B b gn ch cap : Nat} {v : CliV} {q : List (Int × RepV)}
/-- One packet, in a block of its own. -/
def OnePk (w : World) (g : Nat) (fr dst : Int) (d : ByteArray) : Prop := w.heap[g]? = some (.cells #[.int .i64 fr, .int .i64 dst, .string d] 65 (0, 0))
/-- What a send answers. -/
def Sent (w0 W : World) (B b gn ch cap : Nat) (v : CliV) (q : List (Int × RepV)) (dst : Int) (d : ByteArray) (e : Ending) (w' : World) : Prop :=
  ∃ g, e = .returned (.slice (some ⟨g, 0, none⟩) 1 1) ∧ Cli w0 w' B b gn ch cap v q ∧ OnePk w' g v.id dst d ∧ W.heap.size ≤ g ∧ FarC W w' b ch
def sentV (v : CliV) : CliV := { v with wait := 20, stays := false }
def OpFew (o : OpV) : Prop := OpOk o ∧ validV o = 0
set_option maxRecDepth 20000 in
set_option maxHeartbeats 2000000 in
theorem send_any (h : Cli w0 W B b gn ch cap v q) (hnum : v.num ≤ 1000000) (hok : OpOk v.qu) (hv : validV v.qu = 0) (n : Int) (hn : v.nodes[v.cur]? = some n) : Calls Try.prog 76 #[.pointer (some ⟨b, 0, none⟩)] W (Sent w0 W B b gn ch cap (sentV v) q n ⟨(askB v.num v.qu).toArray⟩) := by
  have HA := Lib.hid (fun W => ask_good v.num (by omega) v.qu hok hv W)
  obtain ⟨D, hD⟩ : ∃ D, D = (⟨(askB v.num v.qu).toArray⟩ : ByteArray) := ⟨_, rfl⟩
  rw [← hD] at HA ⊢
  have HH := Lib.hid h
  have c21 : W.cell? ⟨b, 21, none⟩ = some (.int .i64 v.wait) := h.cell 21
  have c22 : W.cell? ⟨b, 22, none⟩ = some (.bool v.stays) := h.cell 22
  have f21 := h.fr 21
  have f22 := h.fr 22
  unfold OpV.agg at HA
  have HN := Lib.hid hn
  clear h hok hv hD hn
  go_enter Try.func76, Try.ntmps76
  go_wp2_with fail
  have h1 : Cli w0 ((W.setCell ⟨b, 21, none⟩ (.int .i64 20)).setCell ⟨b, 22, none⟩ (.bool false)) B b gn ch cap (sentV v) q ∧ FarC W ((W.setCell ⟨b, 21, none⟩ (.int .i64 20)).setCell ⟨b, 22, none⟩ (.bool false)) b ch :=
    HH.out.upd2 _ (blk_set (blk_set HH.out.blk 21 _) 22 _) ((grown_set _ _ _ _).trans (grown_set _ _ _ _)) ((HH.out.below.setCell HH.out.hb _).setCell HH.out.hb _) (by simp [cliCells, sentV]) rfl HH.out.curlt
  obtain ⟨h1, hz⟩ := h1
  generalize (W.setCell ⟨b, 21, none⟩ (.int .i64 20)).setCell ⟨b, 22, none⟩ (.bool false) = W1 at h1 hz ⊢
  have HZ := Lib.hid hz
  clear HH c21 c22 f21 f22 hz
  have HH := Lib.hid h1
  have hq : ∀ p : SinceW W1.heap.size W1, Cli w0 p.w B b gn ch cap (sentV v) q := fun p => HH.out.step p.h
  have c13 : ∀ p : SinceW W1.heap.size W1, p.w.cell? ⟨b, 13, none⟩ = some (.int .i64 v.num) := fun p => (hq p).cell 13
  have c15 : ∀ p : SinceW W1.heap.size W1, p.w.cell? ⟨b, 15, none⟩ = some (.int .i64 v.qu.kd) := fun p => (hq p).cell 15
  have c16 : ∀ p : SinceW W1.heap.size W1, p.w.cell? ⟨b, 16, none⟩ = some (.int .i64 v.qu.ss) := fun p => (hq p).cell 16
  have c17 : ∀ p : SinceW W1.heap.size W1, p.w.cell? ⟨b, 17, none⟩ = some (.int .i64 v.qu.sq) := fun p => (hq p).cell 17
  have c18 : ∀ p : SinceW W1.heap.size W1, p.w.cell? ⟨b, 18, none⟩ = some (.string v.qu.key) := fun p => (hq p).cell 18
  have c19 : ∀ p : SinceW W1.heap.size W1, p.w.cell? ⟨b, 19, none⟩ = some (.string v.qu.val) := fun p => (hq p).cell 19
  have c20 : ∀ p : SinceW W1.heap.size W1, p.w.cell? ⟨b, 20, none⟩ = some (.string v.qu.old) := fun p => (hq p).cell 20
  clear h1 hq
  refine wp_region_since (B := W1.heap.size) (W0 := W1) (by kernel_rfl) (by kernel_rfl) (Below.refl _ _) ?_
  repeat (go_big_quiet_step ((go_at_call 19; exact since_call (Nat.le_refl _) (HA.out _))))
  refine wpQuiet_nil ?_
  intro w5 hw'
  have hv5 : Below W1.heap.size W1 w5 := by obtain ⟨p, rfl⟩ := hw'; exact p.h
  clear hw'
  have h5 := HH.out.step hv5
  have HZ5 := Lib.hid (HZ.out.trans (FarC.below hv5))
  clear c13 c15 c16 c17 c18 c19 c20 HH HZ hv5 HA
  have HH := Lib.hid h5
  have c0 : w5.cell? ⟨b, 0, none⟩ = some (.int .i64 v.id) := h5.cell 0
  have c1 : w5.cell? ⟨b, 1, none⟩ = some (.slice (some ⟨gn, 0, none⟩) v.nodes.length cap) := h5.cell 1
  have c2 : w5.cell? ⟨b, 2, none⟩ = some (.int .i64 v.cur) := h5.cell 2
  have cn : w5.cell? ⟨gn, v.cur, none⟩ = some (.int .i64 n) := h5.nds v.cur n HN.out
  have cn' : w5.cell? ((⟨gn, 0, none⟩ : Addr).add v.cur) = some (.int .i64 n) := by rw [add_lit]; exact cn
  have hx : v.cur < v.nodes.length := h5.curlt
  have hx' : (v.cur : Int) < v.nodes.length := by omega
  have hx0 : (0 : Int) ≤ v.cur := by omega
  clear h5
  go_wp2_with fail
  go_region
  all_goals
    go_wp2_with fail
    go_ret
    have hb6 := ((Below.refl w5.heap.size w5).alloc (Nat.le_refl _) (.cells #[.int .i64 v.id, .int .i64 n, .string D] 65)).drew
    exact ⟨w5.heap.size, rfl, HH.out.step hb6, at_drew (heap_alloc_new w5 _), HZ5.out.1, HZ5.out.trans (FarC.below hb6)⟩
end
/-! ### The walks of a client's Tick. -/
section
open Go.Conc Go.RowKit
set_option linter.unusedVariables false
variable {w0 W : World} {B b gn ch cap : Nat} {v : CliV} {q : List (Int × RepV)}
theorem tick_idle (h : Cli w0 W B b gn ch cap v q) (ha : v.asked = false) : Calls Try.prog 38 #[.pointer (some ⟨b, 0, none⟩)] W fun e w' => e = .returned (.slice none 0 0) ∧ W = w' := by
  have HN := Lib.hid (none_yes h)
  have c6 : W.cell? ⟨b, 6, none⟩ = some (.bool v.asked) := h.cell 6
  rw [ha] at c6
  clear h ha
  go_enter Try.func38, Try.ntmps38
  go_wp2_with fail
  refine HN.out.mono ?_
  rintro e w1 ⟨rfl, rfl⟩
  go_wp2_with fail
  go_ret
  exact ⟨rfl, rfl⟩
theorem tick_first (h : Cli w0 W B b gn ch cap v q) (ha : v.asked = true) (ho : v.opn = false) (hnum : v.num ≤ 999999) (hsq : 0 ≤ v.sq ∧ v.sq ≤ 1000000) (hok : OpOk (askQ v)) (hv : validV (askQ v) = 0) (n : Int) (hn : v.nodes[v.cur]? = some n) :
    Calls Try.prog 38 #[.pointer (some ⟨b, 0, none⟩)] W (Sent w0 W B b gn ch cap (sentV (askV v)) q n ⟨(askB (v.num + 1 : Nat) (askQ v)).toArray⟩) := by
  have HN := Lib.hid (none_yes h)
  have HA := Lib.hid (mkask_any h (by omega) hsq)
  have HS := Lib.hid (fun W' (h' : Cli w0 W' B b gn ch cap (askV v) q) => send_any h' (show v.num + 1 ≤ 1000000 by omega) hok hv n hn)
  have c6 : W.cell? ⟨b, 6, none⟩ = some (.bool v.asked) := h.cell 6
  have c14 : W.cell? ⟨b, 14, none⟩ = some (.bool v.opn) := h.cell 14
  rw [ha] at c6
  rw [ho] at c14
  have HB := Lib.hid h.below
  clear h ha ho hnum hsq hok hv hn
  go_enter Try.func38, Try.ntmps38
  go_wp2_with fail
  refine HN.out.mono ?_
  rintro e w1 ⟨rfl, rfl⟩
  go_wp2_with fail
  refine HA.out.mono ?_
  rintro e w1 ⟨rfl, h1, f1⟩
  have HS1 := Lib.hid (HS.out w1 h1)
  have HF := Lib.hid f1
  clear h1 HS HA f1
  go_wp2_with fail
  refine HS1.out.mono ?_
  rintro e w2 ⟨g, rfl, h2, h3, h4, h5⟩
  go_wp2_with fail
  go_ret
  exact ⟨g, rfl, h2, h3, Nat.le_trans HF.out.1 h4, HF.out.trans h5⟩
theorem tick_wait (h : Cli w0 W B b gn ch cap v q) (ha : v.asked = true) (ho : v.opn = true) (hw : 1 < v.wait ∧ v.wait ≤ 1000000) :
    Calls Try.prog 38 #[.pointer (some ⟨b, 0, none⟩)] W fun e w' => e = .returned (.slice none 0 0) ∧ Cli w0 w' B b gn ch cap { v with wait := v.wait - 1 } q ∧ FarC W w' b ch := by
  have HH := Lib.hid h
  have HN := Lib.hid (none_yes h)
  have c6 : W.cell? ⟨b, 6, none⟩ = some (.bool v.asked) := h.cell 6
  have c14 : W.cell? ⟨b, 14, none⟩ = some (.bool v.opn) := h.cell 14
  have c21 : W.cell? ⟨b, 21, none⟩ = some (.int .i64 v.wait) := h.cell 21
  have f21 := h.fr 21
  rw [ha] at c6
  rw [ho] at c14
  obtain ⟨hw1, hw2⟩ := hw
  have d1 : decide ((0 : Int) < v.wait - 1) = true := by simp; omega
  clear h ha ho
  go_enter Try.func38, Try.ntmps38
  go_wp2_with fail
  refine HN.out.mono ?_
  rintro e w1 ⟨rfl, rfl⟩
  go_wp2_with fail
  go_ret
  exact ⟨rfl, HH.out.upd2 _ (blk_set HH.out.blk 21 _) (grown_set _ _ _ _) (HH.out.below.setCell HH.out.hb _) (by simp [cliCells]) rfl HH.out.curlt⟩
def againV (v : CliV) : CliV := if v.stays then { v with wait := v.wait - 1 } else { v with wait := v.wait - 1, cur := (v.cur + 1) % v.nodes.length }
theorem tick_again (h : Cli w0 W B b gn ch cap v q) (ha : v.asked = true) (ho : v.opn = true) (hw : -1000000 ≤ v.wait ∧ v.wait ≤ 1) (hnum : v.num ≤ 1000000) (hok : OpOk v.qu) (hv : validV v.qu = 0) (n : Int) (hn : (againV v).nodes[(againV v).cur]? = some n) :
    Calls Try.prog 38 #[.pointer (some ⟨b, 0, none⟩)] W (Sent w0 W B b gn ch cap (sentV (againV v)) q n ⟨(askB v.num v.qu).toArray⟩) := by
  have HH := Lib.hid h
  have HN := Lib.hid (none_yes h)
  have c6 : W.cell? ⟨b, 6, none⟩ = some (.bool v.asked) := h.cell 6
  have c14 : W.cell? ⟨b, 14, none⟩ = some (.bool v.opn) := h.cell 14
  have c21 : W.cell? ⟨b, 21, none⟩ = some (.int .i64 v.wait) := h.cell 21
  have c22 : W.cell? ⟨b, 22, none⟩ = some (.bool v.stays) := h.cell 22
  have f21 := h.fr 21
  have h1 : Cli w0 (W.setCell ⟨b, 21, none⟩ (.int .i64 (v.wait - 1))) B b gn ch cap { v with wait := v.wait - 1 } q ∧ FarC W (W.setCell ⟨b, 21, none⟩ (.int .i64 (v.wait - 1))) b ch :=
    HH.out.upd2 _ (blk_set HH.out.blk 21 _) (grown_set _ _ _ _) (HH.out.below.setCell HH.out.hb _) (by simp [cliCells]) rfl HH.out.curlt
  have H1 := Lib.hid h1
  rw [ha] at c6
  rw [ho] at c14
  obtain ⟨hw1, hw2⟩ := hw
  have d1 : decide ((0 : Int) < v.wait - 1) = false := by simp; omega
  by_cases hs : v.stays = true
  · have hA : againV v = { v with wait := v.wait - 1 } := by unfold againV; rw [if_pos hs]
    rw [hA] at hn ⊢
    rw [hs] at c22
    have HS := Lib.hid (send_any H1.out.1 hnum hok hv n hn)
    clear h ha ho h1 hs hA hnum hok hv hn
    go_enter Try.func38, Try.ntmps38
    go_wp2_with fail
    refine HN.out.mono ?_
    rintro e w1 ⟨rfl, rfl⟩
    go_wp2_with fail
    refine HS.out.mono ?_
    rintro e w2 ⟨g, rfl, h2, h3, h4, h5⟩
    go_wp2_with fail
    go_ret
    exact ⟨g, rfl, h2, h3, Nat.le_trans H1.out.2.1 h4, H1.out.2.trans h5⟩
  · have hs' : v.stays = false := by simpa using hs
    have hA : againV v = { v with wait := v.wait - 1, cur := (v.cur + 1) % v.nodes.length } := by unfold againV; rw [if_neg hs]
    rw [hA] at hn ⊢
    rw [hs'] at c22
    have HX := Lib.hid (next_any H1.out.1)
    have HS := Lib.hid (fun W' (h' : Cli w0 W' B b gn ch cap { v with wait := v.wait - 1, cur := (v.cur + 1) % v.nodes.length } q) => send_any h' hnum hok hv n hn)
    clear h ha ho h1 hs hs' hA hnum hok hv hn
    go_enter Try.func38, Try.ntmps38
    go_wp2_with fail
    refine HN.out.mono ?_
    rintro e w1 ⟨rfl, rfl⟩
    go_wp2_with fail
    refine HX.out.mono ?_
    rintro e w1 ⟨rfl, h2, h3⟩
    have HS1 := Lib.hid (HS.out w1 h2)
    have HF := Lib.hid (H1.out.2.trans h3)
    clear h2 h3 HS HX
    go_wp2_with fail
    refine HS1.out.mono ?_
    rintro e w2 ⟨g, rfl, h2, h3, h4, h5⟩
    go_wp2_with fail
    go_ret
    exact ⟨g, rfl, h2, h3, Nat.le_trans HF.out.1 h4, HF.out.trans h5⟩
end
end Go.Proofs.Ytfogoebflfkknaa
