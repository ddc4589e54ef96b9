/- A client in memory: its block, its nodes, its channel; the walks of none, Busy, pause and next. -/
import Derived.Test.YtfogoebflfkknaaCmdG
import Derived.Test.YtfogoebflfkknaaCmdC
import Derived.Test.YtfogoebflfkknaaRowsN
import Derived.Test.YtfogoebflfkknaaChanL
import Derived.Test.YtfogoebflfkknaaSince
namespace Go.Proofs.Ytfogoebflfkknaa
open Go.Conc Go.RowKit
set_option linter.unusedVariables false
structure CliV where
  id : Int
  nodes : List Int
  cur : Nat
  ss : Int
  sq : Int
  number : Nat
  asked : Bool
  op : OpV
  num : Nat
  opn : Bool
  qu : OpV
  wait : Int
  stays : Bool
def cliCells (v : CliV) (nv cv : Value) : Array Value :=
  #[.int .i64 v.id, nv, .int .i64 v.cur, .int .i64 v.ss, .int .i64 v.sq, .int .i64 v.number, .bool v.asked,
    .int .i64 v.op.kd, .int .i64 v.op.ss, .int .i64 v.op.sq, .string v.op.key, .string v.op.val, .string v.op.old,
    .int .i64 v.num, .bool v.opn,
    .int .i64 v.qu.kd, .int .i64 v.qu.ss, .int .i64 v.qu.sq, .string v.qu.key, .string v.qu.val, .string v.qu.old,
    .int .i64 v.wait, .bool v.stays, cv]
/-- What lies in the channel: the number, and the reply. -/
def resAgg (x : Int × RepV) : Value := .agg #[.int .i64 x.1, .int .i64 x.2.err, .string x.2.val, .int .i64 x.2.num]
/-- A client of the call's own: all of it lies at or above B. -/
structure Cli (w0 W : World) (B b gn ch cap : Nat) (v : CliV) (q : List (Int × RepV)) : Prop where
  blk : W.heap[b]? = some (.cells (cliCells v (.slice (some ⟨gn, 0, none⟩) v.nodes.length cap) (.chan (some ch))) 77 (0, 0))
  nds : ∀ i n, v.nodes[i]? = some n → W.cell? ⟨gn, i, none⟩ = some (.int .i64 n)
  nfr : ∀ i, W.frozen? ⟨gn, i, none⟩ = false
  gnlt : gn < W.heap.size
  ne : gn ≠ b
  nech : gn ≠ ch
  chn : ∃ s r, W.heap[ch]? = some (.chan 1 (q.map resAgg).toArray false s r false)
  below : Below B w0 W
  hb : B ≤ b
  hgn : B ≤ gn
  hch : B ≤ ch
  pos : 0 < v.nodes.length
  few : v.nodes.length ≤ 100
  curlt : v.cur < v.nodes.length
variable {w0 W : World} {B b gn ch cap : Nat} {v : CliV} {q : List (Int × RepV)}
theorem Cli.blt (h : Cli w0 W B b gn ch cap v q) : b < W.heap.size := blk_lt h.blk
theorem Cli.chlt (h : Cli w0 W B b gn ch cap v q) : ch < W.heap.size := by
  obtain ⟨s, r, hc⟩ := h.chn
  exact chan_lt hc
theorem Cli.nebc (h : Cli w0 W B b gn ch cap v q) : ch ≠ b := by
  intro e
  obtain ⟨s, r, hc⟩ := h.chn
  have := h.blk
  rw [e, this] at hc
  cases hc
theorem Cli.size (h : Cli w0 W B b gn ch cap v q) : B ≤ W.heap.size := Nat.le_trans h.hb (Nat.le_of_lt h.blt)
/-- Nothing of the client has turned. -/
theorem Cli.step {W' : World} (h : Cli w0 W B b gn ch cap v q) (hb : Below W.heap.size W W') : Cli w0 W' B b gn ch cap v q where
  blk := (hb.block b h.blt).trans h.blk
  nds := fun i n hi => (hb.cell (p := ⟨gn, i, none⟩) h.gnlt).trans (h.nds i n hi)
  nfr := fun i => (hb.frozen (p := ⟨gn, i, none⟩) h.gnlt).trans (h.nfr i)
  gnlt := Nat.lt_of_lt_of_le h.gnlt hb.size
  ne := h.ne
  nech := h.nech
  chn := by
    obtain ⟨s, r, hc⟩ := h.chn
    exact ⟨s, r, (hb.block ch h.chlt).trans hc⟩
  below := h.below.trans (hb.mono h.size)
  hb := h.hb
  hgn := h.hgn
  hch := h.hch
  pos := h.pos
  few := h.few
  curlt := h.curlt
/-- The client's block alone has turned (and new memory was made). -/
theorem Cli.upd {W' : World} {cs : Array Value} (h : Cli w0 W B b gn ch cap v q) (v' : CliV) (hblk : W'.heap[b]? = some (.cells cs 77 (0, 0))) (hg : W.grownBy W' (some b)) (hB : Below B w0 W')
    (hcs : cs = cliCells v' (.slice (some ⟨gn, 0, none⟩) v.nodes.length cap) (.chan (some ch))) (hn : v'.nodes = v.nodes) (hcur : v'.cur < v.nodes.length) : Cli w0 W' B b gn ch cap v' q where
  blk := by rw [hblk, hcs, hn]
  nds := fun i n hi => by
    rw [hn] at hi
    have := hg.block gn h.gnlt (fun e => h.ne (by injection e))
    have hc := h.nds i n hi
    unfold World.cell? at hc ⊢
    simp only [this]
    exact hc
  nfr := fun i => by
    have := hg.block gn h.gnlt (fun e => h.ne (by injection e))
    have hc := h.nfr i
    unfold World.frozen? at hc ⊢
    simp only [this]
    exact hc
  gnlt := Nat.lt_of_lt_of_le h.gnlt hg.size
  ne := h.ne
  nech := h.nech
  chn := by
    obtain ⟨s, r, hc⟩ := h.chn
    exact ⟨s, r, (hg.block ch h.chlt (fun e => h.nebc (by injection e))).trans hc⟩
  below := hB
  hb := h.hb
  hgn := h.hgn
  hch := h.hch
  pos := by rw [hn]; exact h.pos
  few := by rw [hn]; exact h.few
  curlt := by rw [hn]; exact hcur
/-- What lies in the channel has turned. -/
theorem Cli.chan (h : Cli w0 W B b gn ch cap v q) (q' : List (Int × RepV)) (s r : Nat) : Cli w0 (W.setChan ch 1 (q'.map resAgg).toArray false s r false) B b gn ch cap v q' where
  blk := (setChan_other _ _ _ _ _ _ _ _ _ h.nebc).trans h.blk
  nds := fun i n hi => by
    have hc := h.nds i n hi
    unfold World.cell? at hc ⊢
    rw [setChan_other _ _ _ _ _ _ _ _ _ (Ne.symm h.nech)]
    exact hc
  nfr := fun i => by
    have hc := h.nfr i
    unfold World.frozen? at hc ⊢
    rw [setChan_other _ _ _ _ _ _ _ _ _ (Ne.symm h.nech)]
    exact hc
  gnlt := by rw [size_setChan]; exact h.gnlt
  ne := h.ne
  nech := h.nech
  chn := ⟨s, r, heap_setChan _ _ _ _ _ _ _ _ h.chlt⟩
  below := below_setChan h.below h.hch _ _ _ _ _ _
  hb := h.hb
  hgn := h.hgn
  hch := h.hch
  pos := h.pos
  few := h.few
  curlt := h.curlt
theorem Cli.cell (h : Cli w0 W B b gn ch cap v q) (i : Nat) : W.cell? ⟨b, i, none⟩ = (cliCells v (.slice (some ⟨gn, 0, none⟩) v.nodes.length cap) (.chan (some ch)))[i]? := blk_cell h.blk i
theorem Cli.fr (h : Cli w0 W B b gn ch cap v q) (i : Nat) : W.frozen? ⟨b, i, none⟩ = false := blk_frozen h.blk i
/-- All but the client's block and its channel lies as it did. -/
def FarC (W W' : World) (b ch : Nat) : Prop := W.heap.size ≤ W'.heap.size ∧ ∀ g, g < W.heap.size → g ≠ b → g ≠ ch → W'.heap[g]? = W.heap[g]?
theorem FarC.refl (W : World) (b ch : Nat) : FarC W W b ch := ⟨Nat.le_refl _, fun _ _ _ _ => rfl⟩
theorem FarC.trans {W W1 W2 : World} {b ch : Nat} (h : FarC W W1 b ch) (h' : FarC W1 W2 b ch) : FarC W W2 b ch :=
  ⟨Nat.le_trans h.1 h'.1, fun g hg h1 h2 => (h'.2 g (Nat.lt_of_lt_of_le hg h.1) h1 h2).trans (h.2 g hg h1 h2)⟩
theorem FarC.below {W W' : World} {b ch : Nat} (h : Below W.heap.size W W') : FarC W W' b ch := ⟨h.size, fun g hg _ _ => h.block g hg⟩
theorem FarC.grown {W W' : World} {b ch : Nat} (h : W.grownBy W' (some b)) : FarC W W' b ch := ⟨h.size, fun g hg h1 _ => h.block g hg (fun e => h1 (by injection e))⟩
theorem FarC.chan (W : World) {b ch : Nat} (cap : Nat) (buf : Array Value) (cl : Bool) (s r : Nat) (tm : Bool) : FarC W (W.setChan ch cap buf cl s r tm) b ch :=
  ⟨by rw [size_setChan]; exact Nat.le_refl _, fun g _ _ h2 => setChan_other _ _ _ _ _ _ _ _ _ (Ne.symm h2)⟩
theorem Cli.upd2 {W' : World} {cs : Array Value} (h : Cli w0 W B b gn ch cap v q) (v' : CliV) (hblk : W'.heap[b]? = some (.cells cs 77 (0, 0))) (hg : W.grownBy W' (some b)) (hB : Below B w0 W')
    (hcs : cs = cliCells v' (.slice (some ⟨gn, 0, none⟩) v.nodes.length cap) (.chan (some ch))) (hn : v'.nodes = v.nodes) (hcur : v'.cur < v.nodes.length) : Cli w0 W' B b gn ch cap v' q ∧ FarC W W' b ch :=
  ⟨h.upd v' hblk hg hB hcs hn hcur, FarC.grown hg⟩
theorem Cli.upd3 {Wz W' : World} {cs : Array Value} (h : Cli w0 W B b gn ch cap v q) (hf : FarC Wz W b ch) (v' : CliV) (hblk : W'.heap[b]? = some (.cells cs 77 (0, 0))) (hg : W.grownBy W' (some b)) (hB : Below B w0 W')
    (hcs : cs = cliCells v' (.slice (some ⟨gn, 0, none⟩) v.nodes.length cap) (.chan (some ch))) (hn : v'.nodes = v.nodes) (hcur : v'.cur < v.nodes.length) : Cli w0 W' B b gn ch cap v' q ∧ FarC Wz W' b ch :=
  ⟨h.upd v' hblk hg hB hcs hn hcur, hf.trans (FarC.grown hg)⟩
theorem none_yes (h : Cli w0 W B b gn ch cap v q) : Calls Try.prog 73 #[.pointer (some ⟨b, 0, none⟩)] W fun e w' => e = .returned (.bool false) ∧ W = w' := by
  have c1 : W.cell? ⟨b, 1, none⟩ = some (.slice (some ⟨gn, 0, none⟩) v.nodes.length cap) := h.cell 1
  have d1 : (((v.nodes.length : Nat) : Int) == 0) = false := by have := h.pos; rw [beq_eq_false_iff_ne]; omega
  clear h
  generalize v.nodes.length = n at c1 d1
  go_enter Try.func73, Try.ntmps73
  go_wp2_with fail
  go_ret
  exact ⟨rfl, rfl⟩
theorem busy_any (h : Cli w0 W B b gn ch cap v q) : Calls Try.prog 40 #[.pointer (some ⟨b, 0, none⟩)] W fun e w' => e = .returned (.bool (v.asked || !q.isEmpty)) ∧ W = w' := by
  have HN := Lib.hid (none_yes h)
  have c6 : W.cell? ⟨b, 6, none⟩ = some (.bool v.asked) := h.cell 6
  have c23 : W.cell? ⟨b, 23, none⟩ = some (.chan (some ch)) := h.cell 23
  obtain ⟨s, r, hc⟩ := h.chn
  have hlen := fun ty => run_len_chan (P := Try.prog) 75 ty Try.underlying75 hc
  have hz : ((q.map resAgg).toArray).size = q.length := by simp
  rw [hz] at hlen
  clear h hc hz
  generalize v.asked = ask1 at c6 ⊢
  cases ask1
  · cases q with
    | nil =>
      have hlen' := hlen
      simp only [List.length_nil] at hlen'
      clear hlen
      go_enter Try.func40, Try.ntmps40
      go_wp2_with fail
      refine HN.out.mono ?_
      rintro e w1 ⟨rfl, rfl⟩
      go_wp2_with fail
      go_ret
      exact ⟨rfl, rfl⟩
    | cons x l =>
      have d : decide (0 < (x :: l).length) = true := by simp
      generalize (x :: l).length = n at hlen d
      go_enter Try.func40, Try.ntmps40
      go_wp2_with fail
      refine HN.out.mono ?_
      rintro e w1 ⟨rfl, rfl⟩
      go_wp2_with fail
      go_ret
      exact ⟨rfl, rfl⟩
  · clear hlen
    go_enter Try.func40, Try.ntmps40
    go_wp2_with fail
    refine HN.out.mono ?_
    rintro e w1 ⟨rfl, rfl⟩
    go_wp2_with fail
    go_ret
    exact ⟨rfl, rfl⟩
end Go.Proofs.Ytfogoebflfkknaa
