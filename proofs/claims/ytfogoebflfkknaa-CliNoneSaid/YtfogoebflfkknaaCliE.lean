/- The walk of a client's send. -/
import Derived.Test.YtfogoebflfkknaaCliD
namespace Go.Proofs.Ytfogoebflfkknaa
open Go.Conc Go.RowKit
set_option linter.unusedVariables false
variable {w0 W : World} {B b gn ch cap : Nat} {v : CliV} {q : List (Int × RepV)}
/-- One packet, in a block of its own. -/
def OnePk (w : World) (g : Nat) (fr dst : Int) (d : ByteArray) : Prop := w.heap[g]? = some (.cells #[.int .i64 fr, .int .i64 dst, .string d] 65 (0, 0))
/-- What a send answers. -/
def Sent (w0 W : World) (B b gn ch cap : Nat) (v : CliV) (q : List (Int × RepV)) (dst : Int) (d : ByteArray) (e : Ending) (w' : World) : Prop :=
  ∃ g, e = .returned (.slice (some ⟨g, 0, none⟩) 1 1) ∧ Cli w0 w' B b gn ch cap v q ∧ OnePk w' g v.id dst d ∧ W.heap.size ≤ g ∧ FarC W w' b ch
def sentV (v : CliV) : CliV := { v with wait := 20, stays := false }
def OpFew (o : OpV) : Prop := OpOk o ∧ validV o = 0
set_option maxRecDepth 20000 in
set_option maxHeartbeats 2000000 in
theorem send_any (h : Cli w0 W B b gn ch cap v q) (hnum : v.num ≤ 1000000) (hok : OpOk v.qu) (hv : validV v.qu = 0) (n : Int) (hn : v.nodes[v.cur]? = some n) : Calls Try.prog 76 #[.pointer (some ⟨b, 0, none⟩)] W (Sent w0 W B b gn ch cap (sentV v) q n ⟨(askB v.num v.qu).toArray⟩) := by
  have HA := Lib.hid (fun W => ask_good v.num (by omega) v.qu hok hv W)
  obtain ⟨D, hD⟩ : ∃ D, D = (⟨(askB v.num v.qu).toArray⟩ : ByteArray) := ⟨_, rfl⟩
  rw [← hD] at HA ⊢
  have HH := Lib.hid h
  have c21 : W.cell? ⟨b, 21, none⟩ = some (.int .i64 v.wait) := h.cell 21
  have c22 : W.cell? ⟨b, 22, none⟩ = some (.bool v.stays) := h.cell 22
  have f21 := h.fr 21
  have f22 := h.fr 22
  unfold OpV.agg at HA
  have HN := Lib.hid hn
  clear h hok hv hD hn
  go_enter Try.func76, Try.ntmps76
  go_wp2_with fail
  have h1 : Cli w0 ((W.setCell ⟨b, 21, none⟩ (.int .i64 20)).setCell ⟨b, 22, none⟩ (.bool false)) B b gn ch cap (sentV v) q ∧ FarC W ((W.setCell ⟨b, 21, none⟩ (.int .i64 20)).setCell ⟨b, 22, none⟩ (.bool false)) b ch :=
    HH.out.upd2 _ (blk_set (blk_set HH.out.blk 21 _) 22 _) ((grown_set _ _ _ _).trans (grown_set _ _ _ _)) ((HH.out.below.setCell HH.out.hb _).setCell HH.out.hb _) (by simp [cliCells, sentV]) rfl HH.out.curlt
  obtain ⟨h1, hz⟩ := h1
  generalize (W.setCell ⟨b, 21, none⟩ (.int .i64 20)).setCell ⟨b, 22, none⟩ (.bool false) = W1 at h1 hz ⊢
  have HZ := Lib.hid hz
  clear HH c21 c22 f21 f22 hz
  have HH := Lib.hid h1
  have hq : ∀ p : SinceW W1.heap.size W1, Cli w0 p.w B b gn ch cap (sentV v) q := fun p => HH.out.step p.h
  have c13 : ∀ p : SinceW W1.heap.size W1, p.w.cell? ⟨b, 13, none⟩ = some (.int .i64 v.num) := fun p => (hq p).cell 13
  have c15 : ∀ p : SinceW W1.heap.size W1, p.w.cell? ⟨b, 15, none⟩ = some (.int .i64 v.qu.kd) := fun p => (hq p).cell 15
  have c16 : ∀ p : SinceW W1.heap.size W1, p.w.cell? ⟨b, 16, none⟩ = some (.int .i64 v.qu.ss) := fun p => (hq p).cell 16
  have c17 : ∀ p : SinceW W1.heap.size W1, p.w.cell? ⟨b, 17, none⟩ = some (.int .i64 v.qu.sq) := fun p => (hq p).cell 17
  have c18 : ∀ p : SinceW W1.heap.size W1, p.w.cell? ⟨b, 18, none⟩ = some (.string v.qu.key) := fun p => (hq p).cell 18
  have c19 : ∀ p : SinceW W1.heap.size W1, p.w.cell? ⟨b, 19, none⟩ = some (.string v.qu.val) := fun p => (hq p).cell 19
  have c20 : ∀ p : SinceW W1.heap.size W1, p.w.cell? ⟨b, 20, none⟩ = some (.string v.qu.old) := fun p => (hq p).cell 20
  clear h1 hq
  refine wp_region_since (B := W1.heap.size) (W0 := W1) (by kernel_rfl) (by kernel_rfl) (Below.refl _ _) ?_
  repeat (go_big_quiet_step ((go_at_call 19; exact since_call (Nat.le_refl _) (HA.out _))))
  refine wpQuiet_nil ?_
  intro w5 hw'
  have hv5 : Below W1.heap.size W1 w5 := by obtain ⟨p, rfl⟩ := hw'; exact p.h
  clear hw'
  have h5 := HH.out.step hv5
  have HZ5 := Lib.hid (HZ.out.trans (FarC.below hv5))
  clear c13 c15 c16 c17 c18 c19 c20 HH HZ hv5 HA
  have HH := Lib.hid h5
  have c0 : w5.cell? ⟨b, 0, none⟩ = some (.int .i64 v.id) := h5.cell 0
  have c1 : w5.cell? ⟨b, 1, none⟩ = some (.slice (some ⟨gn, 0, none⟩) v.nodes.length cap) := h5.cell 1
  have c2 : w5.cell? ⟨b, 2, none⟩ = some (.int .i64 v.cur) := h5.cell 2
  have cn : w5.cell? ⟨gn, v.cur, none⟩ = some (.int .i64 n) := h5.nds v.cur n HN.out
  have cn' : w5.cell? ((⟨gn, 0, none⟩ : Addr).add v.cur) = some (.int .i64 n) := by rw [add_lit]; exact cn
  have hx : v.cur < v.nodes.length := h5.curlt
  have hx' : (v.cur : Int) < v.nodes.length := by omega
  have hx0 : (0 : Int) ≤ v.cur := by omega
  clear h5
  go_wp2_with fail
  go_region
  all_goals
    go_wp2_with fail
    go_ret
    have hb6 := ((Below.refl w5.heap.size w5).alloc (Nat.le_refl _) (.cells #[.int .i64 v.id, .int .i64 n, .string D] 65)).drew
    exact ⟨w5.heap.size, rfl, HH.out.step hb6, at_drew (heap_alloc_new w5 _), HZ5.out.1, HZ5.out.trans (FarC.below hb6)⟩
end Go.Proofs.Ytfogoebflfkknaa
