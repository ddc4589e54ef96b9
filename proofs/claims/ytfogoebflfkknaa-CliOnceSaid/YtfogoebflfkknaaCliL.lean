/- The walk of cli.New: a client of its own. -/
import Derived.Test.YtfogoebflfkknaaCliNew
import Derived.Test.YtfogoebflfkknaaCliG
import Derived.Deep.RegionWith
namespace Go.Proofs.Ytfogoebflfkknaa
/-! ### The walk of cli.New: a client of its own. -/
section
open Go.Conc Go.RowKit
set_option linter.unusedVariables false
def newV (id : Int) (l : List Int) : CliV := { id := id, nodes := l, cur := 0, ss := 0, sq := 0, number := 0, asked := false, op := op0, num := 0, opn := false, qu := op0, wait := 0, stays := false }
def NewCli (W : World) (id : Int) (l : List Int) (e : Ending) (w' : World) : Prop :=
  ∃ b gn ch cap, e = .returned (.tuple #[.pointer (some ⟨b, 0, none⟩), .int .i64 0]) ∧ Cli W w' W.heap.size b gn ch cap (newV id l) []
theorem mkchan (W : World) : (Instr.makeChan 75 (.int .i64 1)).run Try.prog W = .ok (.chan (some W.heap.size)) (W.alloc (.chan 1 #[] false 0 0 false)) := by
  have h : (Try.prog.info? 123).map (·.bytes) = some 40 := by kernel_rfl
  obtain ⟨i, hi, hb⟩ := Option.map_eq_some_iff.1 h
  simpa using run_makeChan (P := Try.prog) (w := W) Try.underlying75 hi .i64 1 (by omega) (by rw [hb]; omega)
theorem cell_alloc_lt {W : World} {o : Obj} {a : Addr} (h : a.block < W.heap.size) : (W.alloc o).cell? a = W.cell? a := World.cell?_alloc_old _ _ _ (Nat.ne_of_lt h)
theorem Cli.fresh {W W' : World} {b ch n cap base : Nat} {id : Int} {l : List Int} {ao : Option Addr} (hn : l.length = n) (h0 : 0 < n) (h9 : n ≤ 100) (hown : W'.ownsRow base 3 1 (.slice ao n cap) n (l.map (Value.int .i64))) (hbase : W.heap.size ≤ base)
    (hblk : W'.heap[b]? = some (.cells (cliCells (newV id l) (.slice ao n cap) (.chan (some ch))) 77 (0, 0))) (hch : W'.heap[ch]? = some (.chan 1 #[] false 0 0 false)) (hB : Below W.heap.size W W') (hb : W.heap.size ≤ b) (hc : W.heap.size ≤ ch) :
    ∃ gn, Cli W W' W.heap.size b gn ch cap (newV id l) [] := by
  rcases hown.2 with ⟨_, h⟩ | ⟨g, cap', cur, hv, hg1, hg2, -⟩
  · omega
  · injection hv with hv hv2 hv3
    subst hv hv3
    refine ⟨g, ⟨?_, ?_, ?_, blk_lt hg2, ?_, ?_, ⟨0, 0, by simpa using hch⟩, hB, hb, Nat.le_trans hbase hg1, hc, ?_, ?_, ?_⟩⟩
    · rw [hblk, ← hn]; rfl
    · intro i x hi
      have := hown.cells (g := g) rfl i (.int .i64 x) (by rw [List.getElem?_map]; show Option.map _ (l[i]?) = _; rw [show l[i]? = some x from hi]; rfl)
      rwa [add_lit] at this
    · exact fun i => blk_frozen hg2 i
    · intro e
      rw [e, hblk] at hg2
      injection hg2 with hg2
      injection hg2 with _ hg2
      exact absurd hg2 (by decide)
    · intro e
      rw [e, hch] at hg2
      cases hg2
    · show 0 < l.length; omega
    · show l.length ≤ 100; omega
    · show 0 < l.length; omega
set_option maxRecDepth 20000 in
set_option maxHeartbeats 2000000 in
theorem new_any (ad : Addr) (n c : Nat) (l : List Int) (W : World) (hl : l.length = n) (h0 : 0 < n) (h9 : n ≤ 9) (hlt : ad.block < W.heap.size) (hc : ∀ j x, l[j]? = some x → W.cell? (ad.add j) = some (.int .i64 x)) (id : Int) (hid : 100 ≤ id ∧ id ≤ 1000) :
    Calls Try.prog 36 #[.int .i64 id, .slice (some ad) n c] W (NewCli W id l) := by
  have hcells : ∀ W', Below W.heap.size W W' → ∀ j u, (l.map (Value.int .i64))[j]? = some u → (W'.alloc (.cells #[] 3)).cell? (ad.add j) = some u := by
    intro W' hb j u hu
    rw [List.getElem?_map] at hu
    obtain ⟨x, hx, rfl⟩ := Option.map_eq_some_iff.1 hu
    rw [cell_alloc_lt (by rw [add_block]; exact Nat.lt_of_lt_of_le hlt hb.size), hb.cell (by rw [add_block]; exact hlt)]
    exact hc j x hx
  have HCl := Lib.hid (fun W' hb => cloneI_any ad n c l W' hl (hcells W' hb) (by omega))
  have HM := mkchan
  have d1 : decide (id < 100) = false := by simp; omega
  have d2 : decide (1000 < id) = false := by simp; omega
  have d3 : decide (9 < (n : Int)) = false := by simp; omega
  have d4 : (((n : Nat) : Int) == 0) = false := by rw [beq_eq_false_iff_ne]; omega
  have d5 : decide (9 < n) = false := by simp; omega
  clear hcells hc hid
  go_enter Try.func36, Try.ntmps36
  go_wp2_with fail
  go_region_with ((go_at_call 72; refine (HCl.out _ (by ((repeat (with_reducible (first | exact Below.refl _ _ | refine Below.drew ?_ | refine Below.alloc ?_ ?_ _))); all_goals (simp <;> omega)))).mono ?_; rintro e w1 ⟨ao1, cap1, rfl, hown, hb1⟩))
  · have hz := hb1.size
    have hb0 : Below W.heap.size W w1 := (Below.refl _ _).drew.trans hb1
    have hA := ((hb0.alloc hb0.size (.chan 1 #[] false 0 0 false)).alloc (by have := hb0.size; simp; omega) (.cells (cliCells (newV id l) (.slice ao1 n cap1) (.chan (some w1.heap.size))) 77))
    obtain ⟨gn, hC⟩ := Cli.fresh (W := W) (id := id) hl h0 (by omega) (own_below hown (((Below.refl w1.heap.size w1).alloc (Nat.le_refl _) (.chan 1 #[] false 0 0 false)).alloc (by simp) (.cells (cliCells (newV id l) (.slice ao1 n cap1) (.chan (some w1.heap.size))) 77))) (Nat.le_refl _) (new_at _ _ (w1.heap.size + 1) (by simp)) (old_at _ _ _ _ (heap_alloc_new w1 _)) hA (by have := hb0.size; omega) (by have := hb0.size; omega)
    go_wp2_with fail
    go_ret2
    exact ⟨w1.heap.size + 1, gn, w1.heap.size, cap1, rfl, hC⟩
  · have hz : W.heap.size + 1 ≤ w1.heap.size := by have := hb1.size; simpa using this
    have hb0 : Below W.heap.size W w1 := ((Below.refl W.heap.size W).alloc (Nat.le_refl _) (.chan 1 #[] false 0 0 false)).drew.trans (hb1.mono (by simp))
    have hch : w1.heap[W.heap.size]? = some (.chan 1 #[] false 0 0 false) := (hb1.block W.heap.size (by simp)).trans (at_drew (heap_alloc_new W _))
    have hA := hb0.alloc hb0.size (.cells (cliCells (newV id l) (.slice ao1 n cap1) (.chan (some W.heap.size))) 77)
    obtain ⟨gn, hC⟩ := Cli.fresh (W := W) (id := id) hl h0 (by omega) (own_below hown ((Below.refl w1.heap.size w1).alloc (Nat.le_refl _) (.cells (cliCells (newV id l) (.slice ao1 n cap1) (.chan (some W.heap.size))) 77))) (by simp) (heap_alloc_new w1 _) (old_at _ _ _ _ hch) hA (by omega) (Nat.le_refl _)
    go_wp2_with fail
    go_ret2
    exact ⟨w1.heap.size, gn, W.heap.size, cap1, rfl, hC⟩
end
/-! ### A client that is asked for one key: what it answers, call by call. -/
section
open Go.Conc Go.RowKit
set_option linter.unusedVariables false
theorem OnePk.far {w0 w w' : World} {B b gn ch cap g : Nat} {v : CliV} {q : List (Int × RepV)} {fr dst : Int} {d : ByteArray} (h : OnePk w g fr dst d) (hC : Cli w0 w B b gn ch cap v q) (hF : FarC w w' b ch) : OnePk w' g fr dst d := by
  refine (hF.2 g (blk_lt h) ?_ ?_).trans h
  · intro e
    have := hC.blk
    unfold OnePk at h
    rw [← e, h] at this
    injection this with this
    injection this with _ this
    exact absurd this (by decide)
  · intro e
    obtain ⟨s, r, hc⟩ := hC.chn
    unfold OnePk at h
    rw [← e, h] at hc
    cases hc
theorem OnePk.below {w w' : World} {g : Nat} {fr dst : Int} {d : ByteArray} (h : OnePk w g fr dst d) (hb : Below w.heap.size w w') : OnePk w' g fr dst d := (hb.block g (blk_lt h)).trans h
theorem OnePk.facts {w : World} {g : Nat} {fr dst : Int} {d : ByteArray} (h : OnePk w g fr dst d) : w.cell? ⟨g, 0, none⟩ = some (.int .i64 fr) ∧ w.cell? ⟨g, 1, none⟩ = some (.int .i64 dst) ∧ w.cell? ⟨g, 2, none⟩ = some (.string d) :=
  ⟨blk_cell h 0, blk_cell h 1, blk_cell h 2⟩
theorem emp_nil' : emp ⟨#[]⟩ = true := by decide +kernel
def getO (key : ByteArray) : OpV := ⟨4, 0, 0, key, ⟨#[]⟩, ⟨#[]⟩⟩
theorem getO_ok {key : ByteArray} (h1 : 1 ≤ key.size) (h2 : key.size ≤ 38) : OpOk (getO key) ∧ validV (getO key) = 0 := by
  refine ⟨?_, ?_⟩
  · unfold OpOk getO
    dsimp only
    refine ⟨by omega, by omega, by omega, by omega, ?_, ?_⟩ <;> exact Nat.zero_le _
  · have hk : keyB key = true := by unfold keyB; simp; omega
    unfold validV getO rightV
    simp [hk, emp_nil']
    exact Nat.zero_le _
/-- A client that was asked one thing: it has asked once. -/
def gV (id : Int) (l : List Int) (o : OpV) (cur : Nat) (wait : Int) (st : Bool) : CliV :=
  { id := id, nodes := l, cur := cur, ss := 0, sq := 0, number := 1, asked := true, op := o, num := 1, opn := true, qu := o, wait := wait, stays := st }
section
variable {w0 W : World} {B b gn ch cap : Nat} {id : Int} {l : List Int} {key : ByteArray} {cur : Nat} {wait : Int} {st : Bool}
theorem gask (h : Cli w0 W B b gn ch cap (newV id l) []) (h1 : 1 ≤ key.size) (h2 : key.size ≤ 38) :
    Calls Try.prog 37 #[.pointer (some ⟨b, 0, none⟩), .int .i64 4, .string key, .string ⟨#[]⟩, .string ⟨#[]⟩] W fun e w' => e = .returned (.tuple #[.int .i64 1, .int .i64 0]) ∧ Cli w0 w' B b gn ch cap (askedV (newV id l) 4 key ⟨#[]⟩ ⟨#[]⟩) [] ∧ FarC W w' b ch :=
  asks_get h rfl (show (0 : Nat) ≤ 1000000 by omega) key ⟨#[]⟩ ⟨#[]⟩ (by omega) (by decide) (by decide) (getO_ok h1 h2).2
theorem gtick1 (h : Cli w0 W B b gn ch cap (askedV (newV id l) 4 key ⟨#[]⟩ ⟨#[]⟩) []) (h1 : 1 ≤ key.size) (h2 : key.size ≤ 38) (n : Int) (hn : l[0]? = some n) :
    Calls Try.prog 38 #[.pointer (some ⟨b, 0, none⟩)] W (Sent w0 W B b gn ch cap (gV id l (getO key) 0 20 false) [] n ⟨(askB 1 (getO key)).toArray⟩) := by
  have hq : askQ (askedV (newV id l) 4 key ⟨#[]⟩ ⟨#[]⟩) = getO key := by unfold askQ; rw [if_pos (by rfl)]; rfl
  have := tick_first h rfl rfl (show (0 : Nat) ≤ 999999 by omega) (show (0 : Int) ≤ 0 ∧ (0 : Int) ≤ 1000000 by omega) (by rw [hq]; exact (getO_ok h1 h2).1) (by rw [hq]; exact (getO_ok h1 h2).2) n hn
  have hv : sentV (askV (askedV (newV id l) 4 key ⟨#[]⟩ ⟨#[]⟩)) = gV id l (getO key) 0 20 false := by unfold sentV askV; rw [hq]; rfl
  rw [hv, hq] at this
  exact this
theorem gwait {q : List (Int × RepV)} (h : Cli w0 W B b gn ch cap (gV id l (getO key) cur wait st) q) (hw : 1 < wait) (hw2 : wait ≤ 1000) :
    Calls Try.prog 38 #[.pointer (some ⟨b, 0, none⟩)] W fun e w' => e = .returned (.slice none 0 0) ∧ Cli w0 w' B b gn ch cap (gV id l (getO key) cur (wait - 1) st) q ∧ FarC W w' b ch :=
  tick_wait h rfl rfl (by show 1 < wait ∧ wait ≤ 1000000; omega)
theorem gagain {q : List (Int × RepV)} (h : Cli w0 W B b gn ch cap (gV id l (getO key) cur wait false) q) (hw : -1000 ≤ wait) (hw2 : wait ≤ 1) (h1 : 1 ≤ key.size) (h2 : key.size ≤ 38) (n : Int) (hn : l[(cur + 1) % l.length]? = some n) :
    Calls Try.prog 38 #[.pointer (some ⟨b, 0, none⟩)] W (Sent w0 W B b gn ch cap (gV id l (getO key) ((cur + 1) % l.length) 20 false) q n ⟨(askB 1 (getO key)).toArray⟩) :=
  tick_again h rfl rfl (by show -1000000 ≤ wait ∧ wait ≤ 1; omega) (show (1 : Nat) ≤ 1000000 by omega) (getO_ok h1 h2).1 (getO_ok h1 h2).2 n hn
theorem gstay {q : List (Int × RepV)} (h : Cli w0 W B b gn ch cap (gV id l (getO key) cur wait true) q) (hw : -1000 ≤ wait) (hw2 : wait ≤ 1) (h1 : 1 ≤ key.size) (h2 : key.size ≤ 38) (n : Int) (hn : l[cur]? = some n) :
    Calls Try.prog 38 #[.pointer (some ⟨b, 0, none⟩)] W (Sent w0 W B b gn ch cap (gV id l (getO key) cur 20 false) q n ⟨(askB 1 (getO key)).toArray⟩) :=
  tick_again h rfl rfl (by show -1000000 ≤ wait ∧ wait ≤ 1; omega) (show (1 : Nat) ≤ 1000000 by omega) (getO_ok h1 h2).1 (getO_ok h1 h2).2 n hn
theorem gbusy {q : List (Int × RepV)} (h : Cli w0 W B b gn ch cap (gV id l (getO key) cur wait st) q) : Calls Try.prog 40 #[.pointer (some ⟨b, 0, none⟩)] W fun e w' => e = .returned (.bool true) ∧ W = w' := busy_any h
end
end
/-! ### The walk of arboretumlaw29.alive. -/
section
open Go.Conc Go.RowKit
set_option linter.unusedVariables false
theorem two_at (w : World) : ∀ j x, ([1, 2] : List Int)[j]? = some x → (w.alloc (.cells #[.int .i64 1, .int .i64 2] 3)).cell? ((⟨w.heap.size, 0, none⟩ : Addr).add j) = some (.int .i64 x) := by
  intro j x hj
  rw [add_lit, blk_cell (heap_alloc_new w _)]
  rcases j with _ | _ | j
  · simp at hj; subst hj; rfl
  · simp at hj; subst hj; rfl
  · simp at hj
set_option maxRecDepth 20000 in
set_option maxHeartbeats 4000000 in
theorem aliveCl_any (w : World) : Calls Try.prog 35 #[] w fun e w' => e = .returned (.bool true) ∧ Below w.heap.size w w' := by
  have HNw := Lib.hid (new_any ⟨w.heap.size, 0, none⟩ 2 2 [1, 2] (w.alloc (.cells #[.int .i64 1, .int .i64 2] 3)) rfl (by omega) (by omega) (by simp) (two_at w) 101 (by omega))
  have HB0 : Hid (Below w.heap.size w (w.alloc (.cells #[.int .i64 1, .int .i64 2] 3))) := Lib.hid ((Below.refl _ _).alloc (Nat.le_refl _) _)
  have hz0 : w.heap.size ≤ (w.alloc (.cells #[.int .i64 1, .int .i64 2] 3)).heap.size := by simp
  have HZ0 := Lib.hid hz0
  clear hz0
  go_enter Try.func35, Try.ntmps35
  go_wp2_with fail
  refine HNw.out.mono ?_
  rintro e w1 ⟨b, gn, ch, cap, rfl, h1⟩
  generalize w.alloc (.cells #[.int .i64 1, .int .i64 2] 3) = W0 at h1 HB0 HZ0
  have HA := Lib.hid (gask (key := ⟨#[107]⟩) h1 (by decide) (by decide))
  clear HNw h1
  go_wp2_with fail
  refine HA.out.mono ?_
  rintro e w2 ⟨rfl, h2, -⟩
  have HT := Lib.hid (gtick1 h2 (by decide) (by decide) 1 rfl)
  clear HA h2
  obtain ⟨D, hD⟩ : ∃ D, D = (⟨(askB 1 (getO ⟨#[107]⟩)).toArray⟩ : ByteArray) := ⟨_, rfl⟩
  rw [← hD] at HT
  have HD := Lib.hid hD
  clear hD
  go_wp2_with fail
  refine HT.out.mono ?_
  rintro e w3 ⟨g, rfl, h3, p3, -, -⟩
  have HC := Lib.hid h3
  have HP := Lib.hid p3
  obtain ⟨z0, z1, z2⟩ := p3.facts
  clear h3 p3 HT z0 z2
  go_wp2_with fail
  go_loopw [6] (fun i wr => ∃ k : Nat, k ≤ 19 ∧ i = .int .i64 k ∧ Hid (Cli W0 wr W0.heap.size b gn ch cap (gV 101 [1, 2] (getO ⟨#[107]⟩) 0 (20 - (k : Int)) false) []) ∧ Hid (OnePk wr g 101 1 D)) (fun i _ => 19 - (intOf i).toNat)
  case atStart => exact ⟨0, by omega, rfl, HC, HP⟩
  case round =>
    obtain ⟨k, hk, rfl, HCk, HPk⟩ := hrel
    clear HC HP z1
    by_cases hlt : k < 19
    · have HW := Lib.hid (gwait HCk.out (by omega) (by omega))
      go_wp2_with fail
      refine HW.out.mono ?_
      rintro e w4 ⟨rfl, h4, f4⟩
      rw [show (20 - (k : Int)) - 1 = 20 - ((k + 1 : Nat) : Int) by omega] at h4
      have HC4 := Lib.hid h4
      have HP4 := Lib.hid (HPk.out.far HCk.out f4)
      clear h4 f4 HW HCk HPk
      go_wp2_with fail
      go_roundw
      case rel => exact ⟨k + 1, by omega, by go_num, HC4, HP4⟩
      case measure => simp [intOf]; omega
    · have hk' : k = 19 := by omega
      subst hk'
      have HW := Lib.hid (gagain HCk.out (by omega) (by omega) (by decide) (by decide) 2 rfl)
      rw [← HD.out] at HW
      clear hk hlt
      go_wp2_with fail
      refine HW.out.mono ?_
      rintro e w4 ⟨g2, rfl, h4, p4, -, f4⟩
      have HC4 := Lib.hid h4
      have HP4 := Lib.hid (HPk.out.far HCk.out f4)
      have HQ4 := Lib.hid p4
      clear h4 f4 p4 HW HCk HPk HD
      go_wp2_with fail
      have hq : ∀ p : SinceW w4.heap.size w4, Cli W0 p.w W0.heap.size b gn ch cap (gV 101 [1, 2] (getO ⟨#[107]⟩) ((0 + 1) % [1, 2].length) 20 false) [] ∧ OnePk p.w g 101 1 D ∧ OnePk p.w g2 101 2 D := fun p => ⟨HC4.out.step p.h, HP4.out.below p.h, HQ4.out.below p.h⟩
      have y1 := fun p => (hq p).2.2.facts.2.1
      have y2 := fun p => (hq p).2.2.facts.2.2
      have x2 := fun p => (hq p).2.1.facts.2.2
      have HBz := Lib.hid (fun p => gbusy (hq p).1)
      clear hq
      refine wp_region_since (B := w4.heap.size) (W0 := w4) (by kernel_rfl) (by kernel_rfl) (Below.refl _ _) ?_
      repeat (go_big_quiet_step ((go_at_call 40; exact since_same (HBz.out _))))
      refine wpQuiet_nil ?_
      intro w5 hw'
      have hv5 : Below w4.heap.size w4 w5 := by obtain ⟨p, rfl⟩ := hw'; exact p.h
      have HX := Lib.hid (HC4.out.step hv5)
      clear hw' y1 y2 x2 HBz hv5 HC4 HP4 HQ4
      go_wp2_with fail
      go_ret
      exact ⟨rfl, HB0.out.trans (HX.out.below.mono HZ0.out)⟩
end
end Go.Proofs.Ytfogoebflfkknaa
