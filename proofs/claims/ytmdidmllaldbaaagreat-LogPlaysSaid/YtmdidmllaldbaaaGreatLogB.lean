/- The walks of slices.Clone (of entries) and of rlog.own: the same entries, in new memory. -/
import Derived.Test.YtmdidmllaldbaaaGreatClone
import Derived.Test.YtmdidmllaldbaaaGreatEntB
import Derived.Lib.SliceRun
import Derived.Test.YtmdidmllaldbaaaGreatChecked
import Derived.Deep.QuietTactic
import Derived.BigQuiet
import Derived.Deep.RegionHeld3
import Derived.Deep.AppendLies
import Derived.Deep.RegionLaw
import Derived.Deep.RegionLawGrows
namespace Go.Proofs.YtmdidmllaldbaaaGreat
/-! ### The walks of slices.Clone (of entries) and of rlog.own: the same entries, in new memory. -/
section
open Go.RowKit
set_option linter.unusedVariables false
theorem entinfo : (Tryz.prog.info? 51).map (fun i => (i.zero, i.size, i.bytes)) = some (some (.agg #[.int .i64 0, .int .i64 0, .int .i64 0, .string ⟨#[]⟩]), 4, 40) := by kernel_rfl
/-- A result that owns l. -/
def OwnsEnts (B n : Nat) (l : List Ent) (w : World) (e : Ending) (w' : World) : Prop :=
  ∃ ao cap, e = .returned (.slice ao n cap) ∧ w'.ownsRow B 51 4 (.slice ao n cap) n (entCells l) ∧ Below B w w'
set_option maxHeartbeats 400000 in
theorem cloneE_any (ao : Option Addr) (n c : Nat) (l : List Ent) (w : World) (hl : Ents w w.heap.size ao n l) (hn : n * 40 ≤ 140737488355328) (hnil : ao = none → n = 0) :
    Calls Tryz.prog 186 #[.slice ao n c] w (OwnsEnts w.heap.size n l w) := by
  cases ao with
  | none =>
    obtain rfl : n = 0 := hnil rfl
    have hl0 : l = [] := List.eq_nil_of_length_eq_zero hl.1
    subst hl0
    have he := Lib.run_eql_slice_nil (P := Tryz.prog) w 22 51 none 0 c 0 0 Tryz.underlying22
    go_enter Tryz.func186, Tryz.ntmps186
    go_wp2
    go_ret
    exact ⟨none, 0, rfl, World.ownsRow_nil _ _ _ _, Below.refl _ _⟩
  | some ad =>
    obtain ⟨i0, hi, hz0, hz1, hz2⟩ := info_parts entinfo
    have he := Lib.run_eql_slice_nil (P := Tryz.prog) w 22 51 (some ad) n c 0 0 Tryz.underlying22
    have hlen := entCells_len l
    rw [hl.1] at hlen
    have hcells := (hl.below ((Below.refl w.heap.size w).alloc (Nat.le_refl _) (.cells #[] 51))).cells
    have HC := Lib.hid hcells
    have HLen := Lib.hid hlen
    have HL := Lib.hid hl
    have HOwn := Lib.hid (World.ownsRow_made (base := w.heap.size) (e := 51) (size := 4) w #[] 0 (Nat.le_refl _) (by unfold maxLen; omega) rfl)
    clear hl hcells hlen hnil
    go_enter Tryz.func186, Tryz.ntmps186
    go_wp2_with (at_builtin; refine wpList_append_own_at _ rfl (.tmp 5) (.tmp 6) 22 rfl w.heap.size 51 i0 _ 4 40 Tryz.underlying22 hi hz0 hz1 hz2 rfl (by omega) _ 0 [] rfl HOwn.out ad n c (entCells l) rfl HLen.out HC.out (entCells_one l) (by unfold maxLen; omega) (by omega) (by simp) ?_; intro v1 w1 hown1 hg1 _ _; obtain ⟨ao1, cap1, hv1, hcap1, hn1, ha1⟩ := own_shape hown1; rw [Nat.zero_add] at hv1; subst hv1)
    go_ret
    have hg1' : (w.alloc (.cells #[] 51)).grownBy w1 (some w.heap.size) := hg1
    have hb1 : Below w.heap.size w w1 := ((Below.refl _ _).alloc (Nat.le_refl _) _).grown hg1' (by simp) (fun k hk => by injection hk with hk; omega)
    rw [Nat.zero_add] at hown1
    exact ⟨ao1, cap1, rfl, hown1, hb1⟩
theorem set_same {α : Type} (l : List α) (j : Nat) (u : α) (h : l[j]? = some u) : l.set j u = l := by
  apply List.ext_getElem?
  intro i
  rw [List.getElem?_set]
  split
  · rename_i hij
    subst hij
    rw [if_pos (List.getElem?_eq_some_iff.1 h).1, h]
  · rfl
set_option maxHeartbeats 400000 in
theorem own_any (ao : Option Addr) (n c : Nat) (l : List Ent) (w : World) (hl : Ents w w.heap.size ao n l) (hn : n * 40 ≤ 140737488355328) (hnil : ao = none → n = 0) (hs : ∀ e ∈ l, e.dt.size ≤ 281474976710656) :
    Calls Tryz.prog 184 #[.slice ao n c] w (OwnsEnts w.heap.size n l w) := by
  have HC := Lib.hid (cloneE_any ao n c l w hl hn hnil)
  have hl1 := hl.1
  have HL1 := Lib.hid hl1
  have HS := Lib.hid hs
  clear hl hl1 hs hnil
  obtain ⟨B, hB⟩ : ∃ B, B = w.heap.size := ⟨_, rfl⟩
  rw [← hB] at HC ⊢
  have hBw : B ≤ w.heap.size := Nat.le_of_eq hB
  clear hB
  go_enter Tryz.func184, Tryz.ntmps184
  go_wp2_with (go_at_call 186; refine (HC.out).mono ?_; rintro e w1 ⟨ao1, cap1, rfl, hown1, hb1⟩; have HOwn1 := Lib.hid hown1; have HB1 := Lib.hid hb1; have hBs := Nat.le_trans hBw hb1.size; clear hown1 hb1)
  go_loopw [9] (fun i wr => ∃ k : Nat, k ≤ n ∧ i = .int .i64 k ∧ wr.ownsRow B 51 4 (.slice ao1 n cap1) n (entCells l) ∧ Below B w wr ∧ B ≤ wr.heap.size) (fun i _ => n - (intOf i).toNat)
  case atStart => exact ⟨0, Nat.zero_le _, rfl, HOwn1.out, HB1.out, hBs⟩
  case round =>
    obtain ⟨k, hk, rfl, hown, hb, hBr⟩ := hrel
    by_cases hlt : k < n
    · obtain ⟨g, cap', hv, hg1, hg2⟩ := hown.form (by omega)
      injection hv with hv _ hcap'
      subst hv
      subst hcap'
      have hkl : k < l.length := by rw [HL1.out]; exact hlt
      obtain ⟨e, he⟩ : ∃ e, l[k]? = some e := ⟨l[k], List.getElem?_eq_getElem hkl⟩
      have hc : wr.cell? ⟨g, k * 4 + 3, none⟩ = some (.string e.dt) := by
        rw [hown.cellAt (k * 4 + 3) (by omega), entCells_get _ _ _ (by omega), he]; rfl
      have hes : e.dt.size ≤ 281474976710656 := HS.out e (List.mem_of_getElem? he)
      have hset : (entCells l).set (k * 4 + 3) (.string e.dt) = entCells l := set_same _ _ _ (by rw [entCells_get _ _ _ (by omega), he]; rfl)
      have HE := Lib.hid he
      have HO := Lib.hid hown
      have HB := Lib.hid hb
      have HSet := Lib.hid hset
      have hkb : k * 4 + 3 < n * 4 := by omega
      clear he hown hb hset
      go_wp2_with (go_at_call 114; refine (clone_any _ _ hes).mono ?_; rintro e' w2 ⟨rfl, hb2⟩; have hc2 : w2.cell? ⟨g, k * 4 + 3, none⟩ = some (.string e.dt) := ((hb2.cell (p := ⟨g, k * 4 + 3, none⟩) hg2).trans hc); have hf2 : w2.frozen? ⟨g, k * 4 + 3, none⟩ = false := (hb2.frozen (p := ⟨g, k * 4 + 3, none⟩) hg2).trans (HO.out.frozenAt _); have HB2 := Lib.hid hb2; clear hb2)
      go_roundw
      case rel => exact ⟨k + 1, by omega, by go_num, by
          have h1 : w2.ownsRow B 51 4 (.slice (some ⟨g, 0, none⟩) n cap1) n (entCells l) := HO.out.kept (row := none) ⟨HB2.out.os, HB2.out.tape, HB2.out.output, HB2.out.size, fun k hk _ => HB2.out.block k hk⟩ (.inr (by simp [Value.ownBlock]))
          have h2 := (h1.stored (k * 4 + 3) (.string e.dt)).1
          rw [HSet.out] at h2
          exact h2, (HB.out.trans (HB2.out.mono hBr)).setCell hg1 _, by simp; exact Nat.le_trans hBr HB2.out.size⟩
      case measure => simp [intOf]; omega
    · have HO := Lib.hid hown
      have HB := Lib.hid hb
      clear hown hb
      go_wp2
      go_ret
      exact ⟨ao1, cap1, rfl, HO.out, HB.out⟩
end
/-! ### The walk of rlog.follow. -/
section
open Go.RowKit
set_option linter.unusedVariables false
/-- Do entries follow each other behind a place? -/
def folB (i t : Int) : List Ent → Bool
  | [] => true
  | e :: r => if e.ix ≠ wrap64 (i + 1) ∨ e.tm < t then false else folB e.ix e.tm r
set_option maxHeartbeats 1000000 in
theorem follow_any (i t : Int) (ao : Option Addr) (n c : Nat) (l : List Ent) (w : World) (hl : Ents w w.heap.size ao n l) (hn : n ≤ 9223372036854775807) :
    Calls Tryz.prog 183 #[.int .i64 i, .int .i64 t, .slice ao n c] w fun e w' => e = .returned (.bool (folB i t l)) ∧ Below w.heap.size w w' := by
  obtain ⟨B, hB⟩ : ∃ B, B = w.heap.size := ⟨_, rfl⟩
  rw [← hB] at hl ⊢
  have hBle : B ≤ w.heap.size := Nat.le_of_eq hB
  have HL := Lib.hid hl
  clear hl hB
  go_enter Tryz.func183, Tryz.ntmps183
  go_wp2
  go_loopw [0, 1, 11] (fun x y z wr => ∃ (k : Nat) (i' t' : Int), k ≤ n ∧ x = .int .i64 i' ∧ y = .int .i64 t' ∧ z = .int .i64 k ∧ Hid (folB i' t' (l.drop k) = folB i t l) ∧ Below B w wr) (fun _ _ z _ => n - (intOf z).toNat)
  case atStart => exact ⟨0, i, t, Nat.zero_le _, rfl, rfl, rfl, rfl, Below.refl _ _⟩
  case round =>
    obtain ⟨k, i', t', hk, rfl, rfl, rfl, hf, hb⟩ := hrel
    have HB := Lib.hid hb
    have hBr : B ≤ wr.heap.size := Nat.le_trans hBle hb.size
    clear hb
    by_cases hlt : k < n
    · obtain ⟨b, o, e, rfl, hbB, hek, h1, h2, h3, h4⟩ := (HL.out.below HB.out).get hlt
      have HE := Lib.hid hek
      clear hek
      have hdrop : l.drop k = e :: l.drop (k + 1) := by
        have hk' : k < l.length := (List.getElem?_eq_some_iff.1 HE.out).1
        rw [List.drop_eq_getElem_cons hk']
        congr 1
        exact (List.getElem?_eq_some_iff.1 HE.out).2
      have HD := Lib.hid hdrop
      clear hdrop
      by_cases c1 : e.ix = wrap64 (i' + 1)
      · have c1b : (e.ix != wrap64 (i' + 1)) = false := by simp [c1]
        by_cases c2 : e.tm < t'
        · have hfin : folB i t l = false := by rw [← hf.out, HD.out, folB, if_pos (.inr c2)]
          have HF := Lib.hid hfin
          clear hfin c1
          go_wp2_with fail
          go_ret
          exact ⟨by rw [HF.out]; rfl, HB.out.alloc hBr _⟩
        · have hst : folB e.ix e.tm (l.drop (k + 1)) = folB i t l := by rw [← hf.out, HD.out, folB, if_neg (by rintro (h | h); exact h c1; exact c2 h)]
          have HF := Lib.hid hst
          clear hst c1
          go_wp2_with fail
          go_quiet (fail)
          go_wp2_with fail
          go_roundw
          case rel => exact ⟨k + 1, e.ix, e.tm, by omega, rfl, rfl, by go_num, HF.out, below_drewN (HB.out.alloc hBr _) _⟩
          case measure => simp [intOf]; omega
      · have c1b : (e.ix != wrap64 (i' + 1)) = true := by simp [c1]
        have hfin : folB i t l = false := by rw [← hf.out, HD.out, folB, if_pos (.inl c1)]
        have HF := Lib.hid hfin
        clear hfin c1
        go_wp2_with fail
        go_ret
        exact ⟨by rw [HF.out]; rfl, HB.out.alloc hBr _⟩
    · have hfin : folB i t l = true := by
        rw [← hf.out, List.drop_eq_nil_of_le (by rw [HL.out.1]; omega), folB]
      have HF := Lib.hid hfin
      clear hfin
      go_wp2_with fail
      go_ret
      exact ⟨by rw [HF.out]; rfl, HB.out⟩
end
/-! ### A log in memory, and the walks of its plain readers: Len, Base, At, Last, Term, Newer. -/
section
open Go.RowKit
set_option linter.unusedVariables false
structure LogV where
  base : Int
  term : Int
  l : List Ent
/-- A log lies at block b, and all that it has lies at B or above. -/
def LogAt (w : World) (B b : Nat) (x : LogV) : Prop :=
  B ≤ b ∧ ∃ ao cap, w.heap[b]? = some (.cells #[.int .i64 x.base, .int .i64 x.term, .slice ao x.l.length cap] 94 (0, 0)) ∧ w.ownsRow B 51 4 (.slice ao x.l.length cap) x.l.length (entCells x.l)
/-- Nothing that was there turned but block b and this row. -/
structure FarL (b : Nat) (r : Option Nat) (w w' : World) : Prop where
  os : w'.os = w.os
  tape : w'.tape = w.tape
  output : w'.output = w.output
  size : w.heap.size ≤ w'.heap.size
  block : ∀ k, k < w.heap.size → k ≠ b → r ≠ some k → w'.heap[k]? = w.heap[k]?
theorem FarL.refl (b : Nat) (r : Option Nat) (w : World) : FarL b r w w := ⟨rfl, rfl, rfl, Nat.le_refl _, fun _ _ _ _ => rfl⟩
theorem FarL.below {b : Nat} {r : Option Nat} {w w1 w2 : World} (h : FarL b r w w1) (hb : Below w1.heap.size w1 w2) : FarL b r w w2 :=
  ⟨hb.os.trans h.os, hb.tape.trans h.tape, hb.output.trans h.output, Nat.le_trans h.size hb.size, fun k h1 h2 h3 => (hb.block k (Nat.lt_of_lt_of_le h1 h.size)).trans (h.block k h1 h2 h3)⟩
theorem FarL.ofBelow {b : Nat} {r : Option Nat} {w w1 : World} (hb : Below w.heap.size w w1) : FarL b r w w1 := (FarL.refl b r w).below hb
theorem FarL.grown {b : Nat} {r row : Option Nat} {w w1 w2 : World} (h : FarL b r w w1) (hg : w1.grownBy w2 row) (hr : ∀ g, row = some g → g < w.heap.size → r = some g) : FarL b r w w2 :=
  ⟨hg.os.trans h.os, hg.tape.trans h.tape, hg.output.trans h.output, Nat.le_trans h.size hg.size, fun k h1 h2 h3 => (hg.block k (Nat.lt_of_lt_of_le h1 h.size) (fun e => h3 (hr k e.symm h1))).trans (h.block k h1 h2 h3)⟩
theorem FarL.set {b : Nat} {r : Option Nat} {w w1 : World} (h : FarL b r w w1) (i : Nat) (v : Value) : FarL b r w (w1.setCell ⟨b, i, none⟩ v) := by
  have hg := grown_set w1 b i v
  exact ⟨hg.os.trans h.os, hg.tape.trans h.tape, hg.output.trans h.output, Nat.le_trans h.size hg.size, fun k h1 h2 h3 => (hg.block k (Nat.lt_of_lt_of_le h1 h.size) (fun e => h2 (by injection e))).trans (h.block k h1 h2 h3)⟩
/-- The block of the row that a log at b has. -/
def rowAt (w : World) (b : Nat) : Option Nat := match w.heap[b]? with
  | some (.cells cs _ _) => (cs[2]?).bind Value.ownBlock
  | _ => none
theorem rowAt_of {w : World} {b : Nat} {u v x : Value} {T : TypeId} (h : w.heap[b]? = some (.cells #[u, v, x] T (0, 0))) : rowAt w b = x.ownBlock := by
  unfold rowAt
  rw [h]
  rfl
/-- What a call does to a log at b: it turns its block and its row alone, and a new row is new. -/
def Moved (b : Nat) (w w' : World) : Prop := FarL b (rowAt w b) w w' ∧ ∀ g, rowAt w' b = some g → rowAt w b = some g ∨ w.heap.size ≤ g
theorem rowAt_below {w w' : World} {b : Nat} (hlt : b < w.heap.size) (hb : Below w.heap.size w w') : rowAt w' b = rowAt w b := by
  unfold rowAt
  rw [hb.block b hlt]
theorem Moved.ofBelow {w w' : World} {b : Nat} (hlt : b < w.heap.size) (hb : Below w.heap.size w w') : Moved b w w' :=
  ⟨FarL.ofBelow hb, fun g hg => by rw [rowAt_below hlt hb] at hg; exact .inl hg⟩
/-- The facts that a walk reads off a log. -/
theorem LogAt.facts {w : World} {B b : Nat} {x : LogV} (h : LogAt w B b x) : ∃ ao cap, w.cell? ⟨b, 0, none⟩ = some (.int .i64 x.base) ∧ w.cell? ⟨b, 1, none⟩ = some (.int .i64 x.term) ∧ w.cell? ⟨b, 2, none⟩ = some (.slice ao x.l.length cap) ∧
    w.ownsRow B 51 4 (.slice ao x.l.length cap) x.l.length (entCells x.l) ∧ b < w.heap.size ∧ x.l.length ≤ 9223372036854775807 := by
  obtain ⟨hb, ao, cap, hh, ho⟩ := h
  refine ⟨ao, cap, by rw [blk_cell hh]; rfl, by rw [blk_cell hh]; rfl, by rw [blk_cell hh]; rfl, ho, blk_lt hh, ?_⟩
  rcases ho.2 with ⟨_, h0⟩ | ⟨g, cap', cur, hv, _, _, hc, hm, _⟩
  · omega
  · unfold maxLen at hm; omega
theorem LogAt.below {w w' : World} {B b B' : Nat} {x : LogV} (h : LogAt w B b x) (hb : Below B' w w') (hB : w.heap.size ≤ B') : LogAt w' B b x := by
  obtain ⟨h1, ao, cap, hh, ho⟩ := h
  have hlt := blk_lt hh
  exact ⟨h1, ao, cap, (hb.block b (by omega)).trans hh, ho.kept (row := none) ⟨hb.os, hb.tape, hb.output, hb.size, fun k hk _ => hb.block k (by omega)⟩ (by cases (Value.slice ao x.l.length cap).ownBlock <;> simp)⟩
theorem len_any {w : World} {B b : Nat} {x : LogV} (h : LogAt w B b x) :
    Calls Tryz.prog 75 #[.pointer (some ⟨b, 0, none⟩)] w fun e w' => e = .returned (.int .i64 x.l.length) ∧ w = w' := by
  obtain ⟨ao, cap, c0, c1, c2, ho, hlt, hn⟩ := h.facts
  clear ho h
  go_enter Tryz.func75, Tryz.ntmps75
  go_wp2
  go_ret
  exact ⟨rfl, rfl⟩
/-- Two numbers that a call answers, in a world that has only drawn. -/
def Two (a b : Int) (w : World) (e : Ending) (w' : World) : Prop := e = .returned (.tuple #[.int .i64 a, .int .i64 b]) ∧ ∃ n, w' = w.drewN n
theorem base_any {w : World} {B b : Nat} {x : LogV} (h : LogAt w B b x) :
    Calls Tryz.prog 64 #[.pointer (some ⟨b, 0, none⟩)] w (Two x.base x.term w) := by
  obtain ⟨ao, cap, c0, c1, c2, ho, hlt, hn⟩ := h.facts
  clear ho h
  go_enter Tryz.func64, Tryz.ntmps64
  go_wp2
  go_outline
  go_quiet (fail)
  go_wp2
  go_ret2
  exact ⟨rfl, _, rfl⟩
end
/-! ### The walks of a log's Last, At, Term and Newer. -/
section
open Go.RowKit
set_option linter.unusedVariables false
def lastV (x : LogV) : Int × Int := match x.l.getLast? with | none => (x.base, x.term) | some e => (e.ix, e.tm)
theorem last_empty {w : World} {B b : Nat} {x : LogV} (h : LogAt w B b x) (h0 : x.l.length = 0) :
    Calls Tryz.prog 65 #[.pointer (some ⟨b, 0, none⟩)] w fun e w' => e = .returned (.tuple #[.int .i64 x.base, .int .i64 x.term]) ∧ Below w.heap.size w w' := by
  have HL := Lib.hid (len_any h)
  rw [h0] at HL
  have HB := Lib.hid (base_any h)
  clear h h0
  go_enter Tryz.func65, Tryz.ntmps65
  go_wp2_with (first | (go_at_call 75; refine (HL.out).mono ?_; rintro e w' ⟨rfl, rfl⟩) | (go_at_call 64; refine (HB.out).mono ?_; rintro e w' ⟨rfl, n, rfl⟩))
  go_ret2
  exact ⟨rfl, below_drewN (Below.refl _ _) _⟩
theorem last_some {w : World} {B b : Nat} {x : LogV} (h : LogAt w B b x) (m : Nat) (hm : x.l.length = m + 1) (e : Ent) (he : x.l[m]? = some e) :
    Calls Tryz.prog 65 #[.pointer (some ⟨b, 0, none⟩)] w fun r w' => r = .returned (.tuple #[.int .i64 e.ix, .int .i64 e.tm]) ∧ Below w.heap.size w w' := by
  have HL := Lib.hid (len_any h)
  rw [hm] at HL
  obtain ⟨ao, cap, c0, c1, c2, ho, hlt, hn⟩ := h.facts
  have hE := ents_own ho
  rw [hm] at c2 ho hE
  obtain ⟨g, o, e', rfl, hg, he', k0, k1, k2, k3⟩ := hE.get (k := m) (by omega)
  rw [he] at he'
  injection he' with he'
  subst he'
  have hne : (((m + 1 : Nat) : Int) == 0) = false := by rw [beq_eq_false_iff_ne]; omega
  have hm9 : m + 1 ≤ 9223372036854775807 := by omega
  have hw1 : IntKind.i64.wrap (((m + 1 : Nat) : Int) - 1) = (m : Int) := by rw [IntWalk.i64_in _ (by omega)]; omega
  have hw2 : IntKind.i64.wrap ((m : Int) + 1 - 1) = (m : Int) := by rw [IntWalk.i64_in _ (by omega)]; omega
  have hi1 : (0 : Int) ≤ (m : Int) := by omega
  have hi2 : (m : Int) < ((m + 1 : Nat) : Int) := by omega
  clear h hm he ho hE hn
  go_enter Tryz.func65, Tryz.ntmps65
  go_wp2_with (go_at_call 75; refine (HL.out).mono ?_; rintro e w' ⟨rfl, rfl⟩)
  go_region
  go_wp2_with fail
  go_quiet (fail)
  go_wp2_with fail
  go_ret2
  exact ⟨rfl, below_drewN ((Below.refl _ _).alloc (Nat.le_refl _) _).drew _⟩
theorem last_any {w : World} {B b : Nat} {x : LogV} (h : LogAt w B b x) :
    Calls Tryz.prog 65 #[.pointer (some ⟨b, 0, none⟩)] w fun r w' => r = .returned (.tuple #[.int .i64 (lastV x).1, .int .i64 (lastV x).2]) ∧ Below w.heap.size w w' := by
  rcases Nat.eq_zero_or_pos x.l.length with h0 | h0
  · have hl : x.l = [] := List.eq_nil_of_length_eq_zero h0
    have e : lastV x = (x.base, x.term) := by unfold lastV; rw [hl]; rfl
    rw [e]
    exact last_empty h h0
  · obtain ⟨m, hm⟩ : ∃ m, x.l.length = m + 1 := ⟨x.l.length - 1, by omega⟩
    obtain ⟨y, he⟩ : ∃ y, x.l[m]? = some y := ⟨x.l[m]'(by omega), List.getElem?_eq_getElem _⟩
    have e : lastV x = (y.ix, y.tm) := by
      unfold lastV
      rw [List.getLast?_eq_getElem?, hm, Nat.add_sub_cancel, he]
    rw [e]
    exact last_some h m hm _ he
/-- The entry at an index. -/
def atV (x : LogV) (i : Int) : Option Ent := if i ≤ x.base ∨ x.l.length < i - x.base then none else x.l[(i - x.base - 1).toNat]?
def noEnt : Ent := ⟨0, 0, 0, ⟨#[]⟩⟩
/-- What At answers. -/
def AtRes (r : Option Ent) (w : World) (e : Ending) (w' : World) : Prop := e = .returned (.tuple #[(r.getD noEnt).agg, .bool r.isSome]) ∧ Below w.heap.size w w'
set_option maxHeartbeats 400000 in
theorem at_no {w : World} {B b : Nat} {x : LogV} (h : LogAt w B b x) (i : Int) (hb0 : 0 ≤ x.base) (hi : i ≤ 9223372036854775807) (hb9 : x.base ≤ 9223372036854775807) (hno : i ≤ x.base ∨ x.l.length < i - x.base) :
    Calls Tryz.prog 69 #[.pointer (some ⟨b, 0, none⟩), .int .i64 i] w (AtRes none w) := by
  obtain ⟨ao, cap, c0, c1, c2, ho, hlt, hn⟩ := h.facts
  obtain ⟨n, hne⟩ : ∃ n, n = x.l.length := ⟨_, rfl⟩
  rw [← hne] at c2 hn hno
  obtain ⟨base, hbe⟩ : ∃ base, base = x.base := ⟨_, rfl⟩
  rw [← hbe] at c0 hb0 hb9 hno
  clear ho h hne hbe
  have f0 : ∀ o1, (w.alloc o1).cell? ⟨b, 0, none⟩ = some (.int .i64 base) := fun o1 => (World.cell?_alloc_lt w o1 _ hlt).trans c0
  have f2 : ∀ o1, (w.alloc o1).cell? ⟨b, 2, none⟩ = some (.slice ao n cap) := fun o1 => (World.cell?_alloc_lt w o1 _ hlt).trans c2
  by_cases h1 : i ≤ base
  · have hd1 : decide (i ≤ base) = true := by simpa using h1
    go_enter Tryz.func69, Tryz.ntmps69
    go_wp2_with fail
    go_quiet (fail)
    go_wp2_with fail
    refine bodyPost_ret (v := .tuple #[noEnt.agg, .bool false]) (by simp [results, Tryz.results69, go_sem]; rfl) rfl ⟨rfl, ?_⟩
    exact ((((below_drewN ((Below.refl _ _).alloc (Nat.le_refl _) _) _).setCell (Nat.le_refl _) _).setCell (Nat.le_refl _) _).setCell (Nat.le_refl _) _).setCell (Nat.le_refl _) _
  · have hd1 : decide (i ≤ base) = false := by simpa using h1
    have h2 : (n : Int) < i - base := by omega
    have hw : IntKind.i64.wrap (i - base) = i - base := IntWalk.i64_in _ (by omega)
    have hd2 : decide ((n : Int) < i - base) = true := by simpa using h2
    go_enter Tryz.func69, Tryz.ntmps69
    go_wp2_with fail
    go_quiet (fail)
    go_wp2_with fail
    refine bodyPost_ret (v := .tuple #[noEnt.agg, .bool false]) (by simp [results, Tryz.results69, go_sem]; rfl) rfl ⟨rfl, ?_⟩
    exact ((((below_drewN ((Below.refl _ _).alloc (Nat.le_refl _) _) _).setCell (Nat.le_refl _) _).setCell (Nat.le_refl _) _).setCell (Nat.le_refl _) _).setCell (Nat.le_refl _) _
set_option maxHeartbeats 400000 in
theorem at_yes {w : World} {B b : Nat} {x : LogV} (h : LogAt w B b x) (k : Nat) (e : Ent) (hk : x.l[k]? = some e) (i : Int) (hik : i = x.base + k + 1) (hb0 : 0 ≤ x.base) (hi : i ≤ 9223372036854775807) :
    Calls Tryz.prog 69 #[.pointer (some ⟨b, 0, none⟩), .int .i64 i] w (AtRes (some e) w) := by
  obtain ⟨ao, cap, c0, c1, c2, ho, hlt, hn⟩ := h.facts
  have hkl : k < x.l.length := (List.getElem?_eq_some_iff.1 hk).1
  obtain ⟨g, o, e', rfl, hg, he', k0, k1, k2, k3⟩ := (ents_own ho).get hkl
  rw [hk] at he'
  injection he' with he'
  subst he'
  obtain ⟨n, hne⟩ : ∃ n, n = x.l.length := ⟨_, rfl⟩
  rw [← hne] at c2 hn hkl
  obtain ⟨base, hbe⟩ : ∃ base, base = x.base := ⟨_, rfl⟩
  rw [← hbe] at c0 hb0 hik
  clear ho h hne hbe hk
  have f0 : ∀ o1, (w.alloc o1).cell? ⟨b, 0, none⟩ = some (.int .i64 base) := fun o1 => (World.cell?_alloc_lt w o1 _ hlt).trans c0
  have f2 : ∀ o1, (w.alloc o1).cell? ⟨b, 2, none⟩ = some (.slice (some ⟨g, o, none⟩) n cap) := fun o1 => (World.cell?_alloc_lt w o1 _ hlt).trans c2
  have j0 : ∀ o1, (w.alloc o1).cell? ⟨g, o + k * 4, none⟩ = some (.int .i64 e.ix) := fun o1 => (World.cell?_alloc_lt w o1 _ hg).trans k0
  have j1 : ∀ o1, (w.alloc o1).cell? ⟨g, o + k * 4 + 1, none⟩ = some (.int .i64 e.tm) := fun o1 => (World.cell?_alloc_lt w o1 _ hg).trans k1
  have j2 : ∀ o1, (w.alloc o1).cell? ⟨g, o + k * 4 + 2, none⟩ = some (.int .i64 e.kd) := fun o1 => (World.cell?_alloc_lt w o1 _ hg).trans k2
  have j3 : ∀ o1, (w.alloc o1).cell? ⟨g, o + k * 4 + 3, none⟩ = some (.string e.dt) := fun o1 => (World.cell?_alloc_lt w o1 _ hg).trans k3
  have hd1 : decide (i ≤ base) = false := by simp; omega
  have hw : IntKind.i64.wrap (i - base) = (k : Int) + 1 := by rw [IntWalk.i64_in _ (by omega)]; omega
  have hw2 : IntKind.i64.wrap ((k : Int) + 1 - 1) = (k : Int) := by rw [IntWalk.i64_in _ (by omega)]; omega
  have hd2 : decide ((n : Int) < (k : Int) + 1) = false := by simp; omega
  have hx1 : (0 : Int) ≤ k := by omega
  have hx2 : (k : Int) < n := by omega
  have hww : i - base = (k : Int) + 1 := by omega
  clear k0 k1 k2 k3 hik
  go_enter Tryz.func69, Tryz.ntmps69
  go_wp2_with fail
  go_quiet (fail)
  go_wp2_with fail
  go_region
  go_wp2_with fail
  refine bodyPost_ret (v := .tuple #[e.agg, .bool true]) (by simp [results, Tryz.results69, go_sem]; rfl) rfl ⟨rfl, ?_⟩
  exact ((((below_drewN ((Below.refl _ _).alloc (Nat.le_refl _) _) _).setCell (Nat.le_refl _) _).setCell (Nat.le_refl _) _).setCell (Nat.le_refl _) _).setCell (Nat.le_refl _) _
theorem at_any {w : World} {B b : Nat} {x : LogV} (h : LogAt w B b x) (i : Int) (hb0 : 0 ≤ x.base) (hb9 : x.base ≤ 9223372036854775807) (hi : i ≤ 9223372036854775807) :
    Calls Tryz.prog 69 #[.pointer (some ⟨b, 0, none⟩), .int .i64 i] w (AtRes (atV x i) w) := by
  by_cases hno : i ≤ x.base ∨ x.l.length < i - x.base
  · have e : atV x i = none := by unfold atV; rw [if_pos hno]
    rw [e]; exact at_no h i hb0 hi hb9 hno
  · have hk : (i - x.base - 1).toNat < x.l.length := by omega
    have e : atV x i = some (x.l[(i - x.base - 1).toNat]) := by unfold atV; rw [if_neg hno, List.getElem?_eq_getElem hk]
    rw [e]; exact at_yes h _ _ (List.getElem?_eq_getElem hk) i (by omega) hb0 hi
end
/-! ### The walks of a log's Term and Newer, and of New. -/
section
open Go.RowKit
set_option linter.unusedVariables false
/-- The term at an index. -/
def termV (x : LogV) (i : Int) : Int × Bool := if i = x.base then (x.term, true) else (((atV x i).getD noEnt).tm, (atV x i).isSome)
set_option maxHeartbeats 400000 in
theorem term_any {w : World} {B b : Nat} {x : LogV} (h : LogAt w B b x) (i : Int) (hb0 : 0 ≤ x.base) (hb9 : x.base ≤ 9223372036854775807) (hi : i ≤ 9223372036854775807) :
    Calls Tryz.prog 67 #[.pointer (some ⟨b, 0, none⟩), .int .i64 i] w fun e w' => e = .returned (.tuple #[.int .i64 (termV x i).1, .bool (termV x i).2]) ∧ Below w.heap.size w w' := by
  obtain ⟨ao, cap, c0, c1, c2, ho, hlt, hn⟩ := h.facts
  by_cases hib : i = x.base
  · have e : termV x i = (x.term, true) := by unfold termV; rw [if_pos hib]
    rw [e]
    obtain ⟨base, hbe⟩ : ∃ base, base = x.base := ⟨_, rfl⟩
    rw [← hbe] at c0 hib
    subst hib
    clear e ho h hb0 hb9 hi hn
    go_enter Tryz.func67, Tryz.ntmps67
    go_wp2_with fail
    go_ret2
    exact ⟨rfl, Below.refl _ _⟩
  · have e : termV x i = (((atV x i).getD noEnt).tm, (atV x i).isSome) := by unfold termV; rw [if_neg hib]
    rw [e]
    have HA := at_any h i hb0 hb9 hi
    obtain ⟨r, hr⟩ : ∃ r, r = (atV x i).getD noEnt := ⟨_, rfl⟩
    obtain ⟨s, hs⟩ : ∃ s, s = (atV x i).isSome := ⟨_, rfl⟩
    have HA' : Hid (Calls Tryz.prog 69 #[.pointer (some ⟨b, 0, none⟩), .int .i64 i] w fun e w' => e = .returned (.tuple #[.agg #[.int .i64 r.ix, .int .i64 r.tm, .int .i64 r.kd, .string r.dt], .bool s]) ∧ Below w.heap.size w w') := Lib.hid (by
      rw [hr, hs]; exact HA)
    rw [← hr, ← hs]
    obtain ⟨base, hbe⟩ : ∃ base, base = x.base := ⟨_, rfl⟩
    rw [← hbe] at c0 hib
    have hd : (i == base) = false := by simpa using hib
    clear e ho h hb0 hb9 hi hn HA hr hs hib
    go_enter Tryz.func67, Tryz.ntmps67
    go_wp2_with (go_at_call 69; refine (HA'.out).mono ?_; rintro e w1 ⟨rfl, hb1⟩)
    go_ret2
    exact ⟨rfl, (hb1.alloc hb1.size _)⟩
/-- Is a log that ends at (i, t) at least as new? -/
def newerV (x : LogV) (i t : Int) : Bool := decide ((lastV x).2 < t) || (t == (lastV x).2 && decide ((lastV x).1 ≤ i))
set_option maxHeartbeats 400000 in
theorem newer_any {w : World} {B b : Nat} {x : LogV} (h : LogAt w B b x) (i t : Int) :
    Calls Tryz.prog 76 #[.pointer (some ⟨b, 0, none⟩), .int .i64 i, .int .i64 t] w fun e w' => e = .returned (.bool (newerV x i t)) ∧ Below w.heap.size w w' := by
  have HL := Lib.hid (last_any h)
  unfold newerV
  obtain ⟨u, hu⟩ : ∃ u, u = (lastV x).1 := ⟨_, rfl⟩
  obtain ⟨v, hv⟩ : ∃ v, v = (lastV x).2 := ⟨_, rfl⟩
  rw [← hu, ← hv] at HL ⊢
  clear h hu hv
  by_cases h1 : v < t
  · have hd1 : decide (v < t) = true := by simpa using h1
    go_enter Tryz.func76, Tryz.ntmps76
    go_wp2_with (go_at_call 65; refine (HL.out).mono ?_; rintro e w1 ⟨rfl, hb1⟩)
    go_ret
    exact ⟨by simp [hd1], hb1⟩
  · have hd1 : decide (v < t) = false := by simpa using h1
    by_cases h2 : t = v
    · subst h2
      go_enter Tryz.func76, Tryz.ntmps76
      go_wp2_with (go_at_call 65; refine (HL.out).mono ?_; rintro e w1 ⟨rfl, hb1⟩)
      go_ret
      exact ⟨by simp, hb1⟩
    · have hd2 : (t == v) = false := by simpa using h2
      go_enter Tryz.func76, Tryz.ntmps76
      go_wp2_with (go_at_call 65; refine (HL.out).mono ?_; rintro e w1 ⟨rfl, hb1⟩)
      go_ret
      exact ⟨by simp [hd1, hd2], hb1⟩
theorem new_blk (w : World) (o : Obj) : (w.alloc o).heap[w.heap.size]? = some o := by
  show (w.heap.push o)[w.heap.size]? = _
  simp
theorem own_mono {w : World} {base base' : Nat} {e : TypeId} {size : Nat} {v : Value} {n : Nat} {xs : List Value} (h : w.ownsRow base e size v n xs) (hb : base' ≤ base) : w.ownsRow base' e size v n xs :=
  ⟨h.1, h.2.imp id (by rintro ⟨g, cap, cur, h1, h2, h3⟩; exact ⟨g, cap, cur, h1, Nat.le_trans hb h2, h3⟩)⟩
/-- A new log. -/
def NewRes (base term : Int) (l : List Ent) (w : World) (e : Ending) (w' : World) : Prop :=
  ∃ b, e = .returned (.tuple #[.pointer (some ⟨b, 0, none⟩), .int .i64 0]) ∧ LogAt w' w.heap.size b ⟨base, term, l⟩ ∧ Below w.heap.size w w'
set_option maxHeartbeats 400000 in
theorem new_good (base term : Int) (ao : Option Addr) (n c : Nat) (l : List Ent) (w : World) (hl : Ents w w.heap.size ao n l) (hn : n * 40 ≤ 140737488355328) (hnil : ao = none → n = 0) (hs : ∀ e ∈ l, e.dt.size ≤ 281474976710656)
    (hb : 0 ≤ base) (ht : 0 ≤ term) (hf : folB base term l = true) :
    Calls Tryz.prog 55 #[.int .i64 base, .int .i64 term, .slice ao n c] w (NewRes base term l w) := by
  have HF := Lib.hid (follow_any base term ao n c l w hl (by omega))
  rw [hf] at HF
  have HO : ∀ w1, Below w.heap.size w w1 → Hid (Calls Tryz.prog 184 #[.slice ao n c] w1 (OwnsEnts w1.heap.size n l w1)) := fun w1 h1 => Lib.hid (own_any ao n c l w1 ((hl.below h1).mono h1.size) hn hnil hs)
  have HO' := Lib.hid HO
  have hln := hl.1
  have HLn := Lib.hid hln
  clear hl hs hf HO hln hnil
  have hd1 : decide (base < 0) = false := by simpa using hb
  have hd2 : decide (term < 0) = false := by simpa using ht
  go_enter Tryz.func55, Tryz.ntmps55
  go_wp2_with (first | (go_at_call 183; refine (HF.out).mono ?_; rintro e w1 ⟨rfl, hb1⟩; have HB1 := Lib.hid hb1; clear hb1) | (go_at_call 184; refine ((HO'.out _ HB1.out).out).mono ?_; rintro e w2 ⟨ao2, cap2, rfl, ho2, hb2⟩; have HO2 := Lib.hid ho2; have HB2 := Lib.hid hb2; clear ho2 hb2))
  go_ret2
  have hsz : w.heap.size ≤ w2.heap.size := Nat.le_trans HB1.out.size HB2.out.size
  refine ⟨w2.heap.size, rfl, ⟨hsz, ao2, cap2, ?_, ?_⟩, ?_⟩
  · rw [HLn.out]; exact new_blk _ _
  · rw [HLn.out]; exact (own_mono HO2.out HB1.out.size).alloc _
  · exact (HB1.out.trans (HB2.out.mono HB1.out.size)).alloc hsz _
end
/-! ### The walk of a log's Add. -/
section
open Go.RowKit
set_option linter.unusedVariables false
theorem undrewL {B : Nat} {a w : World} (h : Below B a.drew w) : Below B a w := ⟨h.os, h.tape, h.output, h.size, h.block⟩
theorem own_ne {w : World} {b base : Nat} {T e : TypeId} {size n : Nat} {cs : Array Value} {v : Value} {xs : List Value} (hb : w.heap[b]? = some (.cells cs T (0, 0))) (hT : T ≠ e) (h : w.ownsRow base e size v n xs) : v.ownBlock ≠ some b := by
  rcases h.2 with ⟨rfl, _⟩ | ⟨g, cap, cur, rfl, _, hg, _⟩
  · simp [Value.ownBlock]
  · intro he
    have hgb : g = b := by simpa [Value.ownBlock] using he
    subst hgb
    rw [hb] at hg
    injection hg with hg
    injection hg with _ h2
    exact hT h2
/-- The parts of a log, for a walk that writes it. -/
theorem LogAt.parts {w : World} {B b : Nat} {x : LogV} (h : LogAt w B b x) : ∃ ao cap, B ≤ b ∧ w.heap[b]? = some (.cells #[.int .i64 x.base, .int .i64 x.term, .slice ao x.l.length cap] 94 (0, 0)) ∧ w.ownsRow B 51 4 (.slice ao x.l.length cap) x.l.length (entCells x.l) :=
  ⟨h.2.choose, h.2.choose_spec.choose, h.1, h.2.choose_spec.choose_spec.1, h.2.choose_spec.choose_spec.2⟩
/-- The log with a new list. -/
theorem LogAt.put {w w1 w2 : World} {B b n : Nat} {base term : Int} {v0 v : Value} {l : List Ent} {row : Option Nat} (hBb : B ≤ b) (hB : B ≤ w.heap.size)
    (hb : w1.heap[b]? = some (.cells #[.int .i64 base, .int .i64 term, v0] 94 (0, 0))) (h01 : Below B w w1) (hg : w1.grownBy w2 row) (hrow : ∀ k, row = some k → B ≤ k) (hne : row ≠ some b)
    (ho : w2.ownsRow B 51 4 v n (entCells l)) (hl : l.length = n) : LogAt (w2.setCell ⟨b, 2, none⟩ v) B b ⟨base, term, l⟩ ∧ Below B w (w2.setCell ⟨b, 2, none⟩ v) := by
  have hlt := blk_lt hb
  obtain ⟨ao, cap, rfl, _, _, _⟩ := own_shape ho
  have hb2 : w2.heap[b]? = some (.cells #[.int .i64 base, .int .i64 term, v0] 94 (0, 0)) := (hg.block b hlt (fun e => hne e.symm)).trans hb
  have hbs := blk_set hb2 2 (.slice ao n cap)
  have hob : (Value.slice ao n cap).ownBlock ≠ some b := own_ne hb2 (by decide) ho
  subst hl
  refine ⟨⟨hBb, ao, cap, ?_, ?_⟩, ?_⟩
  · rw [hbs]; rfl
  · exact ho.kept (grown_set w2 b 2 _) (.inr hob)
  · exact ((h01.trans (Below.grown (Below.refl B w1) hg (Nat.le_trans hB h01.size) hrow)).setCell hBb _)
theorem blk_step {w1 w2 : World} {b : Nat} {X : Obj} (hlt : b < w1.heap.size) (hbk : w1.heap[b]? = some X) (h12 : Below w1.heap.size w1 w2) (o : Obj) : (w2.alloc o).heap[b]? = some X :=
  (Below.heap_alloc w2 o b (Nat.lt_of_lt_of_le hlt h12.size)).trans ((h12.block b hlt).trans hbk)
/-- What an append to the log's list leaves, ahead of the store. -/
theorem log_grown {w0 w2 w3 : World} {o : Obj} {B b n0 : Nat} {base term : Int} {v0 : Value} {xs : List Value} (hg : (w2.alloc o).grownBy w3 v0.ownBlock) (hb : w0.heap[b]? = some (.cells #[.int .i64 base, .int .i64 term, v0] 94 (0, 0)))
    (h12 : Below w0.heap.size w0 w2) (ho : w0.ownsRow B 51 4 v0 n0 xs) : w3.cell? ⟨b, 2, none⟩ = some v0 ∧ w3.frozen? ⟨b, 2, none⟩ = false := by
  have hs := blk_step (blk_lt hb) hb h12 o
  have h3 : w3.heap[b]? = some (.cells #[.int .i64 base, .int .i64 term, v0] 94 (0, 0)) := (hg.block b (blk_lt hs) (fun e => own_ne hb (by decide) ho e.symm)).trans hs
  exact ⟨by rw [blk_cell h3]; rfl, blk_frozen h3 _⟩
def AddRes (B b : Nat) (x : LogV) (t k : Int) (d : ByteArray) (w : World) (e : Ending) (w' : World) : Prop :=
  e = .returned (.int .i64 ((lastV x).1 + 1)) ∧ LogAt w' B b ⟨x.base, x.term, x.l ++ [⟨(lastV x).1 + 1, t, k, d⟩]⟩ ∧ Below B w w'
/-- The same, and what it left as it was. -/
def AddResX (B b : Nat) (x : LogV) (t k : Int) (d : ByteArray) (w : World) (e : Ending) (w' : World) : Prop :=
  e = .returned (.int .i64 ((lastV x).1 + 1)) ∧ LogAt w' B b ⟨x.base, x.term, x.l ++ [⟨(lastV x).1 + 1, t, k, d⟩]⟩ ∧ Below B w w' ∧ Moved b w w'
set_option maxRecDepth 20000 in
set_option maxHeartbeats 400000 in
theorem add_anyX {w : World} {B b : Nat} {x : LogV} (h : LogAt w B b x) (t k : Int) (d : ByteArray) (hd : d.size ≤ 281474976710656) (hB : B ≤ w.heap.size) (hn : (x.l.length + 1) * 40 ≤ 140737488355328) (hla : -9223372036854775808 ≤ (lastV x).1) (hlb : (lastV x).1 < 9223372036854775807) :
    Calls Tryz.prog 57 #[.pointer (some ⟨b, 0, none⟩), .int .i64 t, .int .i64 k, .string d] w (AddResX B b x t k d w) := by
  have HL := Lib.hid (last_any h)
  have HW : Hid (IntKind.i64.wrap ((lastV x).1 + 1) = (lastV x).1 + 1) := Lib.hid (IntWalk.i64_in _ (by omega))
  have HH : Hid (LogAt w B b x) := Lib.hid h
  obtain ⟨i0, hi, hz0, hz1, hz2⟩ := info_parts entinfo
  have HI := Lib.hid (And.intro hi (And.intro hz0 (And.intro hz1 hz2)))
  unfold AddResX
  obtain ⟨u, hu⟩ : ∃ u, u = (lastV x).1 := ⟨_, rfl⟩
  obtain ⟨v, hv⟩ : ∃ v, v = (lastV x).2 := ⟨_, rfl⟩
  rw [← hu] at HW
  rw [← hu, ← hv] at HL
  rw [← hu]
  clear h hu hv hi hz0 hz1 hz2 hla hlb
  have hwu := HW.out
  go_enter Tryz.func57, Tryz.ntmps57
  go_wp2_with (go_at_call 65; refine (HL.out).mono ?_; rintro e w1 ⟨rfl, hb1⟩)
  obtain ⟨ao, cap, hBb, hbk, hown⟩ := (HH.out.below hb1 (Nat.le_refl _)).parts
  have hB1 : B ≤ w1.heap.size := Nat.le_trans hB hb1.size
  have hbw : Below B w w1 := hb1.mono hB
  have hlt := blk_lt hbk
  have hlw : b < w.heap.size := blk_lt HH.out.parts.choose_spec.choose_spec.2.1
  have HBW1 := Lib.hid hb1
  have hc2 : w1.cell? ⟨b, 2, none⟩ = some (.slice ao x.l.length cap) := by rw [blk_cell hbk]; rfl
  have HOwn := Lib.hid hown
  have HBk := Lib.hid hbk
  have HBW := Lib.hid hbw
  clear hown hbk hbw hb1

  go_region_law (first
    | (refine step_append_lies _ (by rfl) (.tmp 22) (.tmp 30) 22 (by rfl) B 51 i0 _ 4 40 Tryz.underlying22 HI.out.1 HI.out.2.1 HI.out.2.2.1 HI.out.2.2.2 (by rfl) (by omega) (.slice ao x.l.length cap) x.l.length (entCells x.l) (by rfl) (((HOwn.out).kept (row := none) ⟨HB2.out.os, HB2.out.tape, HB2.out.output, HB2.out.size, fun k hk _ => HB2.out.block k hk⟩ (by cases (Value.slice ao x.l.length cap).ownBlock <;> simp)).alloc _) ⟨w2.heap.size, 0, none⟩ 1 1 [.int .i64 (u + 1), .int .i64 t, .int .i64 k, .string d] (by rfl) (by rfl) (World.news_of_block (new_blk _ _)) (entCells_one [⟨u + 1, t, k, d⟩]) (by omega) (by unfold maxLen; omega) hn (Nat.le_trans hB1 (Nat.le_trans HB2.out.size (by simp))) _ rfl ?_; intro g cap3 w3 hown3 hg3 hat3 hlt3; have hc3 := log_grown hg3 HBk.out HB2.out HOwn.out; have hcc := hc3.1; have hff := hc3.2)
    | (go_simp; go_at_call 114; refine (clone_any _ _ hd).mono ?_; rintro e' w2 ⟨rfl, hb2⟩; have hc2' : w2.cell? ⟨b, 2, none⟩ = some (.slice ao x.l.length cap) := (hb2.cell (p := ⟨b, 2, none⟩) hlt).trans hc2; have hc2a : ∀ o, (w2.alloc o).cell? ⟨b, 2, none⟩ = some (.slice ao x.l.length cap) := fun o => (World.cell?_alloc_lt w2 o _ (Nat.lt_of_lt_of_le hlt hb2.size)).trans hc2'; have HB2 := Lib.hid (undrewL hb2); clear hb2))
  all_goals (
    go_wp2
    go_ret
    have hP := LogAt.put (l := x.l ++ [⟨u + 1, t, k, d⟩]) hBb hB (blk_step hlt HBk.out HB2.out _) ((HBW.out.trans (HB2.out.mono hB1)).alloc (Nat.le_trans hB1 HB2.out.size) _) hg3 (fun k' hk' => (HOwn.out.lt k' hk').1) (own_ne HBk.out (by decide) HOwn.out) (by rw [entCells_append]; exact hown3) (by simp)
    have hr0 : rowAt w b = (Value.slice ao x.l.length cap).ownBlock := (rowAt_below hlw HBW1.out).symm.trans (rowAt_of HBk.out)
    have h6 := blk_set ((hg3.block b (blk_lt (blk_step hlt HBk.out HB2.out _)) (fun e => own_ne HBk.out (by decide) HOwn.out e.symm)).trans (blk_step hlt HBk.out HB2.out _)) 2 (.slice (some ⟨g, 0, none⟩) (x.l.length + 1) cap3)
    have h7 := rowAt_of (u := .int .i64 x.base) (v := .int .i64 x.term) (x := .slice (some ⟨g, 0, none⟩) (x.l.length + 1) cap3) (T := 94) (h6.trans rfl)
    have hf0 : FarL b (rowAt w b) w w2 := FarL.ofBelow (HBW1.out.trans (HB2.out.mono HBW1.out.size))
    have hf2 := ((hf0.below ((Below.refl _ w2).alloc (Nat.le_refl _) (.cells #[.int .i64 (u + 1), .int .i64 t, .int .i64 k, .string d] 51))).grown hg3 (fun g hg _ => by rw [hr0]; exact hg)).set 2 (.slice (some ⟨g, 0, none⟩) (x.l.length + 1) cap3)
    have hmv : Moved b w (w3.setCell ⟨b, 2, none⟩ (.slice (some ⟨g, 0, none⟩) (x.l.length + 1) cap3)) := by
      refine ⟨hf2, fun g' hg' => ?_⟩
      rw [h7] at hg'
      rw [hr0]
      rcases hat3 with h8 | h8
      · exact .inl (h8.trans hg')
      · right
        injection hg' with hg'
        have := HBW1.out.size
        have := HB2.out.size
        have hgg : g = g' := by simpa using hg'
        simp at h8
        omega
    exact ⟨rfl, hP.1, hP.2, hmv⟩)
theorem add_any {w : World} {B b : Nat} {x : LogV} (h : LogAt w B b x) (t k : Int) (d : ByteArray) (hd : d.size ≤ 281474976710656) (hB : B ≤ w.heap.size) (hn : (x.l.length + 1) * 40 ≤ 140737488355328) (hla : -9223372036854775808 ≤ (lastV x).1) (hlb : (lastV x).1 < 9223372036854775807) :
    Calls Tryz.prog 57 #[.pointer (some ⟨b, 0, none⟩), .int .i64 t, .int .i64 k, .string d] w (AddRes B b x t k d w) :=
  (add_anyX h t k d hd hB hn hla hlb).mono fun _ _ h => ⟨h.1, h.2.1, h.2.2.1⟩
end
/-! ### What a log's Merge answers: plain laws. -/
section
open Go.RowKit
set_option linter.unusedVariables false
def scan (x : LogV) (keep : Int) : Nat → Nat → List Ent → Option Nat
  | _, f, [] => some f
  | k, f, e :: r => if (termV x e.ix).2 = true ∧ (termV x e.ix).1 = e.tm then scan x keep (k + 1) f r else if (termV x e.ix).2 = true ∧ e.ix ≤ keep then none else scan x keep (k + 1) (if f = 0 then k + 1 else f) r
/-- A log after Merge, and what it answers, by the first entry that is new. -/
def takeOf (x : LogV) (l : List Ent) (f : Nat) : Option Ent → LogV × Int × Bool
  | none => (x, 0, true)
  | some e => (⟨x.base, x.term, x.l.take (e.ix - x.base - 1).toNat ++ l.drop f⟩, e.ix, true)
def mergeOf (x : LogV) (l : List Ent) : Option Nat → LogV × Int × Bool
  | none => (x, 0, false)
  | some 0 => (x, 0, true)
  | some (f + 1) => takeOf x l f l[f]?
def mergeV (x : LogV) (prev term keep : Int) (l : List Ent) : LogV × Int × Bool :=
  if (termV x prev).2 = true ∧ (termV x prev).1 = term ∧ folB prev term l = true then mergeOf x l (scan x keep 0 0 l) else (x, 0, false)
theorem term_range {x : LogV} {p : Int} (h : (termV x p).2 = true) : x.base ≤ p ∧ p ≤ x.base + x.l.length := by
  unfold termV at h
  split at h
  · omega
  · unfold atV at h
    split at h
    · simp at h
    · omega
theorem scan_pos (x : LogV) (keep : Int) : ∀ (l : List Ent) (k f F : Nat), f ≠ 0 → scan x keep k f l = some F → F = f := by
  intro l
  induction l with
  | nil => intro k f F _ h; simp [scan] at h; omega
  | cons e r ih =>
    intro k f F hf h
    rw [scan] at h
    split at h
    · exact ih _ _ _ hf h
    · split at h
      · cases h
      · first | exact ih _ _ _ hf h | (rw [if_neg hf] at h; exact ih _ _ _ hf h)
theorem scan_first (x : LogV) (keep : Int) (h0 : 0 ≤ x.base) (h9 : x.base + x.l.length < 4611686018427387904) : ∀ (l : List Ent) (k F : Nat) (p t : Int), folB p t l = true → (termV x p).2 = true → scan x keep k 0 l = some F →
    F = 0 ∨ ∃ j e, F = k + j + 1 ∧ l[j]? = some e ∧ x.base < e.ix ∧ e.ix ≤ x.base + x.l.length + 1 := by
  intro l
  induction l with
  | nil => intro k F p t _ _ h; simp [scan] at h; exact .inl h.symm
  | cons e r ih =>
    intro k F p t hf hp h
    have hr := term_range hp
    have hix : e.ix = p + 1 ∧ folB e.ix e.tm r = true := by
      rw [folB] at hf
      split at hf
      · cases hf
      · rename_i hh
        have h1 : e.ix = wrap64 (p + 1) := Classical.byContradiction fun hc => hh (.inl hc)
        have hw : wrap64 (p + 1) = p + 1 := by unfold wrap64; omega
        exact ⟨by rw [h1, hw], hf⟩
    rw [scan] at h
    split at h
    · rename_i hm
      rcases ih (k + 1) F e.ix e.tm hix.2 hm.1 h with h0 | ⟨j, e', h1, h2, h3, h4⟩
      · exact .inl h0
      · exact .inr ⟨j + 1, e', by omega, by simpa using h2, h3, h4⟩
    · split at h
      · cases h
      · rw [if_pos rfl] at h
        have := scan_pos x keep r _ _ _ (by omega) h
        exact .inr ⟨0, e, by omega, rfl, by omega, by omega⟩
/-- A slice of entries from place f on. -/
theorem Ents.drop {w : World} {B : Nat} {g o n f : Nat} {l : List Ent} (h : Ents w B (some ⟨g, o, none⟩) n l) (hf : f < n) : Ents w B (some ⟨g, o + f * 4, none⟩) (n - f) (l.drop f) := by
  refine ⟨by rw [List.length_drop, h.1], fun _ => ?_⟩
  obtain ⟨b', o', ha, hb, hc⟩ := h.2 (by omega)
  injection ha with ha
  injection ha with h1 h2
  subst h1
  subst h2
  refine ⟨g, o + f * 4, rfl, hb, fun k e hk => ?_⟩
  rw [List.getElem?_drop] at hk
  have := hc _ _ hk
  rw [show o + f * 4 + k * 4 = o + (f + k) * 4 from by omega]
  exact this
/-- Entries do not lie in a log's own block. -/
theorem ents_ne {w : World} {b g o : Nat} {cs : Array Value} {T : TypeId} {e : Ent} (hb : w.heap[b]? = some (.cells cs T (0, 0))) (hs : cs.size = 3) (h : EntAt w g o e) : g ≠ b := by
  rintro rfl
  have := h.2.2.2
  rw [blk_cell hb, Array.getElem?_eq_none (by omega)] at this
  cases this
theorem entCells_take (l : List Ent) (k : Nat) : (entCells l).take (k * 4) = entCells (l.take k) := by
  induction l generalizing k with
  | nil => simp [entCells]
  | cons e l ih =>
    cases k with
    | zero => simp [entCells]
    | succ k =>
      show (e.cells ++ entCells l).take _ = e.cells ++ entCells (l.take k)
      have he : e.cells.length = 4 := rfl
      rw [List.take_append, he, show (k + 1) * 4 - 4 = k * 4 from by omega, ih, List.take_of_length_le (by omega)]
end
/-! ### The walk of a log's Merge. -/
section
open Go.RowKit
set_option linter.unusedVariables false
def MergeRes (B b : Nat) (r : LogV × Int × Bool) (w : World) (e : Ending) (w' : World) : Prop :=
  e = .returned (.tuple #[.int .i64 r.2.1, .bool r.2.2]) ∧ LogAt w' B b r.1 ∧ Below B w w'
/-- What a walk of Merge leans on. -/
structure MergeHyp (w : World) (B b : Nat) (x : LogV) (ao : Option Addr) (n : Nat) (l : List Ent) : Prop where
  log : LogAt w B b x
  hB : B ≤ w.heap.size
  ents : Ents w w.heap.size ao n l
  nil_ : ao = none → n = 0
  b0 : 0 ≤ x.base
  b9 : x.base + x.l.length < 4611686018427387904
  ix9 : ∀ e ∈ l, e.ix ≤ 9223372036854775807
  sz : (x.l.length + n) * 40 ≤ 140737488355328
  dt : ∀ e ∈ l, e.dt.size ≤ 281474976710656
theorem MergeHyp.term {w : World} {B b : Nat} {x : LogV} {ao : Option Addr} {n : Nat} {l : List Ent} (h : MergeHyp w B b x ao n l) (w1 : World) (hb : Below w.heap.size w w1) (i : Int) (hi : i ≤ 9223372036854775807) :
    Calls Tryz.prog 67 #[.pointer (some ⟨b, 0, none⟩), .int .i64 i] w1 fun e w' => e = .returned (.tuple #[.int .i64 (termV x i).1, .bool (termV x i).2]) ∧ Below w1.heap.size w1 w' :=
  term_any (h.log.below hb (Nat.le_refl _)) i h.b0 (by have := h.b9; omega) hi
theorem MergeHyp.follow {w : World} {B b : Nat} {x : LogV} {ao : Option Addr} {n : Nat} {l : List Ent} (h : MergeHyp w B b x ao n l) (w1 : World) (hb : Below w.heap.size w w1) (i t : Int) (c : Nat) :
    Calls Tryz.prog 183 #[.int .i64 i, .int .i64 t, .slice ao n c] w1 fun e w' => e = .returned (.bool (folB i t l)) ∧ Below w1.heap.size w1 w' :=
  follow_any i t ao n c l w1 ((h.ents.below hb).mono hb.size) (by have := h.sz; omega)
def MergeResX (B b : Nat) (r : LogV × Int × Bool) (w : World) (e : Ending) (w' : World) : Prop :=
  e = .returned (.tuple #[.int .i64 r.2.1, .bool r.2.2]) ∧ LogAt w' B b r.1 ∧ Below B w w' ∧ Moved b w w'
theorem LogAt.lt {w : World} {B b : Nat} {x : LogV} (h : LogAt w B b x) : b < w.heap.size := by
  obtain ⟨_, _, _, h, _⟩ := h.parts
  exact blk_lt h
theorem MergeHyp.stayX {w w' : World} {B b : Nat} {x : LogV} {ao : Option Addr} {n : Nat} {l : List Ent} (h : MergeHyp w B b x ao n l) (hb : Below w.heap.size w w') : LogAt w' B b x ∧ Below B w w' ∧ Moved b w w' :=
  ⟨h.log.below hb (Nat.le_refl _), hb.mono h.hB, Moved.ofBelow h.log.lt hb⟩
/-- Nothing is taken: the log stays. -/
theorem MergeHyp.stay {w w' : World} {B b : Nat} {x : LogV} {ao : Option Addr} {n : Nat} {l : List Ent} (h : MergeHyp w B b x ao n l) (hb : Below w.heap.size w w') : LogAt w' B b x ∧ Below B w w' :=
  ⟨h.log.below hb (Nat.le_refl _), hb.mono h.hB⟩
set_option maxHeartbeats 1000000 in
theorem merge_badX {w : World} {B b : Nat} {x : LogV} {ao : Option Addr} {n : Nat} {l : List Ent} (h : MergeHyp w B b x ao n l) (c : Nat) (prev term keep : Int) (hp : prev ≤ 9223372036854775807)
    (hbad : ¬ ((termV x prev).2 = true ∧ (termV x prev).1 = term ∧ folB prev term l = true)) :
    Calls Tryz.prog 59 #[.pointer (some ⟨b, 0, none⟩), .int .i64 prev, .int .i64 term, .int .i64 keep, .slice ao n c] w (MergeResX B b (mergeV x prev term keep l) w) := by
  have e : mergeV x prev term keep l = (x, 0, false) := by unfold mergeV; rw [if_neg hbad]
  rw [e]
  have HT := Lib.hid (h.term w (Below.refl _ _) prev hp)
  have HF := Lib.hid (fun w1 hb => h.follow w1 hb prev term c)
  obtain ⟨s, hs⟩ : ∃ s, s = (termV x prev).2 := ⟨_, rfl⟩
  obtain ⟨t, ht⟩ : ∃ t, t = (termV x prev).1 := ⟨_, rfl⟩
  obtain ⟨f, hf⟩ : ∃ f, f = folB prev term l := ⟨_, rfl⟩
  rw [← hs, ← ht, ← hf] at hbad
  rw [← hs, ← ht] at HT
  rw [← hf] at HF
  have HH := Lib.hid h
  clear h hs ht hf e
  cases s with
  | false =>
    clear hbad
    go_enter Tryz.func59, Tryz.ntmps59
    go_wp2_with (first | (go_at_call 67; refine (HT.out).mono ?_; rintro e w1 ⟨rfl, hb1⟩))
    go_ret2
    exact ⟨rfl, HH.out.stayX hb1⟩
  | true =>
    by_cases h1 : t = term
    · cases f with
      | true => exact absurd ⟨rfl, h1, rfl⟩ hbad
      | false =>
        subst h1
        clear hbad
        go_enter Tryz.func59, Tryz.ntmps59
        go_wp2_with (first | (go_at_call 67; refine (HT.out).mono ?_; rintro e w1 ⟨rfl, hb1⟩) | (go_at_call 183; refine (HF.out _ hb1).mono ?_; rintro e w2 ⟨rfl, hb2⟩))
        go_ret2
        exact ⟨rfl, HH.out.stayX (hb1.trans (hb2.mono hb1.size))⟩
    · have hd : (t != term) = true := by simpa using h1
      clear hbad
      go_enter Tryz.func59, Tryz.ntmps59
      go_wp2_with (first | (go_at_call 67; refine (HT.out).mono ?_; rintro e w1 ⟨rfl, hb1⟩))
      go_ret2
      exact ⟨rfl, HH.out.stayX hb1⟩
theorem merge_bad {w : World} {B b : Nat} {x : LogV} {ao : Option Addr} {n : Nat} {l : List Ent} (h : MergeHyp w B b x ao n l) (c : Nat) (prev term keep : Int) (hp : prev ≤ 9223372036854775807)
    (hbad : ¬ ((termV x prev).2 = true ∧ (termV x prev).1 = term ∧ folB prev term l = true)) :
    Calls Tryz.prog 59 #[.pointer (some ⟨b, 0, none⟩), .int .i64 prev, .int .i64 term, .int .i64 keep, .slice ao n c] w (MergeRes B b (mergeV x prev term keep l) w) :=
  (merge_badX h c prev term keep hp hbad).mono fun _ _ h => ⟨h.1, h.2.1, h.2.2.1⟩
end
/-! ### Slicing a list of entries. -/
section
open Go.RowKit
theorem sliceE_l (w : World) (g o n c f : Nat) (h1 : f ≤ n) (h2 : f < c) :
    (Instr.sliceAt 22 (.slice (some ⟨g, o, none⟩) n c) (some (.int .i64 (f : Int))) none none).run Tryz.prog w = .ok (.slice (some ⟨g, o + f * 4, none⟩) (n - f) (c - f)) w := by
  have hun : Tryz.prog.underlying 22 = some (.slice (Tryz.prog.elem 22)) := by kernel_rfl
  have hs : (sizeOf (Tryz.prog.elem 22)).run Tryz.prog w = .ok 4 w := by kernel_rfl
  rw [run_sliceAt_slice _ _ _ _ _ _ hun, run_slice_l w _ _ _ _ hun .i64 (f : Int) (by omega) (by omega), hs]
  have hcf : c ≠ f := by omega
  simp [sliced, hcf, Addr.add]
theorem sliceE_hm (w : World) (ao : Option Addr) (n c k : Nat) (h2 : k ≤ c) :
    (Instr.sliceAt 22 (.slice ao n c) none (some (.int .i64 (k : Int))) (some (.int .i64 (k : Int)))).run Tryz.prog w = .ok (.slice ao k k) w := by
  have hun : Tryz.prog.underlying 22 = some (.slice (Tryz.prog.elem 22)) := by kernel_rfl
  have hs : (sizeOf (Tryz.prog.elem 22)).run Tryz.prog w = .ok 4 w := by kernel_rfl
  rw [run_sliceAt_slice _ _ _ _ _ _ hun, run_slice_hm w _ _ _ _ hun .i64 .i64 (k : Int) (k : Int) (by omega) (by omega) (by omega), hs]
  cases ao <;> simp [sliced, Addr.add]
end
/-! ### The walk of a log's Merge, the good way in. -/
section
open Go.RowKit
set_option linter.unusedVariables false
/-- An entry just loaded into a block of its own. -/
theorem EntAt.fresh (w : World) (e : Ent) (t : TypeId) : EntAt (w.alloc (.cells #[.int .i64 e.ix, .int .i64 e.tm, .int .i64 e.kd, .string e.dt] t)) w.heap.size 0 e := by
  refine ⟨?_, ?_, ?_, ?_⟩ <;> rw [World.cell?_alloc_new] <;> rfl
set_option maxRecDepth 20000 in
set_option maxHeartbeats 4000000 in
theorem merge_goodX {w : World} {B b : Nat} {x : LogV} {ao : Option Addr} {n : Nat} {l : List Ent} (h : MergeHyp w B b x ao n l) (c : Nat) (hnc : n ≤ c) (prev term keep : Int) (hp : prev ≤ 9223372036854775807)
    (hok : (termV x prev).2 = true ∧ (termV x prev).1 = term ∧ folB prev term l = true) :
    Calls Tryz.prog 59 #[.pointer (some ⟨b, 0, none⟩), .int .i64 prev, .int .i64 term, .int .i64 keep, .slice ao n c] w (MergeResX B b (mergeV x prev term keep l) w) := by
  have hv : mergeV x prev term keep l = mergeOf x l (scan x keep 0 0 l) := by unfold mergeV; rw [if_pos hok]
  rw [hv]
  clear hv
  have HT := h.term w (Below.refl _ _) prev hp
  have HF := Lib.hid (fun w1 hb => h.follow w1 hb prev term c)
  have HS := Lib.hid (scan_first x keep h.b0 h.b9 l 0 · prev term hok.2.2 hok.1)
  rw [hok.1, hok.2.1] at HT
  rw [hok.2.2] at HF
  have HT0 := Lib.hid HT
  have HH := Lib.hid h
  have hnl := h.sz
  clear h hok HT
  obtain ⟨R, hR⟩ : ∃ R, R = scan x keep 0 0 l := ⟨_, rfl⟩
  rw [← hR]
  have HR := Lib.hid hR
  clear hR
  go_enter Tryz.func59, Tryz.ntmps59
  go_wp2_with (first | (go_at_call 67; refine (HT0.out).mono ?_; rintro e w1 ⟨rfl, hb1⟩; have HB1 := Lib.hid hb1; clear hb1) | (go_at_call 183; refine (HF.out _ HB1.out).mono ?_; rintro e w2 ⟨rfl, hb2⟩; have HB2 := Lib.hid (HB1.out.trans (hb2.mono HB1.out.size)); clear hb2))
  clear HT0 HF
  go_loopw [14, 41] (fun y z wr => ∃ (k f : Nat), k ≤ n ∧ f ≤ k ∧ y = .int .i64 f ∧ z = .int .i64 k ∧ Hid (scan x keep k f (l.drop k) = R) ∧ Below w.heap.size w wr) (fun _ z _ => n - (intOf z).toNat)
  case atStart => exact ⟨0, 0, Nat.zero_le _, Nat.le_refl _, rfl, rfl, Lib.hid (by rw [List.drop_zero]; exact HR.out.symm), HB2.out⟩
  case round =>
    obtain ⟨k, f, hk, hfk, rfl, rfl, hf, hb⟩ := hrel
    have HB := Lib.hid hb
    have hBr : w.heap.size ≤ wr.heap.size := hb.size
    clear hb
    by_cases hlt : k < n
    · obtain ⟨g, o, e, rfl, hgB, hek, h1, h2, h3, h4⟩ := (HH.out.ents.below HB.out).get hlt
      have hix : e.ix ≤ 9223372036854775807 := HH.out.ix9 e (List.mem_of_getElem? hek)
      have hdrop : l.drop k = e :: l.drop (k + 1) := by
        have hk' : k < l.length := (List.getElem?_eq_some_iff.1 hek).1
        rw [List.drop_eq_getElem_cons hk']
        congr 1
        exact (List.getElem?_eq_some_iff.1 hek).2
      rw [hdrop, scan] at hf
      have HTk := Lib.hid (fun w1 hb => HH.out.term w1 hb e.ix hix)
      obtain ⟨s, hs⟩ : ∃ s, s = (termV x e.ix).2 := ⟨_, rfl⟩
      obtain ⟨t, ht⟩ : ∃ t, t = (termV x e.ix).1 := ⟨_, rfl⟩
      rw [← hs, ← ht] at hf HTk
      clear hs ht hek hdrop hix
      have hx1 : (0 : Int) ≤ k := by omega
      have hx2 : (k : Int) < n := by omega
      have hn9 : n ≤ 9223372036854775807 := by omega
      by_cases hm : s = true ∧ t = e.tm
      · rw [if_pos hm] at hf
        have HX := hf
        obtain ⟨rfl, rfl⟩ := hm
        clear hf
        go_wp2_with (first | (go_at_call 67; refine (HTk.out _ (HB.out.alloc hBr _)).mono ?_; rintro e' w3 ⟨rfl, hb3⟩; have hc0 : w3.cell? ⟨wr.heap.size, 0, none⟩ = some (.int .i64 e.ix) := (hb3.cell (p := ⟨wr.heap.size, 0, none⟩) (by simp)).trans (EntAt.fresh wr e _).1; have hc1 : w3.cell? ⟨wr.heap.size, 1, none⟩ = some (.int .i64 e.tm) := (hb3.cell (p := ⟨wr.heap.size, 1, none⟩) (by simp)).trans (EntAt.fresh wr e _).2.1; have HB3 := Lib.hid ((HB.out.alloc hBr _).trans (hb3.mono (Nat.le_trans hBr (by simp)))); clear hb3))
        go_roundw
        case rel => exact ⟨k + 1, f, by omega, by omega, by go_num, by go_num, HX, HB3.out⟩
        case measure => simp [intOf]; omega
      · rw [if_neg hm] at hf
        by_cases hq : s = true ∧ e.ix ≤ keep
        · rw [if_pos hq] at hf
          have hR := hf.out
          subst hR
          obtain ⟨rfl, hq2⟩ := hq
          have hd1 : (t == e.tm) = false := by rw [beq_eq_false_iff_ne]; exact fun h => hm ⟨rfl, h⟩
          have hd2 : decide (e.ix ≤ keep) = true := by simpa using hq2
          clear hf hm hq2
          go_wp2_with (first | (go_at_call 67; refine (HTk.out _ (HB.out.alloc hBr _)).mono ?_; rintro e' w3 ⟨rfl, hb3⟩; have hc0 : w3.cell? ⟨wr.heap.size, 0, none⟩ = some (.int .i64 e.ix) := (hb3.cell (p := ⟨wr.heap.size, 0, none⟩) (by simp)).trans (EntAt.fresh wr e _).1; have hc1 : w3.cell? ⟨wr.heap.size, 1, none⟩ = some (.int .i64 e.tm) := (hb3.cell (p := ⟨wr.heap.size, 1, none⟩) (by simp)).trans (EntAt.fresh wr e _).2.1; have HB3 := Lib.hid ((HB.out.alloc hBr _).trans (hb3.mono (Nat.le_trans hBr (by simp)))); clear hb3))
          go_ret2
          exact ⟨rfl, HH.out.stayX HB3.out⟩
        · rw [if_neg hq] at hf
          by_cases hf0 : f = 0
          · rw [if_pos hf0] at hf
            have HX := hf
            subst hf0
            clear hf
            cases s with
            | false =>
              clear hm hq
              go_wp2_with (first | (go_at_call 67; refine (HTk.out _ (HB.out.alloc hBr _)).mono ?_; rintro e' w3 ⟨rfl, hb3⟩; have hc0 : w3.cell? ⟨wr.heap.size, 0, none⟩ = some (.int .i64 e.ix) := (hb3.cell (p := ⟨wr.heap.size, 0, none⟩) (by simp)).trans (EntAt.fresh wr e _).1; have hc1 : w3.cell? ⟨wr.heap.size, 1, none⟩ = some (.int .i64 e.tm) := (hb3.cell (p := ⟨wr.heap.size, 1, none⟩) (by simp)).trans (EntAt.fresh wr e _).2.1; have HB3 := Lib.hid ((HB.out.alloc hBr _).trans (hb3.mono (Nat.le_trans hBr (by simp)))); clear hb3))
              go_roundw
              case rel => exact ⟨k + 1, k + 1, by omega, by omega, by go_num, by go_num, HX, HB3.out⟩
              case measure => simp [intOf]; omega
            | true =>
              have hd1 : (t == e.tm) = false := by rw [beq_eq_false_iff_ne]; exact fun h => hm ⟨rfl, h⟩
              have hd2 : decide (e.ix ≤ keep) = false := by rw [decide_eq_false_iff_not]; exact fun h => hq ⟨rfl, h⟩
              clear hm hq
              go_wp2_with (first | (go_at_call 67; refine (HTk.out _ (HB.out.alloc hBr _)).mono ?_; rintro e' w3 ⟨rfl, hb3⟩; have hc0 : w3.cell? ⟨wr.heap.size, 0, none⟩ = some (.int .i64 e.ix) := (hb3.cell (p := ⟨wr.heap.size, 0, none⟩) (by simp)).trans (EntAt.fresh wr e _).1; have hc1 : w3.cell? ⟨wr.heap.size, 1, none⟩ = some (.int .i64 e.tm) := (hb3.cell (p := ⟨wr.heap.size, 1, none⟩) (by simp)).trans (EntAt.fresh wr e _).2.1; have HB3 := Lib.hid ((HB.out.alloc hBr _).trans (hb3.mono (Nat.le_trans hBr (by simp)))); clear hb3))
              go_roundw
              case rel => exact ⟨k + 1, k + 1, by omega, by omega, by go_num, by go_num, HX, HB3.out⟩
              case measure => simp [intOf]; omega
          · rw [if_neg hf0] at hf
            have HX := hf
            have hd3 : ((f : Int) == 0) = false := by rw [beq_eq_false_iff_ne]; omega
            clear hf hf0
            cases s with
            | false =>
              clear hm hq
              go_wp2_with (first | (go_at_call 67; refine (HTk.out _ (HB.out.alloc hBr _)).mono ?_; rintro e' w3 ⟨rfl, hb3⟩; have hc0 : w3.cell? ⟨wr.heap.size, 0, none⟩ = some (.int .i64 e.ix) := (hb3.cell (p := ⟨wr.heap.size, 0, none⟩) (by simp)).trans (EntAt.fresh wr e _).1; have hc1 : w3.cell? ⟨wr.heap.size, 1, none⟩ = some (.int .i64 e.tm) := (hb3.cell (p := ⟨wr.heap.size, 1, none⟩) (by simp)).trans (EntAt.fresh wr e _).2.1; have HB3 := Lib.hid ((HB.out.alloc hBr _).trans (hb3.mono (Nat.le_trans hBr (by simp)))); clear hb3))
              go_roundw
              case rel => exact ⟨k + 1, f, by omega, by omega, by go_num, by go_num, HX, HB3.out⟩
              case measure => simp [intOf]; omega
            | true =>
              have hd1 : (t == e.tm) = false := by rw [beq_eq_false_iff_ne]; exact fun h => hm ⟨rfl, h⟩
              have hd2 : decide (e.ix ≤ keep) = false := by rw [decide_eq_false_iff_not]; exact fun h => hq ⟨rfl, h⟩
              clear hm hq
              go_wp2_with (first | (go_at_call 67; refine (HTk.out _ (HB.out.alloc hBr _)).mono ?_; rintro e' w3 ⟨rfl, hb3⟩; have hc0 : w3.cell? ⟨wr.heap.size, 0, none⟩ = some (.int .i64 e.ix) := (hb3.cell (p := ⟨wr.heap.size, 0, none⟩) (by simp)).trans (EntAt.fresh wr e _).1; have hc1 : w3.cell? ⟨wr.heap.size, 1, none⟩ = some (.int .i64 e.tm) := (hb3.cell (p := ⟨wr.heap.size, 1, none⟩) (by simp)).trans (EntAt.fresh wr e _).2.1; have HB3 := Lib.hid ((HB.out.alloc hBr _).trans (hb3.mono (Nat.le_trans hBr (by simp)))); clear hb3))
              go_roundw
              case rel => exact ⟨k + 1, f, by omega, by omega, by go_num, by go_num, HX, HB3.out⟩
              case measure => simp [intOf]; omega
    · have hkn : n = k := by omega
      subst hkn
      have hl := HH.out.ents.1
      rw [List.drop_of_length_le (by omega), scan] at hf
      have hf' := hf.out
      subst hf'
      cases f with
      | zero =>
        go_wp2
        go_ret2
        exact ⟨rfl, HH.out.stayX HB.out⟩
      | succ f =>
        obtain ⟨j, e, hj, hej, hlo, hhi⟩ := (HS.out (f + 1) HR.out.symm).resolve_left (by omega)
        have hjf : j = f := by omega
        subst hjf
        obtain ⟨K, hK⟩ : ∃ K : Nat, (K : Int) = e.ix - x.base - 1 := ⟨(e.ix - x.base - 1).toNat, by omega⟩
        have hjn : j < n := by omega
        obtain ⟨g, o, e', rfl, hgB, hek, h1, h2, h3, h4⟩ := (HH.out.ents.below HB.out).get hjn
        rw [hej] at hek
        injection hek with hek
        subst hek
        have hres : mergeOf x l (some (j + 1)) = (⟨x.base, x.term, x.l.take K ++ l.drop j⟩, e.ix, true) := by
          show takeOf x l j l[j]? = _
          rw [hej]
          show (_, _, _) = _
          rw [show (e.ix - x.base - 1).toNat = K from by omega]
        have HRes := Lib.hid hres
        have HLg := HH.out.log.below HB.out (Nat.le_refl _)
        obtain ⟨ao2, cap2, hBb, hbk, hown⟩ := HLg.parts
        have hblt := blk_lt hbk
        have hKl : K ≤ x.l.length := by omega
        have hKc : K ≤ cap2 := by
          obtain ⟨_, _, hv, hle, _⟩ := own_shape hown
          injection hv with _ _ hv
          omega
        have hgb : g ≠ b := ents_ne hbk rfl ⟨h1, h2, h3, h4⟩
        have c0 : wr.cell? ⟨b, 0, none⟩ = some (.int .i64 x.base) := by rw [blk_cell hbk]; rfl
        have c2 : wr.cell? ⟨b, 2, none⟩ = some (.slice ao2 x.l.length cap2) := by rw [blk_cell hbk]; rfl
        have hs1 := fun W => sliceE_l W g o n c j (by omega) (by omega)
        have hs2 := fun W => sliceE_hm W ao2 x.l.length cap2 K hKc
        have hw0 : IntKind.i64.wrap (((j + 1 : Nat) : Int) - 1) = (j : Int) := by rw [IntWalk.i64_in _ (by omega)]; omega
        have hw0' : IntKind.i64.wrap ((j : Int) + 1 - 1) = (j : Int) := by rw [IntWalk.i64_in _ (by omega)]; omega
        have hw1 : IntKind.i64.wrap (e.ix - x.base) = (K : Int) + 1 := by rw [IntWalk.i64_in _ (by have := HH.out.b0; have := HH.out.b9; omega)]; omega
        have hw2 : IntKind.i64.wrap ((K : Int) + 1 - 1) = (K : Int) := by rw [IntWalk.i64_in _ (by omega)]; omega
        have hd3 : (((j + 1 : Nat) : Int) == 0) = false := by rw [beq_eq_false_iff_ne]; omega
        have hd4 : (((j : Int) + 1) == 0) = false := by rw [beq_eq_false_iff_ne]; omega
        have hx9 : j + 1 ≤ 9223372036854775807 := by omega
        have HOwn := Lib.hid hown
        have HBk := Lib.hid hbk
        clear hown hbk hlo hhi hK hres h2 h3 h4 hj
        have hgr : g < wr.heap.size := Nat.lt_of_lt_of_le hgB hBr
        have hnj : 0 < n - j := by omega
        have hwK : IntKind.i64.wrap (K : Int) = (K : Int) := IntWalk.i64_in _ (by have := HH.out.b0; have := HH.out.b9; omega)
        have hK0 : (0 : Int) ≤ (K : Int) := by omega
        have hKc9 : (K : Int) ≤ (cap2 : Int) := by omega
        obtain ⟨i0, hi, hz0, hz1, hz2⟩ := info_parts entinfo
        have HI := Lib.hid (And.intro hi (And.intro hz0 (And.intro hz1 hz2)))
        have hNone : ao2 = none → K = 0 ∧ K = 0 := fun h => by
          obtain ⟨_, _, hv, _, h0, _⟩ := own_shape HOwn.out
          injection hv with hv _ _
          have := h0 (hv ▸ h)
          omega
        have hLenT : (entCells (x.l.take K)).length = K * 4 := by rw [entCells_len, List.length_take, Nat.min_eq_left hKl]
        have hLenD : (entCells (l.drop j)).length = (n - j) * 4 := by rw [entCells_len, List.length_drop, hl]
        have HOlds : Hid (∀ W, Below wr.heap.size wr W → ∀ b', ao2 = some b' → ∀ q u, (entCells (x.l.take K))[q]? = some u → W.cell? (b'.add q) = some u) := Lib.hid (by
          intro W hbW b' hb' q u hq
          have hE := (ents_own HOwn.out).below hbW
          subst hb'
          refine hE.cells q u ?_
          rw [← entCells_take, List.getElem?_take] at hq
          split at hq
          · exact hq
          · cases hq)
        have HOwnC : Hid (∀ W, Below w.heap.size w W → Calls Tryz.prog 184 #[.slice (some ⟨g, o + j * 4, none⟩) (n - j) (c - j)] W (OwnsEnts W.heap.size (n - j) (l.drop j) W)) := Lib.hid (fun W hbW =>
          own_any _ _ _ _ _ (((HH.out.ents.below hbW).mono hbW.size).drop hjn) (by omega) (by simp) (fun e' he' => HH.out.dt e' (List.mem_of_mem_drop he')))
        have HAfter : Hid (∀ w4 w5 : World, Below wr.heap.size wr w4 → w4.grownBy w5 none → w5.cell? ⟨b, 0, none⟩ = some (.int .i64 x.base) ∧ w5.cell? ⟨g, o + j * 4, none⟩ = some (.int .i64 e.ix) ∧ w5.cell? ⟨b, 2, none⟩ = some (.slice ao2 x.l.length cap2) ∧ w5.frozen? ⟨b, 2, none⟩ = false ∧
            ∀ v, (w5.setCell ⟨b, 2, none⟩ v).cell? ⟨b, 0, none⟩ = some (.int .i64 x.base) ∧ (w5.setCell ⟨b, 2, none⟩ v).cell? ⟨g, o + j * 4, none⟩ = some (.int .i64 e.ix)) := Lib.hid (by
          intro w4 w5 hb4 hg5
          have hk4 := (hb4.block b hblt).trans HBk.out
          have hk5 := (hg5.block b (blk_lt hk4) (by simp)).trans hk4
          have hq : w5.heap[g]? = wr.heap[g]? := (hg5.block g (Nat.lt_of_lt_of_le hgr hb4.size) (by simp)).trans (hb4.block g hgr)
          have hc : w5.cell? ⟨g, o + j * 4, none⟩ = some (.int .i64 e.ix) := (World.cell?_of_block (w := wr) (a := ⟨g, o + j * 4, none⟩) hq).trans h1
          refine ⟨by rw [blk_cell hk5]; rfl, hc, by rw [blk_cell hk5]; rfl, blk_frozen hk5 _, fun v => ⟨by rw [blk_cell (blk_set hk5 2 v)]; rfl, ?_⟩⟩
          exact (World.cell?_of_block (w := w5) (a := ⟨g, o + j * 4, none⟩) ((grown_set w5 b 2 v).block g (by rw [show w5.heap[g]? = wr.heap[g]? from hq] at *; exact Nat.lt_of_lt_of_le (Nat.lt_of_lt_of_le hgr hb4.size) hg5.size) (by simp; exact hgb))).trans hc)
        have HFin : Hid (∀ (w4 w5 : World) (v5 : Value), Below wr.heap.size wr w4 → w4.grownBy w5 none → w5.ownsRow w4.heap.size 51 4 v5 (K + (n - j)) (entCells (x.l.take K) ++ entCells (l.drop j)) →
            LogAt (w5.setCell ⟨b, 2, none⟩ v5) B b ⟨x.base, x.term, x.l.take K ++ l.drop j⟩ ∧ Below B w (w5.setCell ⟨b, 2, none⟩ v5) ∧ Moved b w (w5.setCell ⟨b, 2, none⟩ v5)) := Lib.hid (by
          intro w4 w5 v5 hb4 hg5 ho5
          have hBw : B ≤ wr.heap.size := Nat.le_trans HH.out.hB hBr
          have hP := LogAt.put hBb HH.out.hB ((hb4.block b hblt).trans HBk.out) ((HB.out.mono HH.out.hB).trans (hb4.mono hBw)) hg5 (by simp) (by simp)
            (by rw [entCells_append]; exact own_mono ho5 (Nat.le_trans hBw hb4.size)) (by rw [List.length_append, List.length_take, List.length_drop, Nat.min_eq_left hKl, hl])
          refine ⟨hP.1, hP.2, ((((FarL.ofBelow HB.out).below hb4).grown hg5 (by simp)).set 2 v5), fun g' hg' => .inr ?_⟩
          obtain ⟨ao5, cap5, hv5, _⟩ := own_shape ho5
          have hk5 := (hg5.block b (blk_lt ((hb4.block b hblt).trans HBk.out)) (by simp)).trans ((hb4.block b hblt).trans HBk.out)
          have h6 := blk_set hk5 2 v5
          have h7 := rowAt_of (w := w5.setCell ⟨b, 2, none⟩ v5) (b := b) (u := .int .i64 x.base) (v := .int .i64 x.term) (x := v5) (T := 94) (h6.trans rfl)
          rw [h7] at hg'
          have := (ho5.lt g' hg').1
          have := hb4.size
          omega)
        go_wp2_with fail
        refine wp_region_held_drew (S := fun W => W.cell? ⟨b, 0, none⟩ = some (.int .i64 x.base) ∧ W.cell? ⟨g, o + j * 4, none⟩ = some (.int .i64 e.ix)) (by kernel_rfl) ⟨c0, h1⟩ (fun hHeld => ?_)
        refine wpAnyH_take (i := 0) (v := ?v1) rfl (by kernel_rfl) (by kernel_rfl) (by kernel_rfl) (fun _ _ _ h => h) (Or.inl ⟨by rfl, ?y1⟩) (by assumption) ?r1
        case y1 => (intro W hSW; (try dsimp only at hSW); go_simp; try with_reducible rfl)
        (try simp only [Act.put, List.setIfInBounds_toArray, List.set_cons_zero, List.set_cons_succ])
        refine wpAnyH_take (i := 1) (v := ?v2) rfl (by kernel_rfl) (by kernel_rfl) (by kernel_rfl) (fun _ _ _ h => h) (Or.inl ⟨by rfl, ?y2⟩) (by assumption) ?r2
        case y2 => (intro W hSW; (try dsimp only at hSW); go_simp; try with_reducible rfl)
        (try simp only [Act.put, List.setIfInBounds_toArray, List.set_cons_zero, List.set_cons_succ])
        refine wpAnyH_take (i := 2) (v := ?v3) rfl (by kernel_rfl) (by kernel_rfl) (by kernel_rfl) (fun _ _ _ h => h) (Or.inl ⟨by rfl, ?y3⟩) (by assumption) ?r3
        case y3 => (intro W hSW; (try dsimp only at hSW); go_simp; try with_reducible rfl)
        (try simp only [Act.put, List.setIfInBounds_toArray, List.set_cons_zero, List.set_cons_succ])
        refine wpAnyH_take (i := 3) (v := ?v4) rfl (by kernel_rfl) (by kernel_rfl) (by kernel_rfl) (fun _ _ _ h => h) (Or.inl ⟨by rfl, ?y4⟩) (by assumption) ?r4
        case y4 => (intro W hSW; (try dsimp only at hSW); go_simp; try with_reducible rfl)
        (try simp only [Act.put, List.setIfInBounds_toArray, List.set_cons_zero, List.set_cons_succ])
        refine wpAnyH_take (i := 5) (v := ?v5) rfl (by kernel_rfl) (by kernel_rfl) (by kernel_rfl) (fun _ _ _ h => h) (Or.inl ⟨by rfl, ?y5⟩) (by assumption) ?r5
        case y5 => (intro W hSW; (try dsimp only at hSW); go_simp; try with_reducible rfl)
        (try simp only [Act.put, List.setIfInBounds_toArray, List.set_cons_zero, List.set_cons_succ])
        refine wpAnyH_take (i := 6) (v := ?v6) rfl (by kernel_rfl) (by kernel_rfl) (by kernel_rfl) (fun _ _ _ h => h) (Or.inl ⟨by rfl, ?y6⟩) (by assumption) ?r6
        case y6 => (intro W hSW; (try dsimp only at hSW); go_simp; try with_reducible rfl)
        (try simp only [Act.put, List.setIfInBounds_toArray, List.set_cons_zero, List.set_cons_succ])
        refine wpAnyH_take (i := 7) (v := ?v7) rfl (by kernel_rfl) (by kernel_rfl) (by kernel_rfl) (fun _ _ _ h => h) (Or.inl ⟨by rfl, ?y7⟩) (by assumption) ?r7
        case y7 => (intro W hSW; (try dsimp only at hSW); go_simp; try with_reducible rfl)
        (try simp only [Act.put, List.setIfInBounds_toArray, List.set_cons_zero, List.set_cons_succ])
        refine wpAnyH_take (i := 8) (v := ?v8) rfl (by kernel_rfl) (by kernel_rfl) (by kernel_rfl) (fun _ _ _ h => h) (Or.inl ⟨by rfl, ?y8⟩) (by assumption) ?r8
        case y8 => (intro W hSW; (try dsimp only at hSW); go_simp; try with_reducible rfl)
        (try simp only [Act.put, List.setIfInBounds_toArray, List.set_cons_zero, List.set_cons_succ])
        refine wpAnyH_take (i := 9) (v := ?v9) rfl (by kernel_rfl) (by kernel_rfl) (by kernel_rfl) (fun _ _ _ h => h) (Or.inl ⟨by rfl, ?y9⟩) (by assumption) ?r9
        case y9 => (intro W hSW; (try dsimp only at hSW); go_simp; try with_reducible rfl)
        (try simp only [Act.put, List.setIfInBounds_toArray, List.set_cons_zero, List.set_cons_succ])
        refine wpAnyH_take (i := 10) (v := ?v10) rfl (by kernel_rfl) (by kernel_rfl) (by kernel_rfl) (fun _ _ _ h => h) (Or.inl ⟨by rfl, ?y10⟩) (by assumption) ?r10
        case y10 => (intro W hSW; (try dsimp only at hSW); go_simp; try with_reducible rfl)
        (try simp only [Act.put, List.setIfInBounds_toArray, List.set_cons_zero, List.set_cons_succ])
        refine wpAnyH_take (i := 11) (v := ?v11) rfl (by kernel_rfl) (by kernel_rfl) (by kernel_rfl) (fun _ _ _ h => h) (Or.inl ⟨by rfl, ?y11⟩) (by assumption) ?r11
        case y11 => (intro W hSW; (try dsimp only at hSW); go_simp; try with_reducible rfl)
        (try simp only [Act.put, List.setIfInBounds_toArray, List.set_cons_zero, List.set_cons_succ])
        refine wpAnyH_take (i := 12) (v := ?v12) rfl (by kernel_rfl) (by kernel_rfl) (by kernel_rfl) (fun _ _ _ h => h) (Or.inl ⟨by rfl, ?y12⟩) (by assumption) ?r12
        case y12 => (intro W hSW; (try dsimp only at hSW); go_simp; try with_reducible rfl)
        (try simp only [Act.put, List.setIfInBounds_toArray, List.set_cons_zero, List.set_cons_succ])
        refine wpAnyH_take (i := 13) (v := ?v13) rfl (by kernel_rfl) (by kernel_rfl) (by kernel_rfl) (fun _ _ _ h => h) (Or.inl ⟨by rfl, ?y13⟩) (by assumption) ?r13
        case y13 => (intro W hSW; (try dsimp only at hSW); go_simp; try with_reducible rfl)
        (try simp only [Act.put, List.setIfInBounds_toArray, List.set_cons_zero, List.set_cons_succ])
        refine wpAnyH_take (i := 14) (v := ?v14) rfl (by kernel_rfl) (by kernel_rfl) (by kernel_rfl) (fun _ _ _ h => h) (Or.inl ⟨by rfl, ?y14⟩) (by assumption) ?r14
        case y14 => (intro W hSW; (try dsimp only at hSW); go_simp; try with_reducible rfl)
        (try simp only [Act.put, List.setIfInBounds_toArray, List.set_cons_zero, List.set_cons_succ])
        refine wpAnyH_take (i := 15) (v := ?v15) rfl (by kernel_rfl) (by kernel_rfl) (by kernel_rfl) (fun _ _ _ h => h) (Or.inl ⟨by rfl, ?y15⟩) (by assumption) ?r15
        case y15 => (intro W hSW; (try dsimp only at hSW); go_simp; try with_reducible rfl)
        (try simp only [Act.put, List.setIfInBounds_toArray, List.set_cons_zero, List.set_cons_succ])
        refine wpAnyH_take (i := 16) (v := ?v16) rfl (by kernel_rfl) (by kernel_rfl) (by kernel_rfl) (fun _ _ _ h => h) (Or.inl ⟨by rfl, ?y16⟩) (by assumption) ?r16
        case y16 => (intro W hSW; (try dsimp only at hSW); go_simp; try with_reducible rfl)
        (try simp only [Act.put, List.setIfInBounds_toArray, List.set_cons_zero, List.set_cons_succ])
        refine wpAnyH_take (i := 17) (v := ?v17) rfl (by kernel_rfl) (by kernel_rfl) (by kernel_rfl) (fun _ _ _ h => h) (Or.inl ⟨by rfl, ?y17⟩) (by assumption) ?r17
        case y17 => (intro W hSW; (try dsimp only at hSW); go_simp; try with_reducible rfl)
        (try simp only [Act.put, List.setIfInBounds_toArray, List.set_cons_zero, List.set_cons_succ])
        refine wpAnyH_take (i := 18) (v := ?v18) rfl (by kernel_rfl) (by kernel_rfl) (by kernel_rfl) (fun _ _ _ h => h) (Or.inl ⟨by rfl, ?y18⟩) (by assumption) ?r18
        case y18 => (intro W hSW; (try dsimp only at hSW); go_simp; try with_reducible rfl)
        (try simp only [Act.put, List.setIfInBounds_toArray, List.set_cons_zero, List.set_cons_succ])
        refine wpAnyH_take (i := 19) (v := ?v19) rfl (by kernel_rfl) (by kernel_rfl) (by kernel_rfl) (fun _ _ _ h => h) (Or.inl ⟨by rfl, ?y19⟩) (by assumption) ?r19
        case y19 => (intro W hSW; (try dsimp only at hSW); go_simp; try with_reducible rfl)
        (try simp only [Act.put, List.setIfInBounds_toArray, List.set_cons_zero, List.set_cons_succ])
        refine wpAnyH_take (i := 20) (v := ?v20) rfl (by kernel_rfl) (by kernel_rfl) (by kernel_rfl) (fun _ _ _ h => h) (Or.inl ⟨by rfl, ?y20⟩) (by assumption) ?r20
        case y20 => (intro W hSW; (try dsimp only at hSW); go_simp; try with_reducible rfl)
        (try simp only [Act.put, List.setIfInBounds_toArray, List.set_cons_zero, List.set_cons_succ])
        refine wpAnyH_take (i := 21) (v := ?v21) rfl (by kernel_rfl) (by kernel_rfl) (by kernel_rfl) (fun _ _ _ h => h) (Or.inl ⟨by rfl, ?y21⟩) (by assumption) ?r21
        case y21 => (intro W hSW; (try dsimp only at hSW); go_simp; try with_reducible rfl)
        (try simp only [Act.put, List.setIfInBounds_toArray, List.set_cons_zero, List.set_cons_succ])
        refine wpAnyH_take (i := 22) (v := ?v22) rfl (by kernel_rfl) (by kernel_rfl) (by kernel_rfl) (fun _ _ _ h => h) (Or.inl ⟨by rfl, ?y22⟩) (by assumption) ?r22
        case y22 => (intro W hSW; (try dsimp only at hSW); go_simp; try with_reducible rfl)
        (try simp only [Act.put, List.setIfInBounds_toArray, List.set_cons_zero, List.set_cons_succ])
        refine wpAnyH_take (i := 23) (v := ?v23) rfl (by kernel_rfl) (by kernel_rfl) (by kernel_rfl) (fun _ _ _ h => h) (Or.inl ⟨by rfl, ?y23⟩) (by assumption) ?r23
        case y23 => (intro W hSW; (try dsimp only at hSW); go_simp; try with_reducible rfl)
        (try simp only [Act.put, List.setIfInBounds_toArray, List.set_cons_zero, List.set_cons_succ])
        refine wpAnyH_take (i := 24) (v := ?v24) rfl (by kernel_rfl) (by kernel_rfl) (by kernel_rfl) (fun _ _ _ h => h) (Or.inl ⟨by rfl, ?y24⟩) (by assumption) ?r24
        case y24 => (intro W hSW; (try dsimp only at hSW); go_simp; try with_reducible rfl)
        (try simp only [Act.put, List.setIfInBounds_toArray, List.set_cons_zero, List.set_cons_succ])
        refine wpAnyH_take (i := 26) (v := ?v25) rfl (by kernel_rfl) (by kernel_rfl) (by kernel_rfl) (fun _ _ _ h => h) (Or.inl ⟨by rfl, ?y25⟩) (by assumption) ?r25
        case y25 => (intro W hSW; (try dsimp only at hSW); go_simp; try with_reducible rfl)
        (try simp only [Act.put, List.setIfInBounds_toArray, List.set_cons_zero, List.set_cons_succ])
        refine wpAnyH_ready (rs := [4, 27]) (by kernel_rfl) (by simp) ?_
        refine AllReadyH.cons rfl (fun KK hKK => ?_) ?_
        · go_simp
          refine hKK.out _ _ ⟨c0, h1⟩ (fun hHeld => ?_)
          clear hKK KK
          (try simp only [Act.put, List.setIfInBounds_toArray, List.set_cons_zero, List.set_cons_succ])
          refine wpAnyH_take (i := 25) (v := ?v26) rfl (by kernel_rfl) (by kernel_rfl) (by kernel_rfl) (fun _ _ _ h => h) (Or.inl ⟨by rfl, ?y26⟩) (by assumption) ?r26
          case y26 => (intro W hSW; (try dsimp only at hSW); go_simp; try with_reducible rfl)
          (try simp only [Act.put, List.setIfInBounds_toArray, List.set_cons_zero, List.set_cons_succ])
          refine wpAnyH_ready (rs := [27]) (by kernel_rfl) (by simp) ?_
          refine AllReadyH.cons rfl (fun KK hKK => ?_) ?_
          · (go_simp; go_at_call 184; refine (HOwnC.out _ (HB.out.drew)).mono ?_; rintro e' w4 ⟨ao4, cap4, rfl, ho4, hb4⟩; obtain ⟨g4, cap4', hv4, hg4, hlt4⟩ := ho4.form (by omega); injection hv4 with hv4 _ hv4'; subst hv4; subst hv4'; have d0 : w4.cell? ⟨b, 0, none⟩ = some (.int .i64 x.base) := (hb4.cell (p := ⟨b, 0, none⟩) hblt).trans c0; have d2 : w4.cell? ⟨b, 2, none⟩ = some (.slice ao2 x.l.length cap2) := (hb4.cell (p := ⟨b, 2, none⟩) hblt).trans c2; have d1 : w4.cell? ⟨g, o + j * 4, none⟩ = some (.int .i64 e.ix) := (hb4.cell (p := ⟨g, o + j * 4, none⟩) hgr).trans h1; have HB4 : Hid (Below wr.heap.size wr w4) := Lib.hid (undrewL hb4); have HO4 := Lib.hid ho4; clear hb4 ho4 hg4)
            refine hKK.out _ _ ⟨d0, d1⟩ (fun hHeld => ?_)
            clear hKK KK
            (try simp only [Act.put, List.setIfInBounds_toArray, List.set_cons_zero, List.set_cons_succ])
            refine wpAnyH_ready (rs := [28]) (by kernel_rfl) (by simp) ?_
            refine AllReadyH.cons rfl (fun KK hKK => ?_) ?_
            · (refine step_append_grows (by rfl) (.tmp 103) (.tmp 105) 22 (by rfl) 51 i0 _ 4 40 Tryz.underlying22 HI.out.1 HI.out.2.1 HI.out.2.2.1 HI.out.2.2.2 (by rfl) (by omega) ao2 K K (entCells (x.l.take K)) (by rfl) hNone hLenT (fun b' hb' => HOlds.out w4 HB4.out b' hb') ⟨g4, 0, none⟩ (n - j) cap4 (entCells (l.drop j)) (by rfl) hLenD (ents_own HO4.out).cells (entCells_one _) (by omega) (by unfold maxLen; omega) (by omega) ?_; intro v5 w5 ho5 hg5; obtain ⟨g5, cap5, hv5, hgg5, hlt5⟩ := ho5.form (by omega); subst hv5; have hx5 := HAfter.out w4 w5 HB4.out hg5; have f0 := hx5.1; have f1 := hx5.2.1; have f2 := hx5.2.2.1; have f3 := hx5.2.2.2.1; have f4 := hx5.2.2.2.2)
              refine hKK.out _ _ ⟨f0, f1⟩ (fun hHeld => ?_)
              clear hKK KK
              (try simp only [Act.put, List.setIfInBounds_toArray, List.set_cons_zero, List.set_cons_succ])
              refine wpAnyH_take (i := 29) (v := ?v27) rfl (by kernel_rfl) (by kernel_rfl) (by kernel_rfl) (fun _ _ _ h => h) (Or.inl ⟨by rfl, ?y27⟩) (by assumption) ?r27
              case y27 => (intro W hSW; (try dsimp only at hSW); go_simp; try with_reducible rfl)
              (try simp only [Act.put, List.setIfInBounds_toArray, List.set_cons_zero, List.set_cons_succ])
              refine wpAnyH_take (i := 30) (v := ?v28) rfl (by kernel_rfl) (by kernel_rfl) (by kernel_rfl) (fun _ _ _ h => h) (Or.inl ⟨by rfl, ?y28⟩) (by assumption) ?r28
              case y28 => (intro W hSW; (try dsimp only at hSW); go_simp; try with_reducible rfl)
              (try simp only [Act.put, List.setIfInBounds_toArray, List.set_cons_zero, List.set_cons_succ])
              refine wpAnyH_ready (rs := [31]) (by kernel_rfl) (by simp) ?_
              refine AllReadyH.cons rfl (fun KK hKK => ?_) ?_
              · go_simp
                refine hKK.out _ _ (f4 _) (fun hHeld => ?_)
                clear hKK KK
                (try simp only [Act.put, List.setIfInBounds_toArray, List.set_cons_zero, List.set_cons_succ])
                refine wpAnyH_done (by kernel_rfl) ?_ _
                go_wp2_with fail
                go_ret2
                show MergeResX B b (mergeOf x l (some (j + 1))) w _ _
                rw [HRes.out]
                exact ⟨rfl, HFin.out w4 w5 _ HB4.out hg5 ho5⟩
              exact AllReadyH.nil
            exact AllReadyH.nil
          exact AllReadyH.nil
        refine AllReadyH.cons rfl (fun KK hKK => ?_) ?_
        · (go_simp; go_at_call 184; refine (HOwnC.out _ (HB.out.drew)).mono ?_; rintro e' w4 ⟨ao4, cap4, rfl, ho4, hb4⟩; obtain ⟨g4, cap4', hv4, hg4, hlt4⟩ := ho4.form (by omega); injection hv4 with hv4 _ hv4'; subst hv4; subst hv4'; have d0 : w4.cell? ⟨b, 0, none⟩ = some (.int .i64 x.base) := (hb4.cell (p := ⟨b, 0, none⟩) hblt).trans c0; have d2 : w4.cell? ⟨b, 2, none⟩ = some (.slice ao2 x.l.length cap2) := (hb4.cell (p := ⟨b, 2, none⟩) hblt).trans c2; have d1 : w4.cell? ⟨g, o + j * 4, none⟩ = some (.int .i64 e.ix) := (hb4.cell (p := ⟨g, o + j * 4, none⟩) hgr).trans h1; have HB4 : Hid (Below wr.heap.size wr w4) := Lib.hid (undrewL hb4); have HO4 := Lib.hid ho4; clear hb4 ho4 hg4)
          refine hKK.out _ _ ⟨d0, d1⟩ (fun hHeld => ?_)
          clear hKK KK
          (try simp only [Act.put, List.setIfInBounds_toArray, List.set_cons_zero, List.set_cons_succ])
          refine wpAnyH_ready (rs := [4]) (by kernel_rfl) (by simp) ?_
          refine AllReadyH.cons rfl (fun KK hKK => ?_) ?_
          · go_simp
            refine hKK.out _ _ ⟨d0, d1⟩ (fun hHeld => ?_)
            clear hKK KK
            (try simp only [Act.put, List.setIfInBounds_toArray, List.set_cons_zero, List.set_cons_succ])
            refine wpAnyH_take (i := 25) (v := ?v29) rfl (by kernel_rfl) (by kernel_rfl) (by kernel_rfl) (fun _ _ _ h => h) (Or.inl ⟨by rfl, ?y29⟩) (by assumption) ?r29
            case y29 => (intro W hSW; (try dsimp only at hSW); go_simp; try with_reducible rfl)
            (try simp only [Act.put, List.setIfInBounds_toArray, List.set_cons_zero, List.set_cons_succ])
            refine wpAnyH_ready (rs := [28]) (by kernel_rfl) (by simp) ?_
            refine AllReadyH.cons rfl (fun KK hKK => ?_) ?_
            · (refine step_append_grows (by rfl) (.tmp 103) (.tmp 105) 22 (by rfl) 51 i0 _ 4 40 Tryz.underlying22 HI.out.1 HI.out.2.1 HI.out.2.2.1 HI.out.2.2.2 (by rfl) (by omega) ao2 K K (entCells (x.l.take K)) (by rfl) hNone hLenT (fun b' hb' => HOlds.out w4 HB4.out b' hb') ⟨g4, 0, none⟩ (n - j) cap4 (entCells (l.drop j)) (by rfl) hLenD (ents_own HO4.out).cells (entCells_one _) (by omega) (by unfold maxLen; omega) (by omega) ?_; intro v5 w5 ho5 hg5; obtain ⟨g5, cap5, hv5, hgg5, hlt5⟩ := ho5.form (by omega); subst hv5; have hx5 := HAfter.out w4 w5 HB4.out hg5; have f0 := hx5.1; have f1 := hx5.2.1; have f2 := hx5.2.2.1; have f3 := hx5.2.2.2.1; have f4 := hx5.2.2.2.2)
              refine hKK.out _ _ ⟨f0, f1⟩ (fun hHeld => ?_)
              clear hKK KK
              (try simp only [Act.put, List.setIfInBounds_toArray, List.set_cons_zero, List.set_cons_succ])
              refine wpAnyH_take (i := 29) (v := ?v30) rfl (by kernel_rfl) (by kernel_rfl) (by kernel_rfl) (fun _ _ _ h => h) (Or.inl ⟨by rfl, ?y30⟩) (by assumption) ?r30
              case y30 => (intro W hSW; (try dsimp only at hSW); go_simp; try with_reducible rfl)
              (try simp only [Act.put, List.setIfInBounds_toArray, List.set_cons_zero, List.set_cons_succ])
              refine wpAnyH_take (i := 30) (v := ?v31) rfl (by kernel_rfl) (by kernel_rfl) (by kernel_rfl) (fun _ _ _ h => h) (Or.inl ⟨by rfl, ?y31⟩) (by assumption) ?r31
              case y31 => (intro W hSW; (try dsimp only at hSW); go_simp; try with_reducible rfl)
              (try simp only [Act.put, List.setIfInBounds_toArray, List.set_cons_zero, List.set_cons_succ])
              refine wpAnyH_ready (rs := [31]) (by kernel_rfl) (by simp) ?_
              refine AllReadyH.cons rfl (fun KK hKK => ?_) ?_
              · go_simp
                refine hKK.out _ _ (f4 _) (fun hHeld => ?_)
                clear hKK KK
                (try simp only [Act.put, List.setIfInBounds_toArray, List.set_cons_zero, List.set_cons_succ])
                refine wpAnyH_done (by kernel_rfl) ?_ _
                go_wp2_with fail
                go_ret2
                show MergeResX B b (mergeOf x l (some (j + 1))) w _ _
                rw [HRes.out]
                exact ⟨rfl, HFin.out w4 w5 _ HB4.out hg5 ho5⟩
              exact AllReadyH.nil
            exact AllReadyH.nil
          exact AllReadyH.nil
        exact AllReadyH.nil
theorem merge_good {w : World} {B b : Nat} {x : LogV} {ao : Option Addr} {n : Nat} {l : List Ent} (h : MergeHyp w B b x ao n l) (c : Nat) (hnc : n ≤ c) (prev term keep : Int) (hp : prev ≤ 9223372036854775807)
    (hok : (termV x prev).2 = true ∧ (termV x prev).1 = term ∧ folB prev term l = true) :
    Calls Tryz.prog 59 #[.pointer (some ⟨b, 0, none⟩), .int .i64 prev, .int .i64 term, .int .i64 keep, .slice ao n c] w (MergeRes B b (mergeV x prev term keep l) w) :=
  (merge_goodX h c hnc prev term keep hp hok).mono fun _ _ h => ⟨h.1, h.2.1, h.2.2.1⟩
theorem merge_anyX {w : World} {B b : Nat} {x : LogV} {ao : Option Addr} {n : Nat} {l : List Ent} (h : MergeHyp w B b x ao n l) (c : Nat) (hnc : n ≤ c) (prev term keep : Int) (hp : prev ≤ 9223372036854775807) :
    Calls Tryz.prog 59 #[.pointer (some ⟨b, 0, none⟩), .int .i64 prev, .int .i64 term, .int .i64 keep, .slice ao n c] w (MergeResX B b (mergeV x prev term keep l) w) := by
  by_cases hok : (termV x prev).2 = true ∧ (termV x prev).1 = term ∧ folB prev term l = true
  · exact merge_goodX h c hnc prev term keep hp hok
  · exact merge_badX h c prev term keep hp hok
end
/-! ### The walk of a log's Compact. -/
section
open Go.RowKit
set_option linter.unusedVariables false
def compactV (x : LogV) (to : Int) : LogV × Bool :=
  if (termV x to).2 = true ∧ to ≤ (lastV x).1 then (⟨to, (termV x to).1, x.l.drop (to - x.base).toNat⟩, true) else (x, false)
def CompactRes (B b : Nat) (r : LogV × Bool) (w : World) (e : Ending) (w' : World) : Prop :=
  e = .returned (.bool r.2) ∧ LogAt w' B b r.1 ∧ Below B w w'
def CompactResX (B b : Nat) (r : LogV × Bool) (w : World) (e : Ending) (w' : World) : Prop :=
  e = .returned (.bool r.2) ∧ LogAt w' B b r.1 ∧ Below B w w' ∧ Moved b w w'
/-- The rest of a log's list, as a slice, in the form that the walk reckons. -/
theorem rest_slice {W : World} {B : Nat} {ao : Option Addr} {n cap : Nat} {l : List Ent} (ho : W.ownsRow B 51 4 (.slice ao n cap) n (entCells l)) (k : Nat) (hk : k ≤ n) :
    Ents W W.heap.size (if cap = k then ao else Option.map (fun x => x.add (k * 4)) ao) (n - k) (l.drop k) ∧ ((if cap = k then ao else Option.map (fun x => x.add (k * 4)) ao) = none → n - k = 0) := by
  have hl : l.length = n := by have := ho.1; rw [entCells_len] at this; omega
  have hE := ents_own ho
  obtain ⟨ao1, cap1, hv, hc, hnone, hsome⟩ := own_shape ho
  injection hv with hv _ hv'
  subst hv
  subst hv'
  by_cases hkn : k < n
  · obtain ⟨g, o, e, rfl, hg, _, _⟩ := hE.get hkn
    obtain ⟨g', h1, _, _⟩ := hsome _ rfl
    injection h1 with h1 h2
    subst h1
    subst h2
    rw [if_neg (by omega)]
    refine ⟨?_, by simp⟩
    have := hE.drop hkn
    rw [Nat.zero_add] at this
    simpa [add_lit] using this
  · obtain rfl : k = n := by omega
    have hd : l.drop k = [] := List.drop_of_length_le (by omega)
    rw [Nat.sub_self, hd]
    exact ⟨Ents.nil_ _ _ _, fun _ => rfl⟩
set_option maxHeartbeats 1000000 in
theorem compact_noX {w : World} {B b : Nat} {x : LogV} (h : LogAt w B b x) (hB : B ≤ w.heap.size) (to : Int) (hb0 : 0 ≤ x.base) (hb9 : x.base ≤ 9223372036854775807) (hi : to ≤ 9223372036854775807)
    (hno : ¬ ((termV x to).2 = true ∧ to ≤ (lastV x).1)) :
    Calls Tryz.prog 61 #[.pointer (some ⟨b, 0, none⟩), .int .i64 to] w (CompactResX B b (compactV x to) w) := by
  have e : compactV x to = (x, false) := by unfold compactV; rw [if_neg hno]
  rw [e]
  have HL := Lib.hid (last_any h)
  have HT : Hid (∀ w1, Below w.heap.size w w1 → Calls Tryz.prog 67 #[.pointer (some ⟨b, 0, none⟩), .int .i64 to] w1 fun e w' => e = .returned (.tuple #[.int .i64 (termV x to).1, .bool (termV x to).2]) ∧ Below w1.heap.size w1 w') :=
    Lib.hid (fun w1 hb => term_any (h.below hb (Nat.le_refl _)) to hb0 hb9 hi)
  have HH := Lib.hid h
  obtain ⟨s, hs⟩ : ∃ s, s = (termV x to).2 := ⟨_, rfl⟩
  obtain ⟨t, ht⟩ : ∃ t, t = (termV x to).1 := ⟨_, rfl⟩
  obtain ⟨u, hu⟩ : ∃ u, u = (lastV x).1 := ⟨_, rfl⟩
  obtain ⟨v, hv⟩ : ∃ v, v = (lastV x).2 := ⟨_, rfl⟩
  rw [← hs, ← ht] at HT
  rw [← hu, ← hv] at HL
  rw [← hs, ← hu] at hno
  clear h hs ht hu hv e
  cases s with
  | false =>
    clear hno
    go_enter Tryz.func61, Tryz.ntmps61
    go_wp2_with (first | (go_at_call 65; refine (HL.out).mono ?_; rintro e w1 ⟨rfl, hb1⟩) | (go_at_call 67; refine (HT.out _ hb1).mono ?_; rintro e w2 ⟨rfl, hb2⟩))
    go_ret
    have hb := hb1.trans (hb2.mono hb1.size)
    exact ⟨rfl, HH.out.below hb (Nat.le_refl _), hb.mono hB, Moved.ofBelow HH.out.lt hb⟩
  | true =>
    have hd : decide (u < to) = true := by
      have : ¬ to ≤ u := fun hh => hno ⟨rfl, hh⟩
      simp; omega
    clear hno
    go_enter Tryz.func61, Tryz.ntmps61
    go_wp2_with (first | (go_at_call 65; refine (HL.out).mono ?_; rintro e w1 ⟨rfl, hb1⟩) | (go_at_call 67; refine (HT.out _ hb1).mono ?_; rintro e w2 ⟨rfl, hb2⟩))
    go_ret
    have hb := hb1.trans (hb2.mono hb1.size)
    exact ⟨rfl, HH.out.below hb (Nat.le_refl _), hb.mono hB, Moved.ofBelow HH.out.lt hb⟩
/-- The log written anew, cell by cell. -/
theorem LogAt.put3 {w1 : World} {B b n : Nat} {i0 t0 base term : Int} {v0 v : Value} {l : List Ent} (hBb : B ≤ b) (hb : w1.heap[b]? = some (.cells #[.int .i64 i0, .int .i64 t0, v0] 94 (0, 0)))
    (ho : w1.ownsRow B 51 4 v n (entCells l)) (hl : l.length = n) : LogAt (((w1.setCell ⟨b, 2, none⟩ v).setCell ⟨b, 0, none⟩ (.int .i64 base)).setCell ⟨b, 1, none⟩ (.int .i64 term)) B b ⟨base, term, l⟩ := by
  obtain ⟨ao, cap, rfl, _, _, _⟩ := own_shape ho
  have h2 := blk_set hb 2 (.slice ao n cap)
  have h3 := blk_set h2 0 (.int .i64 base)
  have h4 := blk_set h3 1 (.int .i64 term)
  have hob : (Value.slice ao n cap).ownBlock ≠ some b := own_ne hb (by decide) ho
  subst hl
  refine ⟨hBb, ao, cap, ?_, ?_⟩
  · rw [h4]; rfl
  · exact ((ho.kept (grown_set w1 b 2 _) (.inr hob)).kept (grown_set _ b 0 _) (.inr hob)).kept (grown_set _ b 1 _) (.inr hob)
theorem moved3 {w w3 : World} {b : Nat} {i0 t0 base term : Int} {v0 v : Value} (hb : w3.heap[b]? = some (.cells #[.int .i64 i0, .int .i64 t0, v0] 94 (0, 0))) (h : Below w.heap.size w w3) (hv : ∀ g, v.ownBlock = some g → w.heap.size ≤ g) : Moved b w (((w3.setCell ⟨b, 2, none⟩ v).setCell ⟨b, 0, none⟩ (.int .i64 base)).setCell ⟨b, 1, none⟩ (.int .i64 term)) := by
  have h2 := blk_set hb 2 v
  have h3 := blk_set h2 0 (.int .i64 base)
  have h4 := blk_set h3 1 (.int .i64 term)
  refine ⟨((((FarL.ofBelow h).set 2 v).set 0 _).set 1 _), fun g hg => .inr (hv g ?_)⟩
  rw [← hg]
  exact (rowAt_of (u := .int .i64 base) (v := .int .i64 term) (x := v) (T := 94) (h4.trans rfl)).symm
set_option maxHeartbeats 1000000 in
theorem compact_yesX {w : World} {B b : Nat} {x : LogV} (h : LogAt w B b x) (hB : B ≤ w.heap.size) (to : Int) (hb0 : 0 ≤ x.base) (hb9 : x.base + x.l.length ≤ 9223372036854775807) (hn : x.l.length * 40 ≤ 140737488355328)
    (hyes : (termV x to).2 = true ∧ to ≤ (lastV x).1) :
    Calls Tryz.prog 61 #[.pointer (some ⟨b, 0, none⟩), .int .i64 to] w (CompactResX B b (compactV x to) w) := by
  have e : compactV x to = (⟨to, (termV x to).1, x.l.drop (to - x.base).toNat⟩, true) := by unfold compactV; rw [if_pos hyes]
  have hr := term_range hyes.1
  obtain ⟨K, hK⟩ : ∃ K : Nat, (K : Int) = to - x.base := ⟨(to - x.base).toNat, by omega⟩
  rw [show (to - x.base).toNat = K from by omega] at e
  rw [e]
  have HL := Lib.hid (last_any h)
  have HT : Hid (∀ w1, Below w.heap.size w w1 → Calls Tryz.prog 67 #[.pointer (some ⟨b, 0, none⟩), .int .i64 to] w1 fun e w' => e = .returned (.tuple #[.int .i64 (termV x to).1, .bool (termV x to).2]) ∧ Below w1.heap.size w1 w') :=
    Lib.hid (fun w1 hb => term_any (h.below hb (Nat.le_refl _)) to hb0 (by omega) (by omega))
  rw [hyes.1] at HT
  have HH := Lib.hid h
  have hle := hyes.2
  obtain ⟨t, ht⟩ : ∃ t, t = (termV x to).1 := ⟨_, rfl⟩
  obtain ⟨u, hu⟩ : ∃ u, u = (lastV x).1 := ⟨_, rfl⟩
  obtain ⟨v, hv⟩ : ∃ v, v = (lastV x).2 := ⟨_, rfl⟩
  rw [← ht] at HT ⊢
  rw [← hu, ← hv] at HL
  rw [← hu] at hle
  have hto : to = x.base + (K : Int) := by omega
  subst hto
  have hw3 : IntKind.i64.wrap (x.base + (K : Int) - x.base) = (K : Int) := by rw [IntWalk.i64_in _ (by omega)]; omega
  have hd : decide (u < x.base + (K : Int)) = false := by simp; omega
  have hwK : IntKind.i64.wrap (K : Int) = (K : Int) := IntWalk.i64_in _ (by omega)
  have hK0 : (0 : Int) ≤ (K : Int) := by omega
  have hKn : K ≤ x.l.length := by omega
  have hKl : (K : Int) ≤ (x.l.length : Int) := by omega
  clear h ht hu hv e hyes hle hr hK
  go_enter Tryz.func61, Tryz.ntmps61
  go_wp2_with (first | (go_at_call 65; refine (HL.out).mono ?_; rintro e w1 ⟨rfl, hb1⟩) | (go_at_call 67; refine (HT.out _ hb1).mono ?_; rintro e w2 ⟨rfl, hb2⟩))
  have hbw := hb1.trans (hb2.mono hb1.size)
  have HLg := HH.out.below hbw (Nat.le_refl _)
  obtain ⟨ao, cap, hBb, hbk, hown⟩ := HLg.parts
  have hblt := blk_lt hbk
  have c0 : w2.cell? ⟨b, 0, none⟩ = some (.int .i64 x.base) := by rw [blk_cell hbk]; rfl
  have c2 : w2.cell? ⟨b, 2, none⟩ = some (.slice ao x.l.length cap) := by rw [blk_cell hbk]; rfl
  obtain ⟨hE, hnil⟩ := rest_slice hown K hKn
  have HC : Hid (Calls Tryz.prog 186 #[.slice (if cap = K then ao else Option.map (fun x => x.add (K * 4)) ao) (x.l.length - K) (cap - K)] w2.drew (OwnsEnts w2.drew.heap.size (x.l.length - K) (x.l.drop K) w2.drew)) := Lib.hid (cloneE_any _ _ _ _ _ hE (by omega) hnil)
  have HBk := Lib.hid hbk
  have HBW := Lib.hid hbw
  clear hbk hown hE hnil hb1 hb2 hbw HLg
  go_region_law (go_simp; go_at_call 186; refine (HC.out).mono ?_; rintro e w3 ⟨ao3, cap3, rfl, ho3, hb3⟩; have hk3 : w3.heap[b]? = _ := (hb3.block b hblt).trans HBk.out; have f2 : w3.cell? ⟨b, 2, none⟩ = some (.slice ao x.l.length cap) := (hb3.cell (p := ⟨b, 2, none⟩) hblt).trans c2; have f2f : w3.frozen? ⟨b, 2, none⟩ = false := blk_frozen hk3 _; have HO3 := Lib.hid ho3; have HB3 : Hid (Below w2.heap.size w2 w3) := Lib.hid (undrewL hb3); have HK3 := Lib.hid hk3; clear ho3 hb3 hk3)
  all_goals (
    have f0 : w3.cell? ⟨b, 0, none⟩ = some (.int .i64 x.base) := by rw [blk_cell HK3.out]; rfl
    have f1 : w3.cell? ⟨b, 1, none⟩ = some (.int .i64 x.term) := by rw [blk_cell HK3.out]; rfl
    have f0f : w3.frozen? ⟨b, 0, none⟩ = false := blk_frozen HK3.out _
    have f1f : w3.frozen? ⟨b, 1, none⟩ = false := blk_frozen HK3.out _
    have hs2 : w.heap.size ≤ w2.heap.size := HBW.out.size
    have hBw : Below B w w3 := (HBW.out.mono hB).trans (HB3.out.mono (Nat.le_trans hB hs2))
    go_wp2
    all_goals go_ret
    all_goals exact ⟨rfl, LogAt.put3 hBb HK3.out (own_mono HO3.out (Nat.le_trans hB hs2)) (by rw [List.length_drop]), ((hBw.setCell hBb _).setCell hBb _).setCell hBb _, moved3 HK3.out (HBW.out.trans (HB3.out.mono HBW.out.size)) (fun g hg => Nat.le_trans hs2 (HO3.out.lt g hg).1)⟩)
theorem compact_anyX {w : World} {B b : Nat} {x : LogV} (h : LogAt w B b x) (hB : B ≤ w.heap.size) (to : Int) (hb0 : 0 ≤ x.base) (hb9 : x.base + x.l.length ≤ 9223372036854775807) (hn : x.l.length * 40 ≤ 140737488355328) (hi : to ≤ 9223372036854775807) :
    Calls Tryz.prog 61 #[.pointer (some ⟨b, 0, none⟩), .int .i64 to] w (CompactResX B b (compactV x to) w) := by
  by_cases hyes : (termV x to).2 = true ∧ to ≤ (lastV x).1
  · exact compact_yesX h hB to hb0 hb9 hn hyes
  · exact compact_noX h hB to hb0 (by omega) hi hyes
theorem compact_any {w : World} {B b : Nat} {x : LogV} (h : LogAt w B b x) (hB : B ≤ w.heap.size) (to : Int) (hb0 : 0 ≤ x.base) (hb9 : x.base + x.l.length ≤ 9223372036854775807) (hn : x.l.length * 40 ≤ 140737488355328) (hi : to ≤ 9223372036854775807) :
    Calls Tryz.prog 61 #[.pointer (some ⟨b, 0, none⟩), .int .i64 to] w (CompactRes B b (compactV x to) w) :=
  (compact_anyX h hB to hb0 hb9 hn hi).mono fun _ _ h => ⟨h.1, h.2.1, h.2.2.1⟩
end
/-! ### The walks of New, where entries do not follow, and of a log's Slice. -/
section
open Go.RowKit
set_option linter.unusedVariables false
set_option maxHeartbeats 400000 in
theorem new_bad (base term : Int) (ao : Option Addr) (n c : Nat) (l : List Ent) (w : World) (hl : Ents w w.heap.size ao n l) (hn : n ≤ 9223372036854775807)
    (hb : 0 ≤ base) (ht : 0 ≤ term) (hf : folB base term l = false) :
    Calls Tryz.prog 55 #[.int .i64 base, .int .i64 term, .slice ao n c] w fun e w' => e = .returned (.tuple #[.pointer none, .int .i64 1]) ∧ Below w.heap.size w w' := by
  have HF := Lib.hid (follow_any base term ao n c l w hl hn)
  rw [hf] at HF
  clear hl hf
  have hd1 : decide (base < 0) = false := by simpa using hb
  have hd2 : decide (term < 0) = false := by simpa using ht
  go_enter Tryz.func55, Tryz.ntmps55
  go_wp2_with (go_at_call 183; refine (HF.out).mono ?_; rintro e w1 ⟨rfl, hb1⟩)
  go_ret2
  exact ⟨rfl, hb1⟩
/-- What Slice answers. -/
def sliceV (x : LogV) (f m : Int) : List Ent := if f ≤ x.base ∨ x.l.length < f - x.base ∨ m < 1 then [] else (x.l.drop (f - x.base - 1).toNat).take m.toNat
/-- A new slice of entries. -/
def SliceRes (l : List Ent) (w : World) (e : Ending) (w' : World) : Prop :=
  ∃ ao n c, e = .returned (.slice ao n c) ∧ w'.ownsRow w.heap.size 51 4 (.slice ao n c) n (entCells l) ∧ l.length = n ∧ Below w.heap.size w w'
set_option maxHeartbeats 400000 in
theorem slice_no {w : World} {B b : Nat} {x : LogV} (h : LogAt w B b x) (f m : Int) (hb0 : 0 ≤ x.base) (hb9 : x.base ≤ 9223372036854775807) (hf : f ≤ 9223372036854775807) (hno : f ≤ x.base ∨ x.l.length < f - x.base ∨ m < 1) :
    Calls Tryz.prog 71 #[.pointer (some ⟨b, 0, none⟩), .int .i64 f, .int .i64 m] w (SliceRes [] w) := by
  obtain ⟨ao, cap, c0, c1, c2, ho, hlt, hn⟩ := h.facts
  obtain ⟨n, hne⟩ : ∃ n, n = x.l.length := ⟨_, rfl⟩
  rw [← hne] at c2 hn hno
  obtain ⟨base, hbe⟩ : ∃ base, base = x.base := ⟨_, rfl⟩
  rw [← hbe] at c0 hb0 hb9 hno
  clear ho h hne hbe
  by_cases h1 : f ≤ base
  · have hd1 : decide (f ≤ base) = true := by simpa using h1
    go_enter Tryz.func71, Tryz.ntmps71
    go_wp2_with fail
    go_quiet (fail)
    go_wp2_with fail
    go_ret
    exact ⟨none, 0, 0, rfl, World.ownsRow_nil _ _ _ _, rfl, below_drewN (Below.refl _ _) _⟩
  · have hd1 : decide (f ≤ base) = false := by simpa using h1
    have hw : IntKind.i64.wrap (f - base) = f - base := IntWalk.i64_in _ (by omega)
    by_cases h2 : (n : Int) < f - base
    · have hd2 : decide ((n : Int) < f - base) = true := by simpa using h2
      go_enter Tryz.func71, Tryz.ntmps71
      go_wp2_with fail
      go_quiet (fail)
      go_wp2_with fail
      go_ret
      exact ⟨none, 0, 0, rfl, World.ownsRow_nil _ _ _ _, rfl, below_drewN (Below.refl _ _) _⟩
    · have hd2 : decide ((n : Int) < f - base) = false := by simpa using h2
      have h3 : m < 1 := by omega
      have hd3 : decide (m < 1) = true := by simpa using h3
      go_enter Tryz.func71, Tryz.ntmps71
      go_wp2_with fail
      go_quiet (fail)
      go_wp2_with fail
      go_ret
      exact ⟨none, 0, 0, rfl, World.ownsRow_nil _ _ _ _, rfl, below_drewN (Below.refl _ _) _⟩
/-- The slice from place k on, and of it r entries, with the capacities as they come. -/
theorem sliceE_l1 (w : World) (g o n c k : Nat) (h1 : k < n) (h2 : n ≤ c) :
    (Instr.sliceAt 22 (.slice (some ⟨g, o, none⟩) n c) (some (.int .i64 (k : Int))) none none).run Tryz.prog w = .ok (.slice (some ⟨g, o + k * 4, none⟩) (n - k) (c - k)) w := sliceE_l w g o n c k (by omega) (by omega)
theorem sliceE_h (w : World) (ao : Option Addr) (n c k : Nat) (h2 : k ≤ c) :
    (Instr.sliceAt 22 (.slice ao n c) none (some (.int .i64 (k : Int))) none).run Tryz.prog w = .ok (.slice ao k c) w := by
  have hun : Tryz.prog.underlying 22 = some (.slice (Tryz.prog.elem 22)) := by kernel_rfl
  have hs : (sizeOf (Tryz.prog.elem 22)).run Tryz.prog w = .ok 4 w := by kernel_rfl
  rw [run_sliceAt_slice _ _ _ _ _ _ hun, run_slice_h w _ _ _ _ hun .i64 (k : Int) (by omega) (by omega), hs]
  cases ao <;> simp [sliced, Addr.add]
theorem ents_cut {W : World} {B : Nat} {ao : Option Addr} {n r : Nat} {l : List Ent} (h : Ents W B ao n l) (hr : r ≤ n) : Ents W B ao r (l.take r) :=
  ⟨by rw [List.length_take, h.1]; omega, fun hp => by
    obtain ⟨b, o, ha, hb, hc⟩ := h.2 (by omega)
    exact ⟨b, o, ha, hb, fun k e hk => hc k e (by
      have hkr : k < r := by have := (List.getElem?_eq_some_iff.1 hk).1; rw [List.length_take] at this; omega
      rw [List.getElem?_take, if_pos hkr] at hk; exact hk)⟩⟩
set_option maxHeartbeats 1000000 in
theorem slice_yes {w : World} {B b : Nat} {x : LogV} (h : LogAt w B b x) (k r : Nat) (f m : Int) (hb0 : 0 ≤ x.base) (hf : f ≤ 9223372036854775807) (hfk : f = x.base + k + 1) (hk : k < x.l.length) (hm : 1 ≤ m) (hmr : (r : Int) = min m ((x.l.length : Int) - k)) (hn : x.l.length * 40 ≤ 140737488355328) :
    Calls Tryz.prog 71 #[.pointer (some ⟨b, 0, none⟩), .int .i64 f, .int .i64 m] w (SliceRes ((x.l.drop k).take r) w) := by
  obtain ⟨ao, cap, c0, c1, c2, ho, hlt, _⟩ := h.facts
  have hE := ents_own ho
  obtain ⟨g, o, e, rfl, hg, _, _⟩ := hE.get hk
  obtain ⟨ao1, cap1, hv, hc, _, _⟩ := own_shape ho
  injection hv with hv1 _ hv'
  subst hv'
  subst hv1
  have hD := ents_cut (hE.drop hk) (r := r) (by omega)
  have hlen : ((x.l.drop k).take r).length = r := by rw [List.length_take, List.length_drop]; omega
  have HL := Lib.hid hlen
  obtain ⟨n, hne⟩ : ∃ n, n = x.l.length := ⟨_, rfl⟩
  rw [← hne] at c2 hn hk hmr hc
  obtain ⟨base, hbe⟩ : ∃ base, base = x.base := ⟨_, rfl⟩
  rw [← hbe] at c0 hb0 hfk
  have HD := Lib.hid hD
  clear ho h hbe hE hD hlen hne
  have hrn : r ≤ n - k := by omega
  have hd1 : decide (f ≤ base) = false := by simp; omega
  have hw : IntKind.i64.wrap (f - base) = (k : Int) + 1 := by rw [IntWalk.i64_in _ (by omega)]; omega
  have hw2 : IntKind.i64.wrap ((k : Int) + 1 - 1) = (k : Int) := by rw [IntWalk.i64_in _ (by omega)]; omega
  have hd2 : decide ((n : Int) < (k : Int) + 1) = false := by simp; omega
  have hd3 : decide (m < 1) = false := by simpa using hm
  have hx1 : (0 : Int) ≤ k := by omega
  have hx2 : (k : Int) < n := by omega
  have hww : f - base = (k : Int) + 1 := by omega
  have hcl : ∀ W : World, Below w.heap.size w W → Hid (Calls Tryz.prog 186 #[.slice (some ⟨g, o + k * 4, none⟩) r (cap - k)] W (OwnsEnts W.heap.size r ((x.l.drop k).take r) W)) := fun W hb =>
    Lib.hid (cloneE_any _ r (cap - k) _ W (((HD.out.below hb)).mono hb.size) (by omega) (by simp))
  have HCl := Lib.hid hcl
  clear hcl hfk
  by_cases hmn : m ≤ ((n - k : Nat) : Int)
  · obtain rfl : m = (r : Int) := by omega
    clear hmr
    go_enter Tryz.func71, Tryz.ntmps71
    go_wp2_with fail
    go_quiet (fail)
    go_wp2_with fail
    go_quiet (fail)
    go_wp2_with fail
    refine ((HCl.out _ (below_drewN (Below.refl _ _) _)).out).mono ?_
    rintro e1 w1 ⟨ao2, cap2, rfl, ho2, hb2⟩
    go_wp2_with fail
    go_ret
    exact ⟨ao2, r, cap2, rfl, ho2, HL.out, (below_drewN (Below.refl _ _) _).trans hb2⟩
  · obtain rfl : r = n - k := by omega
    clear hmr
    go_enter Tryz.func71, Tryz.ntmps71
    go_wp2_with fail
    go_quiet (fail)
    go_wp2_with fail
    go_quiet (fail)
    go_wp2_with fail
    refine ((HCl.out _ (below_drewN (Below.refl _ _) _)).out).mono ?_
    rintro e1 w1 ⟨ao2, cap2, rfl, ho2, hb2⟩
    go_wp2_with fail
    go_ret
    exact ⟨ao2, n - k, cap2, rfl, ho2, HL.out, (below_drewN (Below.refl _ _) _).trans hb2⟩
theorem slice_any {w : World} {B b : Nat} {x : LogV} (h : LogAt w B b x) (f m : Int) (hb0 : 0 ≤ x.base) (hb9 : x.base ≤ 9223372036854775807) (hf : f ≤ 9223372036854775807) (hn : x.l.length * 40 ≤ 140737488355328) :
    Calls Tryz.prog 71 #[.pointer (some ⟨b, 0, none⟩), .int .i64 f, .int .i64 m] w (SliceRes (sliceV x f m) w) := by
  by_cases hno : f ≤ x.base ∨ x.l.length < f - x.base ∨ m < 1
  · have e : sliceV x f m = [] := by unfold sliceV; rw [if_pos hno]
    rw [e]
    exact slice_no h f m hb0 hb9 hf hno
  · obtain ⟨k, hk⟩ : ∃ k : Nat, f - x.base - 1 = k := ⟨(f - x.base - 1).toNat, by omega⟩
    obtain ⟨r, hr⟩ : ∃ r : Nat, (r : Int) = min m ((x.l.length : Int) - k) := ⟨(min m ((x.l.length : Int) - k)).toNat, by omega⟩
    have e : sliceV x f m = (x.l.drop k).take r := by
      unfold sliceV
      rw [if_neg hno, hk, Int.toNat_natCast]
      by_cases hmn : m ≤ (x.l.length : Int) - k
      · rw [show r = m.toNat from by omega]
      · rw [List.take_of_length_le (by rw [List.length_drop]; omega), List.take_of_length_le (by rw [List.length_drop]; omega)]
    rw [e]
    exact slice_yes h k r f m hb0 hf (by omega) (by omega) (by omega) hr hn
end
/-! ### The walk of arboretumlaw18.alive. -/
section
open Go.RowKit
set_option linter.unusedVariables false
theorem merge_any {w : World} {B b : Nat} {x : LogV} {ao : Option Addr} {n : Nat} {l : List Ent} (h : MergeHyp w B b x ao n l) (c : Nat) (hnc : n ≤ c) (prev term keep : Int) (hp : prev ≤ 9223372036854775807) :
    Calls Tryz.prog 59 #[.pointer (some ⟨b, 0, none⟩), .int .i64 prev, .int .i64 term, .int .i64 keep, .slice ao n c] w (MergeRes B b (mergeV x prev term keep l) w) := by
  by_cases hok : (termV x prev).2 = true ∧ (termV x prev).1 = term ∧ folB prev term l = true
  · exact merge_good h c hnc prev term keep hp hok
  · exact merge_bad h c prev term keep hp hok
theorem LogAt.mono {w : World} {B B' b : Nat} {x : LogV} (h : LogAt w B b x) (hB : B' ≤ B) : LogAt w B' b x := by
  obtain ⟨h1, ao, cap, hh, ho⟩ := h
  exact ⟨Nat.le_trans hB h1, ao, cap, hh, own_mono ho hB⟩
/-- An empty entry with an index and a term. -/
def ent0 (i t : Int) : Ent := ⟨i, t, 0, ⟨#[]⟩⟩
theorem ents_one (W : World) (i t : Int) : Ents (W.alloc (.cells #[.int .i64 i, .int .i64 t, .int .i64 0, .string ⟨#[]⟩] 51)) (W.heap.size + 1) (some ⟨W.heap.size, 0, none⟩) 1 [ent0 i t] := by
  refine ⟨rfl, fun _ => ⟨W.heap.size, 0, rfl, by omega, fun k e hk => ?_⟩⟩
  rcases k with _ | k
  · have : e = ent0 i t := by simpa using hk.symm
    subst this
    exact EntAt.fresh W (ent0 i t) _
  · simp at hk
theorem ents_two (W : World) (i t j u : Int) : Ents (W.alloc (.cells #[.int .i64 i, .int .i64 t, .int .i64 0, .string ⟨#[]⟩, .int .i64 j, .int .i64 u, .int .i64 0, .string ⟨#[]⟩] 51)) (W.heap.size + 1) (some ⟨W.heap.size, 0, none⟩) 2 [ent0 i t, ent0 j u] := by
  refine ⟨rfl, fun _ => ⟨W.heap.size, 0, rfl, by omega, fun k e hk => ?_⟩⟩
  rcases k with _ | _ | k
  · have : e = ent0 i t := by simpa using hk.symm
    subst this
    refine ⟨?_, ?_, ?_, ?_⟩ <;> rw [World.cell?_alloc_new] <;> rfl
  · have : e = ent0 j u := by simpa using hk.symm
    subst this
    refine ⟨?_, ?_, ?_, ?_⟩ <;> rw [World.cell?_alloc_new] <;> rfl
  · simp at hk
theorem al_new (W : World) : Calls Tryz.prog 55 #[.int .i64 0, .int .i64 0, .slice (some ⟨W.heap.size, 0, none⟩) 2 2] (W.alloc (.cells #[.int .i64 1, .int .i64 1, .int .i64 0, .string ⟨#[]⟩, .int .i64 2, .int .i64 1, .int .i64 0, .string ⟨#[]⟩] 51)) (NewRes 0 0 [ent0 1 1, ent0 2 1] W) := by
  have hsz : ∀ o, (W.alloc o).heap.size = W.heap.size + 1 := fun o => by simp
  refine (new_good 0 0 _ 2 2 [ent0 1 1, ent0 2 1] _ (by rw [hsz]; exact ents_two W 1 1 2 1) (by omega) (by simp) (by simp only [ent0, List.mem_cons, List.not_mem_nil, or_false]; rintro e (rfl | rfl) <;> decide) (by omega) (by omega) (by kernel_rfl)).mono ?_
  rintro e w' ⟨b, he, hl, hb⟩
  rw [hsz] at hl hb
  exact ⟨b, he, hl.mono (by omega), ((Below.refl _ _).alloc (Nat.le_refl _) _).trans (hb.mono (by omega))⟩
theorem al_merge {W : World} {B b : Nat} {x : LogV} (h : LogAt W B b x) (hB : B ≤ W.heap.size) (hx0 : 0 ≤ x.base) (hx9 : x.base + x.l.length < 4611686018427387904) (hn : x.l.length ≤ 1000) (t p s k : Int) (hp : p ≤ 9223372036854775807) (y : LogV × Int × Bool) (hy : mergeV x p s k [ent0 2 t] = y) :
    Calls Tryz.prog 59 #[.pointer (some ⟨b, 0, none⟩), .int .i64 p, .int .i64 s, .int .i64 k, .slice (some ⟨W.heap.size, 0, none⟩) 1 1] (W.alloc (.cells #[.int .i64 2, .int .i64 t, .int .i64 0, .string ⟨#[]⟩] 51)) (MergeRes B b y W) := by
  have hsz : ∀ o, (W.alloc o).heap.size = W.heap.size + 1 := fun o => by simp
  subst hy
  have hb0 : ∀ o, Below B W (W.alloc o) := fun o => (Below.refl _ _).alloc hB _
  refine (merge_any (l := [ent0 2 t]) (n := 1) ⟨h.below ((Below.refl W.heap.size W).alloc (Nat.le_refl _) _) (Nat.le_refl _), by rw [hsz]; omega, by rw [hsz]; exact ents_one W 2 t, by simp, hx0, hx9, by simp [ent0], by omega, by simp only [List.mem_cons, List.not_mem_nil, or_false]; rintro e rfl; exact (by decide : (⟨#[]⟩ : ByteArray).size ≤ 281474976710656)⟩ 1 (by omega) p s k hp).mono ?_
  rintro e w' ⟨he, hl, hb⟩
  exact ⟨he, hl, (hb0 _).trans hb⟩
/-- The log of 'alive' behind its Merge. -/
def alX : LogV := ⟨0, 0, [ent0 1 1, ent0 2 2]⟩
theorem al_last {W : World} {B b : Nat} (h : LogAt W B b alX) : Calls Tryz.prog 65 #[.pointer (some ⟨b, 0, none⟩)] W fun e w' => e = .returned (.tuple #[.int .i64 2, .int .i64 2]) ∧ Below W.heap.size W w' := last_any h
theorem al_newer {W : World} {B b : Nat} (h : LogAt W B b alX) (i t : Int) (r : Bool) (hr : newerV alX i t = r) : Calls Tryz.prog 76 #[.pointer (some ⟨b, 0, none⟩), .int .i64 i, .int .i64 t] W fun e w' => e = .returned (.bool r) ∧ Below W.heap.size W w' := by
  subst hr
  exact newer_any h i t
theorem al_add {W : World} {B b : Nat} (h : LogAt W B b alX) (hB : B ≤ W.heap.size) : Calls Tryz.prog 57 #[.pointer (some ⟨b, 0, none⟩), .int .i64 3, .int .i64 1, .string ⟨#[100]⟩] W fun e w' => e = .returned (.int .i64 3) ∧ Below B W w' :=
  (add_any h 3 1 ⟨#[100]⟩ (by decide) hB (by decide) (by decide) (by decide)).mono fun e w' ⟨he, _, hb⟩ => ⟨he, hb⟩
set_option maxHeartbeats 1000000 in
theorem alive_any (w : World) :
    Calls Tryz.prog 54 #[] w fun e w' => e = .returned (.bool true) ∧ Below w.heap.size w w' := by
  have m1 : mergeV ⟨0, 0, [ent0 1 1, ent0 2 1]⟩ 1 1 0 [ent0 2 2] = (⟨0, 0, [ent0 1 1, ent0 2 2]⟩, 2, true) := by kernel_rfl
  have m2 : mergeV ⟨0, 0, [ent0 1 1, ent0 2 2]⟩ 1 1 2 [ent0 2 3] = (⟨0, 0, [ent0 1 1, ent0 2 2]⟩, 0, false) := by kernel_rfl
  have M1 := Lib.hid m1
  have M2 := Lib.hid m2
  clear m1 m2
  go_enter Tryz.func54, Tryz.ntmps54
  go_wp2_with fail
  refine (al_new _).mono ?_
  rintro e w1 ⟨b, rfl, hl1, hb1⟩
  have hs1 := hb1.size
  go_wp2_with fail
  refine (al_merge hl1 hs1 (by decide) (by decide) (by decide) 2 1 1 0 (by omega) _ M1.out).mono ?_
  rintro e w2 ⟨rfl, hl2, hb2⟩
  have hs2 := Nat.le_trans hs1 hb2.size
  have hbw2 := hb1.trans hb2
  clear hb1 hb2 hl1
  go_wp2_with fail
  refine (al_last hl2).mono ?_
  rintro e w3 ⟨rfl, hb3⟩
  have hl3 := hl2.below hb3 (Nat.le_refl _)
  have hs3 := Nat.le_trans hs2 hb3.size
  have hbw3 := hbw2.trans (hb3.mono hs2)
  clear hb3 hbw2 hl2
  go_wp2_with fail
  refine (al_merge hl3 hs3 (by decide) (by decide) (by decide) 3 1 1 2 (by omega) _ M2.out).mono ?_
  rintro e w4 ⟨rfl, hl4, hb4⟩
  have hs4 := Nat.le_trans hs3 hb4.size
  have hbw4 := hbw3.trans hb4
  clear hb4 hbw3 hl3
  go_wp2_with fail
  refine (al_newer hl4 2 2 true (by kernel_rfl)).mono ?_
  rintro e w5 ⟨rfl, hb5⟩
  have hl5 := hl4.below hb5 (Nat.le_refl _)
  have hs5 := Nat.le_trans hs4 hb5.size
  have hbw5 := hbw4.trans (hb5.mono hs4)
  clear hb5 hbw4 hl4
  go_wp2_with fail
  refine (al_newer hl5 1 2 false (by kernel_rfl)).mono ?_
  rintro e w6 ⟨rfl, hb6⟩
  have hl6 := hl5.below hb6 (Nat.le_refl _)
  have hs6 := Nat.le_trans hs5 hb6.size
  have hbw6 := hbw5.trans (hb6.mono hs5)
  clear hb6 hbw5 hl5
  go_wp2_with fail
  refine (al_add hl6 hs6).mono ?_
  rintro e w7 ⟨rfl, hb7⟩
  have hbw7 := hbw6.trans hb7
  go_wp2_with fail
  go_ret
  exact ⟨rfl, hbw7⟩
end
end Go.Proofs.YtmdidmllaldbaaaGreat
