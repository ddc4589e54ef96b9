/- The walks of slices.Index (of ints) and of a client's Take and Result (printed by wip/gen_clii.py). -/
import Derived.Test.YtfogoebflfkknaaCliH
namespace Go.Proofs.Ytfogoebflfkknaa
open Go.Conc Go.RowKit
set_option linter.unusedVariables false
/-- The first place at which x stands, or -1. -/
def idxI (l : List Int) (x : Int) : Int := match l with | [] => -1 | y :: t => if x = y then 0 else if idxI t x < 0 then -1 else idxI t x + 1
theorem idxI_range (l : List Int) (x : Int) : -1 ≤ idxI l x ∧ idxI l x < l.length := by
  induction l with
  | nil => simp [idxI]
  | cons y t ih =>
    unfold idxI
    by_cases h : x = y
    · rw [if_pos h]; simp
    · rw [if_neg h]
      by_cases h2 : idxI t x < 0
      · rw [if_pos h2]; simp; omega
      · rw [if_neg h2]; simp; omega
theorem idxI_none {l : List Int} {x : Int} (h : ∀ y ∈ l, y ≠ x) : idxI l x = -1 := by
  induction l with
  | nil => rfl
  | cons y t ih =>
    unfold idxI
    rw [if_neg (fun e => h y (by simp) e.symm), ih (fun z hz => h z (by simp [hz]))]
    rfl
theorem idxI_at {l : List Int} {x : Int} (k : Nat) (h : l[k]? = some x) (hn : ∀ j y, j < k → l[j]? = some y → y ≠ x) : idxI l x = k := by
  induction l generalizing k with
  | nil => simp at h
  | cons y t ih =>
    unfold idxI
    cases k with
    | zero =>
      have : y = x := by simpa using h
      rw [if_pos this.symm]; rfl
    | succ k =>
      have h0 : y ≠ x := hn 0 y (by omega) (by simp)
      have := ih k (by simpa using h) (fun j z hj hz => hn (j + 1) z (by omega) (by simpa using hz))
      rw [if_neg (fun e => h0 e.symm), this, if_neg (by omega)]
      omega
theorem idxI_stop (l : List Int) (x : Int) : (0 ≤ idxI l x → l[(idxI l x).toNat]? = some x ∧ ∀ j y, j < (idxI l x).toNat → l[j]? = some y → y ≠ x) ∧ (idxI l x < 0 → ∀ y ∈ l, y ≠ x) := by
  induction l with
  | nil => simp [idxI]
  | cons z t ih =>
    unfold idxI
    by_cases h : x = z
    · rw [if_pos h]
      refine ⟨fun _ => ⟨by simp [h], fun j y hj _ => by simp at hj⟩, fun hh => by omega⟩
    · rw [if_neg h]
      by_cases h2 : idxI t x < 0
      · rw [if_pos h2]
        refine ⟨fun hh => by omega, fun _ y hy => ?_⟩
        rcases List.mem_cons.1 hy with rfl | hy
        · exact fun e => h e.symm
        · exact ih.2 h2 y hy
      · rw [if_neg h2]
        obtain ⟨a, b⟩ := ih.1 (by omega)
        have e : (idxI t x + 1).toNat = (idxI t x).toNat + 1 := by omega
        refine ⟨fun _ => ⟨by rw [e]; simpa using a, fun j y hj hy => ?_⟩, fun hh => by omega⟩
        rw [e] at hj
        cases j with
        | zero => have : z = y := by simpa using hy
                  exact fun e => h (by rw [← e, this])
        | succ j => exact b j y (by omega) (by simpa using hy)
/-- The index is what a walk from the front finds. -/
theorem idxI_found {l : List Int} {x : Int} (k : Nat) (h : l[k]? = some x) (hn : ∀ j y, j < k → l[j]? = some y → y ≠ x) : Ending.returned (.int .i64 (k : Int)) = .returned (.int .i64 (idxI l x)) := by rw [idxI_at k h hn]
def Seen (l : List Int) (x : Int) (k : Nat) : Prop := ∀ j y, j < k → l[j]? = some y → y ≠ x
set_option maxHeartbeats 400000 in
theorem index_any (gn : Nat) (cap : Nat) (l : List Int) (x : Int) (w : World) (hl : l.length ≤ 100) (hc : ∀ i n, l[i]? = some n → w.cell? ⟨gn, i, none⟩ = some (.int .i64 n)) :
    Calls Try.prog 78 #[.slice (some ⟨gn, 0, none⟩) l.length cap, .int .i64 x] w fun e w' => e = .returned (.int .i64 (idxI l x)) ∧ w = w' := by
  have HC := Lib.hid hc
  clear hc
  go_enter Try.func78, Try.ntmps78
  go_wp2_with fail
  go_loop [8] (fun i => ∃ k : Nat, k ≤ l.length ∧ i = .int .i64 k ∧ Seen l x k) (fun i => l.length - (intOf i).toNat)
  case atStart => exact ⟨0, Nat.zero_le _, rfl, fun j y hj => by omega⟩
  case round =>
    obtain ⟨k, hk, rfl, hs⟩ := hrel
    have HS := Lib.hid hs
    clear hs
    by_cases hlt : k < l.length
    · obtain ⟨n, hn⟩ : ∃ n, l[k]? = some n := ⟨l[k], List.getElem?_eq_getElem hlt⟩
      have c0 := HC.out k n hn
      have HN := Lib.hid hn
      clear hn
      by_cases he : x = n
      · have d1 : (x == n) = true := by simpa using he
        have HE := Lib.hid he
        clear he
        go_wp2_with fail
        go_ret
        exact ⟨idxI_found k (by rw [HN.out, HE.out]) HS.out, rfl⟩
      · have d1 : (x == n) = false := by simpa using he
        have HE := Lib.hid he
        clear he
        go_wp2_with fail
        go_round
        case rel =>
          refine ⟨k + 1, by omega, by go_num, fun j y hj hy => ?_⟩
          rcases Nat.lt_or_ge j k with h | h
          · exact HS.out j y h hy
          · have : j = k := by omega
            rw [this, HN.out] at hy
            injection hy with hy
            rw [← hy]; exact fun e => HE.out e.symm
        case measure => simp [intOf]; omega
    · go_wp2_with fail
      go_ret
      refine ⟨ret_int (idxI_none fun y hy => ?_).symm, rfl⟩
      obtain ⟨j, hj, rfl⟩ := List.getElem_of_mem hy
      exact HS.out j _ (by omega) (List.getElem?_eq_getElem hj)
variable {w0 W : World} {B b gn ch cap : Nat} {v : CliV} {q : List (Int × RepV)}
def pkAgg (fr dst : Int) (d : ByteArray) : Value := .agg #[.int .i64 fr, .int .i64 dst, .string d]

set_option maxRecDepth 20000 in
set_option maxHeartbeats 2000000 in
theorem take_shut (h : Cli w0 W B b gn ch cap v q) (ho : v.opn = false) (fr : Int) (d : ByteArray) : Calls Try.prog 39 #[.pointer (some ⟨b, 0, none⟩), .agg #[.int .i64 fr, .int .i64 v.id, .string d]] W fun e w' => e = .returned (.slice none 0 0) ∧ Cli w0 w' B b gn ch cap v q ∧ FarC W w' b ch := by
  have HH := Lib.hid h
  have hP : OnePk (W.alloc (.cells #[.int .i64 fr, .int .i64 v.id, .string d] 65)) W.heap.size fr v.id d := heap_alloc_new W _
  have hF := FarC.below (b := b) (ch := ch) ((Below.refl W.heap.size W).alloc (Nat.le_refl _) (.cells #[.int .i64 fr, .int .i64 v.id, .string d] 65))
  have hH := h.step ((Below.refl W.heap.size W).alloc (Nat.le_refl _) (.cells #[.int .i64 fr, .int .i64 v.id, .string d] 65))
  have HP := Lib.hid hP
  have HF := Lib.hid hF
  have HH := Lib.hid hH
  clear h hP hF hH
  have HO := Lib.hid ho

  clear ho
  go_enter Try.func39, Try.ntmps39
  go_wp2_with fail
  generalize hg : W.heap.size = g at HP ⊢
  generalize W.alloc (.cells #[.int .i64 fr, .int .i64 v.id, .string d] 65) = W1 at HP HF HH ⊢
  clear hg
  have hq : ∀ p : SinceW W1.heap.size W1, Cli w0 p.w B b gn ch cap v q ∧ OnePk p.w g fr v.id d := fun p => ⟨HH.out.step p.h, (p.h.block g (blk_lt HP.out)).trans HP.out⟩
  have a0 : ∀ p : SinceW W1.heap.size W1, p.w.cell? ⟨b, 0, none⟩ = some (.int .i64 v.id) := fun p => (hq p).1.cell 0
  have a14 : ∀ p : SinceW W1.heap.size W1, p.w.cell? ⟨b, 14, none⟩ = some (.bool false) := fun p => by rw [(hq p).1.cell 14]; show some (Value.bool v.opn) = _; rw [HO.out]
  have a1 : ∀ p : SinceW W1.heap.size W1, p.w.cell? ⟨g, 1, none⟩ = some (.int .i64 v.id) := fun p => blk_cell (hq p).2 1
  have HN := Lib.hid (fun p : SinceW W1.heap.size W1 => none_yes (hq p).1)
  have dd : (v.id != v.id) = false := by simp
  clear hq
  refine wp_region_since (B := W1.heap.size) (W0 := W1) (by kernel_rfl) (by kernel_rfl) (Below.refl _ _) ?_
  repeat (go_big_quiet_step ((go_at_call 73; exact since_same (HN.out _))))
  refine wpQuiet_nil ?_
  intro w5 hw'
  have hv5 : Below W1.heap.size W1 w5 := by obtain ⟨p, rfl⟩ := hw'; exact p.h
  clear hw' a0 a14 a1 HN dd
  have h5 := HH.out.step hv5
  have hP5 : OnePk w5 g fr v.id d := (hv5.block g (blk_lt HP.out)).trans HP.out
  have hF5 := HF.out.trans (FarC.below (b := b) (ch := ch) hv5)
  clear HH HP HF hv5
  have HX := Lib.hid (And.intro h5 hF5)
  clear h5 hP5 hF5
  go_wp2_with fail
  go_ret
  exact ⟨rfl, HX.out⟩

set_option maxRecDepth 20000 in
set_option maxHeartbeats 2000000 in
theorem take_bad (h : Cli w0 W B b gn ch cap v q) (ho : v.opn = true) (fr : Int) (d : ByteArray) (n l : Int) (r : RepV) (ge : Int) (ht : ∀ W, Calls Try.prog 27 #[.string d] W fun e w' => e = .returned (.tuple #[.int .i64 n, .int .i64 l, r.agg, .int .i64 ge]) ∧ Below W.heap.size W w') (hbad : ge ≠ 0 ∨ (ge = 0 ∧ n ≠ v.num)) : Calls Try.prog 39 #[.pointer (some ⟨b, 0, none⟩), .agg #[.int .i64 fr, .int .i64 v.id, .string d]] W fun e w' => e = .returned (.slice none 0 0) ∧ Cli w0 w' B b gn ch cap v q ∧ FarC W w' b ch := by
  have hrk : r.agg = .agg #[.int .i64 r.err, .string r.val, .int .i64 r.num] := rfl
  rw [hrk] at ht
  clear hrk
  have HH := Lib.hid h
  have hP : OnePk (W.alloc (.cells #[.int .i64 fr, .int .i64 v.id, .string d] 65)) W.heap.size fr v.id d := heap_alloc_new W _
  have hF := FarC.below (b := b) (ch := ch) ((Below.refl W.heap.size W).alloc (Nat.le_refl _) (.cells #[.int .i64 fr, .int .i64 v.id, .string d] 65))
  have hH := h.step ((Below.refl W.heap.size W).alloc (Nat.le_refl _) (.cells #[.int .i64 fr, .int .i64 v.id, .string d] 65))
  have HP := Lib.hid hP
  have HF := Lib.hid hF
  have HH := Lib.hid hH
  clear h hP hF hH
  have HO := Lib.hid ho

  clear ho
  go_enter Try.func39, Try.ntmps39
  go_wp2_with fail
  generalize hg : W.heap.size = g at HP ⊢
  generalize W.alloc (.cells #[.int .i64 fr, .int .i64 v.id, .string d] 65) = W1 at HP HF HH ⊢
  clear hg
  have hq : ∀ p : SinceW W1.heap.size W1, Cli w0 p.w B b gn ch cap v q ∧ OnePk p.w g fr v.id d := fun p => ⟨HH.out.step p.h, (p.h.block g (blk_lt HP.out)).trans HP.out⟩
  have a0 : ∀ p : SinceW W1.heap.size W1, p.w.cell? ⟨b, 0, none⟩ = some (.int .i64 v.id) := fun p => (hq p).1.cell 0
  have a14 : ∀ p : SinceW W1.heap.size W1, p.w.cell? ⟨b, 14, none⟩ = some (.bool true) := fun p => by rw [(hq p).1.cell 14]; show some (Value.bool v.opn) = _; rw [HO.out]
  have a1 : ∀ p : SinceW W1.heap.size W1, p.w.cell? ⟨g, 1, none⟩ = some (.int .i64 v.id) := fun p => blk_cell (hq p).2 1
  have HN := Lib.hid (fun p : SinceW W1.heap.size W1 => none_yes (hq p).1)
  have dd : (v.id != v.id) = false := by simp
  clear hq
  refine wp_region_since (B := W1.heap.size) (W0 := W1) (by kernel_rfl) (by kernel_rfl) (Below.refl _ _) ?_
  repeat (go_big_quiet_step ((go_at_call 73; exact since_same (HN.out _))))
  refine wpQuiet_nil ?_
  intro w5 hw'
  have hv5 : Below W1.heap.size W1 w5 := by obtain ⟨p, rfl⟩ := hw'; exact p.h
  clear hw' a0 a14 a1 HN dd
  have h5 := HH.out.step hv5
  have hP5 : OnePk w5 g fr v.id d := (hv5.block g (blk_lt HP.out)).trans HP.out
  have hF5 := HF.out.trans (FarC.below (b := b) (ch := ch) hv5)
  clear HH HP HF hv5
  have HT := Lib.hid ht
  clear ht
  have x2 : w5.cell? ⟨g, 2, none⟩ = some (.string d) := blk_cell hP5 2
  have HX := Lib.hid (And.intro h5 hF5)
  have hlt : b < w5.heap.size := h5.blt
  clear h5 hP5 hF5
  go_wp2_with fail
  refine (HT.out _).mono ?_
  rintro e w6 ⟨rfl, hb6⟩
  have h6 := HX.out.1.step hb6
  have hF6 := HX.out.2.trans (FarC.below (b := b) (ch := ch) hb6)
  clear HX HT x2 hb6 hlt
  have hA : Below w6.heap.size w6 (w6.alloc (.cells #[.int .i64 r.err, .string r.val, .int .i64 r.num] 26)) := (Below.refl _ _).alloc (Nat.le_refl _) _
  have h7 := h6.step hA
  have hF7 := hF6.trans (FarC.below (b := b) (ch := ch) hA)
  have hR : RepBlk (w6.alloc (.cells #[.int .i64 r.err, .string r.val, .int .i64 r.num] 26)) w6.heap.size r := heap_alloc_new w6 _
  have HX := Lib.hid (And.intro h7 hF7)
  have c8 : w6.cell? ⟨b, 13, none⟩ = some (.int .i64 v.num) := h6.cell 13
  have hb7 : b < w6.heap.size := h6.blt
  clear h6 hF6 hA h7 hF7 hR
  rcases hbad with hd | ⟨rfl, hd⟩
  · have d1 : (ge != 0) = true := by simpa using hd
    clear hd
    go_wp2_with fail
    go_ret
    exact ⟨rfl, HX.out⟩
  · have d1 : (n != (v.num : Int)) = true := by simpa using hd
    clear hd
    go_wp2_with fail
    go_ret
    exact ⟨rfl, HX.out⟩

set_option maxRecDepth 20000 in
set_option maxHeartbeats 2000000 in
theorem take_busy (h : Cli w0 W B b gn ch cap v q) (ho : v.opn = true) (fr : Int) (d : ByteArray) (l : Int) (r : RepV) (ht : ∀ W, Calls Try.prog 27 #[.string d] W fun e w' => e = .returned (.tuple #[.int .i64 v.num, .int .i64 l, r.agg, .int .i64 0]) ∧ Below W.heap.size W w') (he : r.err = 22) : Calls Try.prog 39 #[.pointer (some ⟨b, 0, none⟩), .agg #[.int .i64 fr, .int .i64 v.id, .string d]] W fun e w' => e = .returned (.slice none 0 0) ∧ Cli w0 w' B b gn ch cap { v with wait := 4, stays := true } q ∧ FarC W w' b ch := by
  have hrk : r.agg = .agg #[.int .i64 r.err, .string r.val, .int .i64 r.num] := rfl
  rw [hrk] at ht
  clear hrk
  have HH := Lib.hid h
  have hP : OnePk (W.alloc (.cells #[.int .i64 fr, .int .i64 v.id, .string d] 65)) W.heap.size fr v.id d := heap_alloc_new W _
  have hF := FarC.below (b := b) (ch := ch) ((Below.refl W.heap.size W).alloc (Nat.le_refl _) (.cells #[.int .i64 fr, .int .i64 v.id, .string d] 65))
  have hH := h.step ((Below.refl W.heap.size W).alloc (Nat.le_refl _) (.cells #[.int .i64 fr, .int .i64 v.id, .string d] 65))
  have HP := Lib.hid hP
  have HF := Lib.hid hF
  have HH := Lib.hid hH
  clear h hP hF hH
  have HO := Lib.hid ho
  have d1 : (r.err == 21) = false := by rw [he]; rfl
  have d2 : (r.err == 22) = true := by rw [he]; rfl
  clear he
  clear ho
  go_enter Try.func39, Try.ntmps39
  go_wp2_with fail
  generalize hg : W.heap.size = g at HP ⊢
  generalize W.alloc (.cells #[.int .i64 fr, .int .i64 v.id, .string d] 65) = W1 at HP HF HH ⊢
  clear hg
  have hq : ∀ p : SinceW W1.heap.size W1, Cli w0 p.w B b gn ch cap v q ∧ OnePk p.w g fr v.id d := fun p => ⟨HH.out.step p.h, (p.h.block g (blk_lt HP.out)).trans HP.out⟩
  have a0 : ∀ p : SinceW W1.heap.size W1, p.w.cell? ⟨b, 0, none⟩ = some (.int .i64 v.id) := fun p => (hq p).1.cell 0
  have a14 : ∀ p : SinceW W1.heap.size W1, p.w.cell? ⟨b, 14, none⟩ = some (.bool true) := fun p => by rw [(hq p).1.cell 14]; show some (Value.bool v.opn) = _; rw [HO.out]
  have a1 : ∀ p : SinceW W1.heap.size W1, p.w.cell? ⟨g, 1, none⟩ = some (.int .i64 v.id) := fun p => blk_cell (hq p).2 1
  have HN := Lib.hid (fun p : SinceW W1.heap.size W1 => none_yes (hq p).1)
  have dd : (v.id != v.id) = false := by simp
  clear hq
  refine wp_region_since (B := W1.heap.size) (W0 := W1) (by kernel_rfl) (by kernel_rfl) (Below.refl _ _) ?_
  repeat (go_big_quiet_step ((go_at_call 73; exact since_same (HN.out _))))
  refine wpQuiet_nil ?_
  intro w5 hw'
  have hv5 : Below W1.heap.size W1 w5 := by obtain ⟨p, rfl⟩ := hw'; exact p.h
  clear hw' a0 a14 a1 HN dd
  have h5 := HH.out.step hv5
  have hP5 : OnePk w5 g fr v.id d := (hv5.block g (blk_lt HP.out)).trans HP.out
  have hF5 := HF.out.trans (FarC.below (b := b) (ch := ch) hv5)
  clear HH HP HF hv5
  have HT := Lib.hid ht
  clear ht
  have x2 : w5.cell? ⟨g, 2, none⟩ = some (.string d) := blk_cell hP5 2
  have HX := Lib.hid (And.intro h5 hF5)
  have hlt : b < w5.heap.size := h5.blt
  clear h5 hP5 hF5
  go_wp2_with fail
  refine (HT.out _).mono ?_
  rintro e w6 ⟨rfl, hb6⟩
  have h6 := HX.out.1.step hb6
  have hF6 := HX.out.2.trans (FarC.below (b := b) (ch := ch) hb6)
  clear HX HT x2 hb6 hlt
  have hA : Below w6.heap.size w6 (w6.alloc (.cells #[.int .i64 r.err, .string r.val, .int .i64 r.num] 26)) := (Below.refl _ _).alloc (Nat.le_refl _) _
  have h7 := h6.step hA
  have hF7 := hF6.trans (FarC.below (b := b) (ch := ch) hA)
  have hR : RepBlk (w6.alloc (.cells #[.int .i64 r.err, .string r.val, .int .i64 r.num] 26)) w6.heap.size r := heap_alloc_new w6 _
  have HX := Lib.hid (And.intro h7 hF7)
  have c8 : w6.cell? ⟨b, 13, none⟩ = some (.int .i64 v.num) := h6.cell 13
  have hb7 : b < w6.heap.size := h6.blt
  clear h6 hF6 hA h7 hF7 hR
  have HZ := Lib.hid (pause_any HX.out.1)
  go_wp2_with fail
  refine HZ.out.mono ?_
  rintro e w8 ⟨rfl, h8, hF8⟩
  have HY := Lib.hid (And.intro h8 (HX.out.2.trans hF8))
  clear h8 hF8 HX HZ
  go_wp2_with fail
  go_ret
  exact ⟨rfl, HY.out⟩

set_option maxRecDepth 20000 in
set_option maxHeartbeats 2000000 in
theorem take_full (h : Cli w0 W B b gn ch cap v q) (ho : v.opn = true) (fr : Int) (d : ByteArray) (l : Int) (r : RepV) (ht : ∀ W, Calls Try.prog 27 #[.string d] W fun e w' => e = .returned (.tuple #[.int .i64 v.num, .int .i64 l, r.agg, .int .i64 0]) ∧ Below W.heap.size W w') (he : r.err = 10) : Calls Try.prog 39 #[.pointer (some ⟨b, 0, none⟩), .agg #[.int .i64 fr, .int .i64 v.id, .string d]] W fun e w' => e = .returned (.slice none 0 0) ∧ Cli w0 w' B b gn ch cap { v with wait := 4, stays := true } q ∧ FarC W w' b ch := by
  have hrk : r.agg = .agg #[.int .i64 r.err, .string r.val, .int .i64 r.num] := rfl
  rw [hrk] at ht
  clear hrk
  have HH := Lib.hid h
  have hP : OnePk (W.alloc (.cells #[.int .i64 fr, .int .i64 v.id, .string d] 65)) W.heap.size fr v.id d := heap_alloc_new W _
  have hF := FarC.below (b := b) (ch := ch) ((Below.refl W.heap.size W).alloc (Nat.le_refl _) (.cells #[.int .i64 fr, .int .i64 v.id, .string d] 65))
  have hH := h.step ((Below.refl W.heap.size W).alloc (Nat.le_refl _) (.cells #[.int .i64 fr, .int .i64 v.id, .string d] 65))
  have HP := Lib.hid hP
  have HF := Lib.hid hF
  have HH := Lib.hid hH
  clear h hP hF hH
  have HO := Lib.hid ho
  have d1 : (r.err == 21) = false := by rw [he]; rfl
  have d2 : (r.err == 22) = false := by rw [he]; rfl
  have d3 : (r.err == 10) = true := by rw [he]; rfl
  clear he
  clear ho
  go_enter Try.func39, Try.ntmps39
  go_wp2_with fail
  generalize hg : W.heap.size = g at HP ⊢
  generalize W.alloc (.cells #[.int .i64 fr, .int .i64 v.id, .string d] 65) = W1 at HP HF HH ⊢
  clear hg
  have hq : ∀ p : SinceW W1.heap.size W1, Cli w0 p.w B b gn ch cap v q ∧ OnePk p.w g fr v.id d := fun p => ⟨HH.out.step p.h, (p.h.block g (blk_lt HP.out)).trans HP.out⟩
  have a0 : ∀ p : SinceW W1.heap.size W1, p.w.cell? ⟨b, 0, none⟩ = some (.int .i64 v.id) := fun p => (hq p).1.cell 0
  have a14 : ∀ p : SinceW W1.heap.size W1, p.w.cell? ⟨b, 14, none⟩ = some (.bool true) := fun p => by rw [(hq p).1.cell 14]; show some (Value.bool v.opn) = _; rw [HO.out]
  have a1 : ∀ p : SinceW W1.heap.size W1, p.w.cell? ⟨g, 1, none⟩ = some (.int .i64 v.id) := fun p => blk_cell (hq p).2 1
  have HN := Lib.hid (fun p : SinceW W1.heap.size W1 => none_yes (hq p).1)
  have dd : (v.id != v.id) = false := by simp
  clear hq
  refine wp_region_since (B := W1.heap.size) (W0 := W1) (by kernel_rfl) (by kernel_rfl) (Below.refl _ _) ?_
  repeat (go_big_quiet_step ((go_at_call 73; exact since_same (HN.out _))))
  refine wpQuiet_nil ?_
  intro w5 hw'
  have hv5 : Below W1.heap.size W1 w5 := by obtain ⟨p, rfl⟩ := hw'; exact p.h
  clear hw' a0 a14 a1 HN dd
  have h5 := HH.out.step hv5
  have hP5 : OnePk w5 g fr v.id d := (hv5.block g (blk_lt HP.out)).trans HP.out
  have hF5 := HF.out.trans (FarC.below (b := b) (ch := ch) hv5)
  clear HH HP HF hv5
  have HT := Lib.hid ht
  clear ht
  have x2 : w5.cell? ⟨g, 2, none⟩ = some (.string d) := blk_cell hP5 2
  have HX := Lib.hid (And.intro h5 hF5)
  have hlt : b < w5.heap.size := h5.blt
  clear h5 hP5 hF5
  go_wp2_with fail
  refine (HT.out _).mono ?_
  rintro e w6 ⟨rfl, hb6⟩
  have h6 := HX.out.1.step hb6
  have hF6 := HX.out.2.trans (FarC.below (b := b) (ch := ch) hb6)
  clear HX HT x2 hb6 hlt
  have hA : Below w6.heap.size w6 (w6.alloc (.cells #[.int .i64 r.err, .string r.val, .int .i64 r.num] 26)) := (Below.refl _ _).alloc (Nat.le_refl _) _
  have h7 := h6.step hA
  have hF7 := hF6.trans (FarC.below (b := b) (ch := ch) hA)
  have hR : RepBlk (w6.alloc (.cells #[.int .i64 r.err, .string r.val, .int .i64 r.num] 26)) w6.heap.size r := heap_alloc_new w6 _
  have HX := Lib.hid (And.intro h7 hF7)
  have c8 : w6.cell? ⟨b, 13, none⟩ = some (.int .i64 v.num) := h6.cell 13
  have hb7 : b < w6.heap.size := h6.blt
  clear h6 hF6 hA h7 hF7 hR
  have HZ := Lib.hid (pause_any HX.out.1)
  go_wp2_with fail
  refine HZ.out.mono ?_
  rintro e w8 ⟨rfl, h8, hF8⟩
  have HY := Lib.hid (And.intro h8 (HX.out.2.trans hF8))
  clear h8 hF8 HX HZ
  go_wp2_with fail
  go_ret
  exact ⟨rfl, HY.out⟩

set_option maxRecDepth 20000 in
set_option maxHeartbeats 2000000 in
theorem take_lead_in (h : Cli w0 W B b gn ch cap v q) (ho : v.opn = true) (fr : Int) (d : ByteArray) (l : Int) (r : RepV) (ht : ∀ W, Calls Try.prog 27 #[.string d] W fun e w' => e = .returned (.tuple #[.int .i64 v.num, .int .i64 l, r.agg, .int .i64 0]) ∧ Below W.heap.size W w') (he : r.err = 21) (k : Nat) (hi : idxI v.nodes l = k) : Calls Try.prog 39 #[.pointer (some ⟨b, 0, none⟩), .agg #[.int .i64 fr, .int .i64 v.id, .string d]] W fun e w' => e = .returned (.slice none 0 0) ∧ Cli w0 w' B b gn ch cap { v with cur := k, wait := 4, stays := true } q ∧ FarC W w' b ch := by
  have hrk : r.agg = .agg #[.int .i64 r.err, .string r.val, .int .i64 r.num] := rfl
  rw [hrk] at ht
  clear hrk
  have HH := Lib.hid h
  have hP : OnePk (W.alloc (.cells #[.int .i64 fr, .int .i64 v.id, .string d] 65)) W.heap.size fr v.id d := heap_alloc_new W _
  have hF := FarC.below (b := b) (ch := ch) ((Below.refl W.heap.size W).alloc (Nat.le_refl _) (.cells #[.int .i64 fr, .int .i64 v.id, .string d] 65))
  have hH := h.step ((Below.refl W.heap.size W).alloc (Nat.le_refl _) (.cells #[.int .i64 fr, .int .i64 v.id, .string d] 65))
  have HP := Lib.hid hP
  have HF := Lib.hid hF
  have HH := Lib.hid hH
  clear h hP hF hH
  have HO := Lib.hid ho
  have d1 : (r.err == 21) = true := by rw [he]; rfl
  clear he
  clear ho
  go_enter Try.func39, Try.ntmps39
  go_wp2_with fail
  generalize hg : W.heap.size = g at HP ⊢
  generalize W.alloc (.cells #[.int .i64 fr, .int .i64 v.id, .string d] 65) = W1 at HP HF HH ⊢
  clear hg
  have hq : ∀ p : SinceW W1.heap.size W1, Cli w0 p.w B b gn ch cap v q ∧ OnePk p.w g fr v.id d := fun p => ⟨HH.out.step p.h, (p.h.block g (blk_lt HP.out)).trans HP.out⟩
  have a0 : ∀ p : SinceW W1.heap.size W1, p.w.cell? ⟨b, 0, none⟩ = some (.int .i64 v.id) := fun p => (hq p).1.cell 0
  have a14 : ∀ p : SinceW W1.heap.size W1, p.w.cell? ⟨b, 14, none⟩ = some (.bool true) := fun p => by rw [(hq p).1.cell 14]; show some (Value.bool v.opn) = _; rw [HO.out]
  have a1 : ∀ p : SinceW W1.heap.size W1, p.w.cell? ⟨g, 1, none⟩ = some (.int .i64 v.id) := fun p => blk_cell (hq p).2 1
  have HN := Lib.hid (fun p : SinceW W1.heap.size W1 => none_yes (hq p).1)
  have dd : (v.id != v.id) = false := by simp
  clear hq
  refine wp_region_since (B := W1.heap.size) (W0 := W1) (by kernel_rfl) (by kernel_rfl) (Below.refl _ _) ?_
  repeat (go_big_quiet_step ((go_at_call 73; exact since_same (HN.out _))))
  refine wpQuiet_nil ?_
  intro w5 hw'
  have hv5 : Below W1.heap.size W1 w5 := by obtain ⟨p, rfl⟩ := hw'; exact p.h
  clear hw' a0 a14 a1 HN dd
  have h5 := HH.out.step hv5
  have hP5 : OnePk w5 g fr v.id d := (hv5.block g (blk_lt HP.out)).trans HP.out
  have hF5 := HF.out.trans (FarC.below (b := b) (ch := ch) hv5)
  clear HH HP HF hv5
  have HT := Lib.hid ht
  clear ht
  have x2 : w5.cell? ⟨g, 2, none⟩ = some (.string d) := blk_cell hP5 2
  have HX := Lib.hid (And.intro h5 hF5)
  have hlt : b < w5.heap.size := h5.blt
  clear h5 hP5 hF5
  go_wp2_with fail
  refine (HT.out _).mono ?_
  rintro e w6 ⟨rfl, hb6⟩
  have h6 := HX.out.1.step hb6
  have hF6 := HX.out.2.trans (FarC.below (b := b) (ch := ch) hb6)
  clear HX HT x2 hb6 hlt
  have hA : Below w6.heap.size w6 (w6.alloc (.cells #[.int .i64 r.err, .string r.val, .int .i64 r.num] 26)) := (Below.refl _ _).alloc (Nat.le_refl _) _
  have h7 := h6.step hA
  have hF7 := hF6.trans (FarC.below (b := b) (ch := ch) hA)
  have hR : RepBlk (w6.alloc (.cells #[.int .i64 r.err, .string r.val, .int .i64 r.num] 26)) w6.heap.size r := heap_alloc_new w6 _
  have HX := Lib.hid (And.intro h7 hF7)
  have c8 : w6.cell? ⟨b, 13, none⟩ = some (.int .i64 v.num) := h6.cell 13
  have hb7 : b < w6.heap.size := h6.blt
  have H6 := Lib.hid (And.intro h6 hF6)
  have c1 : w6.cell? ⟨b, 1, none⟩ = some (.slice (some ⟨gn, 0, none⟩) v.nodes.length cap) := h6.cell 1
  have c2 : w6.cell? ⟨b, 2, none⟩ = some (.int .i64 v.cur) := h6.cell 2
  have f2 := h6.fr 2
  clear h6 hF6 hA h7 hF7 hR
  have hI := index_any gn cap v.nodes l (w6.alloc (.cells #[.int .i64 r.err, .string r.val, .int .i64 r.num] 26)) HX.out.1.few HX.out.1.nds
  rw [hi] at hI
  have HI := Lib.hid hI
  have hix := idxI_range v.nodes l
  rw [hi] at hix
  have HE := Lib.hid hix
  clear hi hI hix
  go_wp2_with fail
  refine HI.out.mono ?_
  rintro e w7 ⟨rfl, rfl⟩
  have HW := Lib.hid (H6.out.1.upd3 H6.out.2 { v with cur := k } (blk_set H6.out.1.blk 2 (.int .i64 (k : Int))) (grown_set _ _ _ _) (H6.out.1.below.setCell H6.out.1.hb _) (by simp [cliCells]) rfl (by have := HE.out; show k < v.nodes.length; omega))
  have hA : Below (w6.setCell ⟨b, 2, none⟩ (.int .i64 (k : Int))).heap.size (w6.setCell ⟨b, 2, none⟩ (.int .i64 (k : Int))) ((w6.setCell ⟨b, 2, none⟩ (.int .i64 (k : Int))).alloc (.cells #[.int .i64 r.err, .string r.val, .int .i64 r.num] 26)) := (Below.refl _ _).alloc (Nat.le_refl _) _
  have HW := Lib.hid (And.intro (HW.out.1.step hA) (HW.out.2.trans (FarC.below (b := b) (ch := ch) hA)))
  have HZ := Lib.hid (pause_any HW.out.1)
  clear hA HI H6
  go_wp2_with fail
  refine HZ.out.mono ?_
  rintro e w8 ⟨rfl, h8, hF8⟩
  have HY := Lib.hid (And.intro h8 (HW.out.2.trans hF8))
  clear h8 hF8 HX HZ HW
  go_wp2_with fail
  go_ret
  exact ⟨rfl, HY.out⟩

set_option maxRecDepth 20000 in
set_option maxHeartbeats 2000000 in
theorem take_lead_out (h : Cli w0 W B b gn ch cap v q) (ho : v.opn = true) (fr : Int) (d : ByteArray) (l : Int) (r : RepV) (ht : ∀ W, Calls Try.prog 27 #[.string d] W fun e w' => e = .returned (.tuple #[.int .i64 v.num, .int .i64 l, r.agg, .int .i64 0]) ∧ Below W.heap.size W w') (he : r.err = 21) (hi : idxI v.nodes l = -1) : Calls Try.prog 39 #[.pointer (some ⟨b, 0, none⟩), .agg #[.int .i64 fr, .int .i64 v.id, .string d]] W fun e w' => e = .returned (.slice none 0 0) ∧ Cli w0 w' B b gn ch cap { v with cur := (v.cur + 1) % v.nodes.length, wait := 4, stays := true } q ∧ FarC W w' b ch := by
  have hrk : r.agg = .agg #[.int .i64 r.err, .string r.val, .int .i64 r.num] := rfl
  rw [hrk] at ht
  clear hrk
  have HH := Lib.hid h
  have hP : OnePk (W.alloc (.cells #[.int .i64 fr, .int .i64 v.id, .string d] 65)) W.heap.size fr v.id d := heap_alloc_new W _
  have hF := FarC.below (b := b) (ch := ch) ((Below.refl W.heap.size W).alloc (Nat.le_refl _) (.cells #[.int .i64 fr, .int .i64 v.id, .string d] 65))
  have hH := h.step ((Below.refl W.heap.size W).alloc (Nat.le_refl _) (.cells #[.int .i64 fr, .int .i64 v.id, .string d] 65))
  have HP := Lib.hid hP
  have HF := Lib.hid hF
  have HH := Lib.hid hH
  clear h hP hF hH
  have HO := Lib.hid ho
  have d1 : (r.err == 21) = true := by rw [he]; rfl
  clear he
  clear ho
  go_enter Try.func39, Try.ntmps39
  go_wp2_with fail
  generalize hg : W.heap.size = g at HP ⊢
  generalize W.alloc (.cells #[.int .i64 fr, .int .i64 v.id, .string d] 65) = W1 at HP HF HH ⊢
  clear hg
  have hq : ∀ p : SinceW W1.heap.size W1, Cli w0 p.w B b gn ch cap v q ∧ OnePk p.w g fr v.id d := fun p => ⟨HH.out.step p.h, (p.h.block g (blk_lt HP.out)).trans HP.out⟩
  have a0 : ∀ p : SinceW W1.heap.size W1, p.w.cell? ⟨b, 0, none⟩ = some (.int .i64 v.id) := fun p => (hq p).1.cell 0
  have a14 : ∀ p : SinceW W1.heap.size W1, p.w.cell? ⟨b, 14, none⟩ = some (.bool true) := fun p => by rw [(hq p).1.cell 14]; show some (Value.bool v.opn) = _; rw [HO.out]
  have a1 : ∀ p : SinceW W1.heap.size W1, p.w.cell? ⟨g, 1, none⟩ = some (.int .i64 v.id) := fun p => blk_cell (hq p).2 1
  have HN := Lib.hid (fun p : SinceW W1.heap.size W1 => none_yes (hq p).1)
  have dd : (v.id != v.id) = false := by simp
  clear hq
  refine wp_region_since (B := W1.heap.size) (W0 := W1) (by kernel_rfl) (by kernel_rfl) (Below.refl _ _) ?_
  repeat (go_big_quiet_step ((go_at_call 73; exact since_same (HN.out _))))
  refine wpQuiet_nil ?_
  intro w5 hw'
  have hv5 : Below W1.heap.size W1 w5 := by obtain ⟨p, rfl⟩ := hw'; exact p.h
  clear hw' a0 a14 a1 HN dd
  have h5 := HH.out.step hv5
  have hP5 : OnePk w5 g fr v.id d := (hv5.block g (blk_lt HP.out)).trans HP.out
  have hF5 := HF.out.trans (FarC.below (b := b) (ch := ch) hv5)
  clear HH HP HF hv5
  have HT := Lib.hid ht
  clear ht
  have x2 : w5.cell? ⟨g, 2, none⟩ = some (.string d) := blk_cell hP5 2
  have HX := Lib.hid (And.intro h5 hF5)
  have hlt : b < w5.heap.size := h5.blt
  clear h5 hP5 hF5
  go_wp2_with fail
  refine (HT.out _).mono ?_
  rintro e w6 ⟨rfl, hb6⟩
  have h6 := HX.out.1.step hb6
  have hF6 := HX.out.2.trans (FarC.below (b := b) (ch := ch) hb6)
  clear HX HT x2 hb6 hlt
  have hA : Below w6.heap.size w6 (w6.alloc (.cells #[.int .i64 r.err, .string r.val, .int .i64 r.num] 26)) := (Below.refl _ _).alloc (Nat.le_refl _) _
  have h7 := h6.step hA
  have hF7 := hF6.trans (FarC.below (b := b) (ch := ch) hA)
  have hR : RepBlk (w6.alloc (.cells #[.int .i64 r.err, .string r.val, .int .i64 r.num] 26)) w6.heap.size r := heap_alloc_new w6 _
  have HX := Lib.hid (And.intro h7 hF7)
  have c8 : w6.cell? ⟨b, 13, none⟩ = some (.int .i64 v.num) := h6.cell 13
  have hb7 : b < w6.heap.size := h6.blt
  have H6 := Lib.hid (And.intro h6 hF6)
  have c1 : w6.cell? ⟨b, 1, none⟩ = some (.slice (some ⟨gn, 0, none⟩) v.nodes.length cap) := h6.cell 1
  clear h6 hF6 hA h7 hF7 hR
  have hI := index_any gn cap v.nodes l (w6.alloc (.cells #[.int .i64 r.err, .string r.val, .int .i64 r.num] 26)) HX.out.1.few HX.out.1.nds
  rw [hi] at hI
  have HI := Lib.hid hI
  have hix := idxI_range v.nodes l
  rw [hi] at hix
  have HE := Lib.hid hix
  clear hi hI hix
  go_wp2_with fail
  refine HI.out.mono ?_
  rintro e w7 ⟨rfl, rfl⟩
  have HM := Lib.hid (next_any HX.out.1)
  go_wp2_with fail
  refine HM.out.mono ?_
  rintro e w7 ⟨rfl, h7, hF7⟩
  have HW := Lib.hid (And.intro h7 (HX.out.2.trans hF7))
  have HZ := Lib.hid (pause_any HW.out.1)
  clear h7 hF7 HM HI H6
  go_wp2_with fail
  refine HZ.out.mono ?_
  rintro e w8 ⟨rfl, h8, hF8⟩
  have HY := Lib.hid (And.intro h8 (HW.out.2.trans hF8))
  clear h8 hF8 HX HZ HW
  go_wp2_with fail
  go_ret
  exact ⟨rfl, HY.out⟩

set_option maxRecDepth 20000 in
set_option maxHeartbeats 2000000 in
theorem take_reg_ok (h : Cli w0 W B b gn ch cap v q) (ho : v.opn = true) (fr : Int) (d : ByteArray) (l : Int) (r : RepV) (ht : ∀ W, Calls Try.prog 27 #[.string d] W fun e w' => e = .returned (.tuple #[.int .i64 v.num, .int .i64 l, r.agg, .int .i64 0]) ∧ Below W.heap.size W w') (he : r.err = 0) (hk : v.qu.kd = 5) : Calls Try.prog 39 #[.pointer (some ⟨b, 0, none⟩), .agg #[.int .i64 fr, .int .i64 v.id, .string d]] W fun e w' => e = .returned (.slice none 0 0) ∧ Cli w0 w' B b gn ch cap { v with opn := false, ss := r.num, sq := 0 } q ∧ FarC W w' b ch := by
  have hrk : r.agg = .agg #[.int .i64 r.err, .string r.val, .int .i64 r.num] := rfl
  rw [hrk] at ht
  clear hrk
  have HH := Lib.hid h
  have hP : OnePk (W.alloc (.cells #[.int .i64 fr, .int .i64 v.id, .string d] 65)) W.heap.size fr v.id d := heap_alloc_new W _
  have hF := FarC.below (b := b) (ch := ch) ((Below.refl W.heap.size W).alloc (Nat.le_refl _) (.cells #[.int .i64 fr, .int .i64 v.id, .string d] 65))
  have hH := h.step ((Below.refl W.heap.size W).alloc (Nat.le_refl _) (.cells #[.int .i64 fr, .int .i64 v.id, .string d] 65))
  have HP := Lib.hid hP
  have HF := Lib.hid hF
  have HH := Lib.hid hH
  clear h hP hF hH
  have HO := Lib.hid ho
  have d1 : (r.err == 21) = false := by rw [he]; rfl
  have d2 : (r.err == 22) = false := by rw [he]; rfl
  have d3 : (r.err == 10) = false := by rw [he]; rfl
  have HK := Lib.hid (And.intro he hk)
  clear he hk
  clear ho
  go_enter Try.func39, Try.ntmps39
  go_wp2_with fail
  generalize hg : W.heap.size = g at HP ⊢
  generalize W.alloc (.cells #[.int .i64 fr, .int .i64 v.id, .string d] 65) = W1 at HP HF HH ⊢
  clear hg
  have hq : ∀ p : SinceW W1.heap.size W1, Cli w0 p.w B b gn ch cap v q ∧ OnePk p.w g fr v.id d := fun p => ⟨HH.out.step p.h, (p.h.block g (blk_lt HP.out)).trans HP.out⟩
  have a0 : ∀ p : SinceW W1.heap.size W1, p.w.cell? ⟨b, 0, none⟩ = some (.int .i64 v.id) := fun p => (hq p).1.cell 0
  have a14 : ∀ p : SinceW W1.heap.size W1, p.w.cell? ⟨b, 14, none⟩ = some (.bool true) := fun p => by rw [(hq p).1.cell 14]; show some (Value.bool v.opn) = _; rw [HO.out]
  have a1 : ∀ p : SinceW W1.heap.size W1, p.w.cell? ⟨g, 1, none⟩ = some (.int .i64 v.id) := fun p => blk_cell (hq p).2 1
  have HN := Lib.hid (fun p : SinceW W1.heap.size W1 => none_yes (hq p).1)
  have dd : (v.id != v.id) = false := by simp
  clear hq
  refine wp_region_since (B := W1.heap.size) (W0 := W1) (by kernel_rfl) (by kernel_rfl) (Below.refl _ _) ?_
  repeat (go_big_quiet_step ((go_at_call 73; exact since_same (HN.out _))))
  refine wpQuiet_nil ?_
  intro w5 hw'
  have hv5 : Below W1.heap.size W1 w5 := by obtain ⟨p, rfl⟩ := hw'; exact p.h
  clear hw' a0 a14 a1 HN dd
  have h5 := HH.out.step hv5
  have hP5 : OnePk w5 g fr v.id d := (hv5.block g (blk_lt HP.out)).trans HP.out
  have hF5 := HF.out.trans (FarC.below (b := b) (ch := ch) hv5)
  clear HH HP HF hv5
  have HT := Lib.hid ht
  clear ht
  have x2 : w5.cell? ⟨g, 2, none⟩ = some (.string d) := blk_cell hP5 2
  have HX := Lib.hid (And.intro h5 hF5)
  have hlt : b < w5.heap.size := h5.blt
  clear h5 hP5 hF5
  go_wp2_with fail
  refine (HT.out _).mono ?_
  rintro e w6 ⟨rfl, hb6⟩
  have h6 := HX.out.1.step hb6
  have hF6 := HX.out.2.trans (FarC.below (b := b) (ch := ch) hb6)
  clear HX HT x2 hb6 hlt
  have hA : Below w6.heap.size w6 (w6.alloc (.cells #[.int .i64 r.err, .string r.val, .int .i64 r.num] 26)) := (Below.refl _ _).alloc (Nat.le_refl _) _
  have h7 := h6.step hA
  have hF7 := hF6.trans (FarC.below (b := b) (ch := ch) hA)
  have hR : RepBlk (w6.alloc (.cells #[.int .i64 r.err, .string r.val, .int .i64 r.num] 26)) w6.heap.size r := heap_alloc_new w6 _
  have HX := Lib.hid (And.intro h7 hF7)
  have c8 : w6.cell? ⟨b, 13, none⟩ = some (.int .i64 v.num) := h6.cell 13
  have hb7 : b < w6.heap.size := h6.blt
  clear h6 hF6 hA h7 hF7 hR
  have HZ := Lib.hid (ans_reg_ok HX.out.1 r HK.out.2 HK.out.1)
  unfold RepV.agg at HZ
  go_wp2_with fail
  refine HZ.out.mono ?_
  rintro e w8 ⟨rfl, h8, hF8⟩
  have HY := Lib.hid (And.intro h8 (HX.out.2.trans hF8))
  clear h8 hF8 HX HZ
  go_wp2_with fail
  go_ret
  exact ⟨rfl, HY.out⟩

set_option maxRecDepth 20000 in
set_option maxHeartbeats 2000000 in
theorem take_reg_no (h : Cli w0 W B b gn ch cap v q) (ho : v.opn = true) (fr : Int) (d : ByteArray) (l : Int) (r : RepV) (ht : ∀ W, Calls Try.prog 27 #[.string d] W fun e w' => e = .returned (.tuple #[.int .i64 v.num, .int .i64 l, r.agg, .int .i64 0]) ∧ Below W.heap.size W w') (he : r.err ≠ 21 ∧ r.err ≠ 22 ∧ r.err ≠ 10) (he0 : r.err ≠ 0) (hk : v.qu.kd = 5) : Calls Try.prog 39 #[.pointer (some ⟨b, 0, none⟩), .agg #[.int .i64 fr, .int .i64 v.id, .string d]] W fun e w' => e = .returned (.slice none 0 0) ∧ Cli w0 w' B b gn ch cap { v with opn := false } q ∧ FarC W w' b ch := by
  have hrk : r.agg = .agg #[.int .i64 r.err, .string r.val, .int .i64 r.num] := rfl
  rw [hrk] at ht
  clear hrk
  have HH := Lib.hid h
  have hP : OnePk (W.alloc (.cells #[.int .i64 fr, .int .i64 v.id, .string d] 65)) W.heap.size fr v.id d := heap_alloc_new W _
  have hF := FarC.below (b := b) (ch := ch) ((Below.refl W.heap.size W).alloc (Nat.le_refl _) (.cells #[.int .i64 fr, .int .i64 v.id, .string d] 65))
  have hH := h.step ((Below.refl W.heap.size W).alloc (Nat.le_refl _) (.cells #[.int .i64 fr, .int .i64 v.id, .string d] 65))
  have HP := Lib.hid hP
  have HF := Lib.hid hF
  have HH := Lib.hid hH
  clear h hP hF hH
  have HO := Lib.hid ho
  have d1 : (r.err == 21) = false := by simpa using he.1
  have d2 : (r.err == 22) = false := by simpa using he.2.1
  have d3 : (r.err == 10) = false := by simpa using he.2.2
  clear he
  have HK := Lib.hid (And.intro he0 hk)
  clear he0 hk
  clear ho
  go_enter Try.func39, Try.ntmps39
  go_wp2_with fail
  generalize hg : W.heap.size = g at HP ⊢
  generalize W.alloc (.cells #[.int .i64 fr, .int .i64 v.id, .string d] 65) = W1 at HP HF HH ⊢
  clear hg
  have hq : ∀ p : SinceW W1.heap.size W1, Cli w0 p.w B b gn ch cap v q ∧ OnePk p.w g fr v.id d := fun p => ⟨HH.out.step p.h, (p.h.block g (blk_lt HP.out)).trans HP.out⟩
  have a0 : ∀ p : SinceW W1.heap.size W1, p.w.cell? ⟨b, 0, none⟩ = some (.int .i64 v.id) := fun p => (hq p).1.cell 0
  have a14 : ∀ p : SinceW W1.heap.size W1, p.w.cell? ⟨b, 14, none⟩ = some (.bool true) := fun p => by rw [(hq p).1.cell 14]; show some (Value.bool v.opn) = _; rw [HO.out]
  have a1 : ∀ p : SinceW W1.heap.size W1, p.w.cell? ⟨g, 1, none⟩ = some (.int .i64 v.id) := fun p => blk_cell (hq p).2 1
  have HN := Lib.hid (fun p : SinceW W1.heap.size W1 => none_yes (hq p).1)
  have dd : (v.id != v.id) = false := by simp
  clear hq
  refine wp_region_since (B := W1.heap.size) (W0 := W1) (by kernel_rfl) (by kernel_rfl) (Below.refl _ _) ?_
  repeat (go_big_quiet_step ((go_at_call 73; exact since_same (HN.out _))))
  refine wpQuiet_nil ?_
  intro w5 hw'
  have hv5 : Below W1.heap.size W1 w5 := by obtain ⟨p, rfl⟩ := hw'; exact p.h
  clear hw' a0 a14 a1 HN dd
  have h5 := HH.out.step hv5
  have hP5 : OnePk w5 g fr v.id d := (hv5.block g (blk_lt HP.out)).trans HP.out
  have hF5 := HF.out.trans (FarC.below (b := b) (ch := ch) hv5)
  clear HH HP HF hv5
  have HT := Lib.hid ht
  clear ht
  have x2 : w5.cell? ⟨g, 2, none⟩ = some (.string d) := blk_cell hP5 2
  have HX := Lib.hid (And.intro h5 hF5)
  have hlt : b < w5.heap.size := h5.blt
  clear h5 hP5 hF5
  go_wp2_with fail
  refine (HT.out _).mono ?_
  rintro e w6 ⟨rfl, hb6⟩
  have h6 := HX.out.1.step hb6
  have hF6 := HX.out.2.trans (FarC.below (b := b) (ch := ch) hb6)
  clear HX HT x2 hb6 hlt
  have hA : Below w6.heap.size w6 (w6.alloc (.cells #[.int .i64 r.err, .string r.val, .int .i64 r.num] 26)) := (Below.refl _ _).alloc (Nat.le_refl _) _
  have h7 := h6.step hA
  have hF7 := hF6.trans (FarC.below (b := b) (ch := ch) hA)
  have hR : RepBlk (w6.alloc (.cells #[.int .i64 r.err, .string r.val, .int .i64 r.num] 26)) w6.heap.size r := heap_alloc_new w6 _
  have HX := Lib.hid (And.intro h7 hF7)
  have c8 : w6.cell? ⟨b, 13, none⟩ = some (.int .i64 v.num) := h6.cell 13
  have hb7 : b < w6.heap.size := h6.blt
  clear h6 hF6 hA h7 hF7 hR
  have HZ := Lib.hid (ans_reg_no HX.out.1 r HK.out.2 HK.out.1)
  unfold RepV.agg at HZ
  go_wp2_with fail
  refine HZ.out.mono ?_
  rintro e w8 ⟨rfl, h8, hF8⟩
  have HY := Lib.hid (And.intro h8 (HX.out.2.trans hF8))
  clear h8 hF8 HX HZ
  go_wp2_with fail
  go_ret
  exact ⟨rfl, HY.out⟩

set_option maxRecDepth 20000 in
set_option maxHeartbeats 2000000 in
theorem take_get (h : Cli w0 W B b gn ch cap v []) (ho : v.opn = true) (fr : Int) (d : ByteArray) (l : Int) (r : RepV) (ht : ∀ W, Calls Try.prog 27 #[.string d] W fun e w' => e = .returned (.tuple #[.int .i64 v.num, .int .i64 l, r.agg, .int .i64 0]) ∧ Below W.heap.size W w') (he : r.err ≠ 21 ∧ r.err ≠ 22 ∧ r.err ≠ 10) (hk : v.qu.kd ≠ 5) (hk4 : v.qu.kd = 4) (h24 : r.err ≠ 24) : Calls Try.prog 39 #[.pointer (some ⟨b, 0, none⟩), .agg #[.int .i64 fr, .int .i64 v.id, .string d]] W fun e w' => e = .returned (.slice none 0 0) ∧ Cli w0 w' B b gn ch cap { v with opn := false, asked := false } [((v.number : Int), r)] ∧ FarC W w' b ch := by
  have hrk : r.agg = .agg #[.int .i64 r.err, .string r.val, .int .i64 r.num] := rfl
  rw [hrk] at ht
  clear hrk
  have HH := Lib.hid h
  have hP : OnePk (W.alloc (.cells #[.int .i64 fr, .int .i64 v.id, .string d] 65)) W.heap.size fr v.id d := heap_alloc_new W _
  have hF := FarC.below (b := b) (ch := ch) ((Below.refl W.heap.size W).alloc (Nat.le_refl _) (.cells #[.int .i64 fr, .int .i64 v.id, .string d] 65))
  have hH := h.step ((Below.refl W.heap.size W).alloc (Nat.le_refl _) (.cells #[.int .i64 fr, .int .i64 v.id, .string d] 65))
  have HP := Lib.hid hP
  have HF := Lib.hid hF
  have HH := Lib.hid hH
  clear h hP hF hH
  have HO := Lib.hid ho
  have d1 : (r.err == 21) = false := by simpa using he.1
  have d2 : (r.err == 22) = false := by simpa using he.2.1
  have d3 : (r.err == 10) = false := by simpa using he.2.2
  clear he
  have HK := Lib.hid (And.intro hk (And.intro hk4 h24))
  clear hk hk4 h24
  clear ho
  go_enter Try.func39, Try.ntmps39
  go_wp2_with fail
  generalize hg : W.heap.size = g at HP ⊢
  generalize W.alloc (.cells #[.int .i64 fr, .int .i64 v.id, .string d] 65) = W1 at HP HF HH ⊢
  clear hg
  have hq : ∀ p : SinceW W1.heap.size W1, Cli w0 p.w B b gn ch cap v [] ∧ OnePk p.w g fr v.id d := fun p => ⟨HH.out.step p.h, (p.h.block g (blk_lt HP.out)).trans HP.out⟩
  have a0 : ∀ p : SinceW W1.heap.size W1, p.w.cell? ⟨b, 0, none⟩ = some (.int .i64 v.id) := fun p => (hq p).1.cell 0
  have a14 : ∀ p : SinceW W1.heap.size W1, p.w.cell? ⟨b, 14, none⟩ = some (.bool true) := fun p => by rw [(hq p).1.cell 14]; show some (Value.bool v.opn) = _; rw [HO.out]
  have a1 : ∀ p : SinceW W1.heap.size W1, p.w.cell? ⟨g, 1, none⟩ = some (.int .i64 v.id) := fun p => blk_cell (hq p).2 1
  have HN := Lib.hid (fun p : SinceW W1.heap.size W1 => none_yes (hq p).1)
  have dd : (v.id != v.id) = false := by simp
  clear hq
  refine wp_region_since (B := W1.heap.size) (W0 := W1) (by kernel_rfl) (by kernel_rfl) (Below.refl _ _) ?_
  repeat (go_big_quiet_step ((go_at_call 73; exact since_same (HN.out _))))
  refine wpQuiet_nil ?_
  intro w5 hw'
  have hv5 : Below W1.heap.size W1 w5 := by obtain ⟨p, rfl⟩ := hw'; exact p.h
  clear hw' a0 a14 a1 HN dd
  have h5 := HH.out.step hv5
  have hP5 : OnePk w5 g fr v.id d := (hv5.block g (blk_lt HP.out)).trans HP.out
  have hF5 := HF.out.trans (FarC.below (b := b) (ch := ch) hv5)
  clear HH HP HF hv5
  have HT := Lib.hid ht
  clear ht
  have x2 : w5.cell? ⟨g, 2, none⟩ = some (.string d) := blk_cell hP5 2
  have HX := Lib.hid (And.intro h5 hF5)
  have hlt : b < w5.heap.size := h5.blt
  clear h5 hP5 hF5
  go_wp2_with fail
  refine (HT.out _).mono ?_
  rintro e w6 ⟨rfl, hb6⟩
  have h6 := HX.out.1.step hb6
  have hF6 := HX.out.2.trans (FarC.below (b := b) (ch := ch) hb6)
  clear HX HT x2 hb6 hlt
  have hA : Below w6.heap.size w6 (w6.alloc (.cells #[.int .i64 r.err, .string r.val, .int .i64 r.num] 26)) := (Below.refl _ _).alloc (Nat.le_refl _) _
  have h7 := h6.step hA
  have hF7 := hF6.trans (FarC.below (b := b) (ch := ch) hA)
  have hR : RepBlk (w6.alloc (.cells #[.int .i64 r.err, .string r.val, .int .i64 r.num] 26)) w6.heap.size r := heap_alloc_new w6 _
  have HX := Lib.hid (And.intro h7 hF7)
  have c8 : w6.cell? ⟨b, 13, none⟩ = some (.int .i64 v.num) := h6.cell 13
  have hb7 : b < w6.heap.size := h6.blt
  clear h6 hF6 hA h7 hF7 hR
  have HZ := Lib.hid (ans_get HX.out.1 r HK.out.1 HK.out.2.1 HK.out.2.2)
  unfold RepV.agg at HZ
  go_wp2_with fail
  refine HZ.out.mono ?_
  rintro e w8 ⟨rfl, h8, hF8⟩
  have HY := Lib.hid (And.intro h8 (HX.out.2.trans hF8))
  clear h8 hF8 HX HZ
  go_wp2_with fail
  go_ret
  exact ⟨rfl, HY.out⟩

set_option maxRecDepth 20000 in
set_option maxHeartbeats 2000000 in
theorem take_get_s (h : Cli w0 W B b gn ch cap v []) (ho : v.opn = true) (fr : Int) (d : ByteArray) (l : Int) (r : RepV) (ht : ∀ W, Calls Try.prog 27 #[.string d] W fun e w' => e = .returned (.tuple #[.int .i64 v.num, .int .i64 l, r.agg, .int .i64 0]) ∧ Below W.heap.size W w') (he : r.err ≠ 21 ∧ r.err ≠ 22 ∧ r.err ≠ 10) (hk : v.qu.kd ≠ 5) (hk4 : v.qu.kd = 4) (h24 : r.err = 24) : Calls Try.prog 39 #[.pointer (some ⟨b, 0, none⟩), .agg #[.int .i64 fr, .int .i64 v.id, .string d]] W fun e w' => e = .returned (.slice none 0 0) ∧ Cli w0 w' B b gn ch cap { v with opn := false, asked := false, ss := 0 } [((v.number : Int), r)] ∧ FarC W w' b ch := by
  have hrk : r.agg = .agg #[.int .i64 r.err, .string r.val, .int .i64 r.num] := rfl
  rw [hrk] at ht
  clear hrk
  have HH := Lib.hid h
  have hP : OnePk (W.alloc (.cells #[.int .i64 fr, .int .i64 v.id, .string d] 65)) W.heap.size fr v.id d := heap_alloc_new W _
  have hF := FarC.below (b := b) (ch := ch) ((Below.refl W.heap.size W).alloc (Nat.le_refl _) (.cells #[.int .i64 fr, .int .i64 v.id, .string d] 65))
  have hH := h.step ((Below.refl W.heap.size W).alloc (Nat.le_refl _) (.cells #[.int .i64 fr, .int .i64 v.id, .string d] 65))
  have HP := Lib.hid hP
  have HF := Lib.hid hF
  have HH := Lib.hid hH
  clear h hP hF hH
  have HO := Lib.hid ho
  have d1 : (r.err == 21) = false := by simpa using he.1
  have d2 : (r.err == 22) = false := by simpa using he.2.1
  have d3 : (r.err == 10) = false := by simpa using he.2.2
  clear he
  have HK := Lib.hid (And.intro hk (And.intro hk4 h24))
  clear hk hk4 h24
  clear ho
  go_enter Try.func39, Try.ntmps39
  go_wp2_with fail
  generalize hg : W.heap.size = g at HP ⊢
  generalize W.alloc (.cells #[.int .i64 fr, .int .i64 v.id, .string d] 65) = W1 at HP HF HH ⊢
  clear hg
  have hq : ∀ p : SinceW W1.heap.size W1, Cli w0 p.w B b gn ch cap v [] ∧ OnePk p.w g fr v.id d := fun p => ⟨HH.out.step p.h, (p.h.block g (blk_lt HP.out)).trans HP.out⟩
  have a0 : ∀ p : SinceW W1.heap.size W1, p.w.cell? ⟨b, 0, none⟩ = some (.int .i64 v.id) := fun p => (hq p).1.cell 0
  have a14 : ∀ p : SinceW W1.heap.size W1, p.w.cell? ⟨b, 14, none⟩ = some (.bool true) := fun p => by rw [(hq p).1.cell 14]; show some (Value.bool v.opn) = _; rw [HO.out]
  have a1 : ∀ p : SinceW W1.heap.size W1, p.w.cell? ⟨g, 1, none⟩ = some (.int .i64 v.id) := fun p => blk_cell (hq p).2 1
  have HN := Lib.hid (fun p : SinceW W1.heap.size W1 => none_yes (hq p).1)
  have dd : (v.id != v.id) = false := by simp
  clear hq
  refine wp_region_since (B := W1.heap.size) (W0 := W1) (by kernel_rfl) (by kernel_rfl) (Below.refl _ _) ?_
  repeat (go_big_quiet_step ((go_at_call 73; exact since_same (HN.out _))))
  refine wpQuiet_nil ?_
  intro w5 hw'
  have hv5 : Below W1.heap.size W1 w5 := by obtain ⟨p, rfl⟩ := hw'; exact p.h
  clear hw' a0 a14 a1 HN dd
  have h5 := HH.out.step hv5
  have hP5 : OnePk w5 g fr v.id d := (hv5.block g (blk_lt HP.out)).trans HP.out
  have hF5 := HF.out.trans (FarC.below (b := b) (ch := ch) hv5)
  clear HH HP HF hv5
  have HT := Lib.hid ht
  clear ht
  have x2 : w5.cell? ⟨g, 2, none⟩ = some (.string d) := blk_cell hP5 2
  have HX := Lib.hid (And.intro h5 hF5)
  have hlt : b < w5.heap.size := h5.blt
  clear h5 hP5 hF5
  go_wp2_with fail
  refine (HT.out _).mono ?_
  rintro e w6 ⟨rfl, hb6⟩
  have h6 := HX.out.1.step hb6
  have hF6 := HX.out.2.trans (FarC.below (b := b) (ch := ch) hb6)
  clear HX HT x2 hb6 hlt
  have hA : Below w6.heap.size w6 (w6.alloc (.cells #[.int .i64 r.err, .string r.val, .int .i64 r.num] 26)) := (Below.refl _ _).alloc (Nat.le_refl _) _
  have h7 := h6.step hA
  have hF7 := hF6.trans (FarC.below (b := b) (ch := ch) hA)
  have hR : RepBlk (w6.alloc (.cells #[.int .i64 r.err, .string r.val, .int .i64 r.num] 26)) w6.heap.size r := heap_alloc_new w6 _
  have HX := Lib.hid (And.intro h7 hF7)
  have c8 : w6.cell? ⟨b, 13, none⟩ = some (.int .i64 v.num) := h6.cell 13
  have hb7 : b < w6.heap.size := h6.blt
  clear h6 hF6 hA h7 hF7 hR
  have HZ := Lib.hid (ans_get_s HX.out.1 r HK.out.1 HK.out.2.1 HK.out.2.2)
  unfold RepV.agg at HZ
  go_wp2_with fail
  refine HZ.out.mono ?_
  rintro e w8 ⟨rfl, h8, hF8⟩
  have HY := Lib.hid (And.intro h8 (HX.out.2.trans hF8))
  clear h8 hF8 HX HZ
  go_wp2_with fail
  go_ret
  exact ⟨rfl, HY.out⟩

set_option maxRecDepth 20000 in
set_option maxHeartbeats 2000000 in
theorem take_op (h : Cli w0 W B b gn ch cap v []) (ho : v.opn = true) (fr : Int) (d : ByteArray) (l : Int) (r : RepV) (ht : ∀ W, Calls Try.prog 27 #[.string d] W fun e w' => e = .returned (.tuple #[.int .i64 v.num, .int .i64 l, r.agg, .int .i64 0]) ∧ Below W.heap.size W w') (he : r.err ≠ 21 ∧ r.err ≠ 22 ∧ r.err ≠ 10) (hk : v.qu.kd ≠ 5) (hk4 : v.qu.kd ≠ 4) (h24 : r.err ≠ 24) : Calls Try.prog 39 #[.pointer (some ⟨b, 0, none⟩), .agg #[.int .i64 fr, .int .i64 v.id, .string d]] W fun e w' => e = .returned (.slice none 0 0) ∧ Cli w0 w' B b gn ch cap { v with opn := false, asked := false, sq := v.qu.sq } [((v.number : Int), r)] ∧ FarC W w' b ch := by
  have hrk : r.agg = .agg #[.int .i64 r.err, .string r.val, .int .i64 r.num] := rfl
  rw [hrk] at ht
  clear hrk
  have HH := Lib.hid h
  have hP : OnePk (W.alloc (.cells #[.int .i64 fr, .int .i64 v.id, .string d] 65)) W.heap.size fr v.id d := heap_alloc_new W _
  have hF := FarC.below (b := b) (ch := ch) ((Below.refl W.heap.size W).alloc (Nat.le_refl _) (.cells #[.int .i64 fr, .int .i64 v.id, .string d] 65))
  have hH := h.step ((Below.refl W.heap.size W).alloc (Nat.le_refl _) (.cells #[.int .i64 fr, .int .i64 v.id, .string d] 65))
  have HP := Lib.hid hP
  have HF := Lib.hid hF
  have HH := Lib.hid hH
  clear h hP hF hH
  have HO := Lib.hid ho
  have d1 : (r.err == 21) = false := by simpa using he.1
  have d2 : (r.err == 22) = false := by simpa using he.2.1
  have d3 : (r.err == 10) = false := by simpa using he.2.2
  clear he
  have HK := Lib.hid (And.intro hk (And.intro hk4 h24))
  clear hk hk4 h24
  clear ho
  go_enter Try.func39, Try.ntmps39
  go_wp2_with fail
  generalize hg : W.heap.size = g at HP ⊢
  generalize W.alloc (.cells #[.int .i64 fr, .int .i64 v.id, .string d] 65) = W1 at HP HF HH ⊢
  clear hg
  have hq : ∀ p : SinceW W1.heap.size W1, Cli w0 p.w B b gn ch cap v [] ∧ OnePk p.w g fr v.id d := fun p => ⟨HH.out.step p.h, (p.h.block g (blk_lt HP.out)).trans HP.out⟩
  have a0 : ∀ p : SinceW W1.heap.size W1, p.w.cell? ⟨b, 0, none⟩ = some (.int .i64 v.id) := fun p => (hq p).1.cell 0
  have a14 : ∀ p : SinceW W1.heap.size W1, p.w.cell? ⟨b, 14, none⟩ = some (.bool true) := fun p => by rw [(hq p).1.cell 14]; show some (Value.bool v.opn) = _; rw [HO.out]
  have a1 : ∀ p : SinceW W1.heap.size W1, p.w.cell? ⟨g, 1, none⟩ = some (.int .i64 v.id) := fun p => blk_cell (hq p).2 1
  have HN := Lib.hid (fun p : SinceW W1.heap.size W1 => none_yes (hq p).1)
  have dd : (v.id != v.id) = false := by simp
  clear hq
  refine wp_region_since (B := W1.heap.size) (W0 := W1) (by kernel_rfl) (by kernel_rfl) (Below.refl _ _) ?_
  repeat (go_big_quiet_step ((go_at_call 73; exact since_same (HN.out _))))
  refine wpQuiet_nil ?_
  intro w5 hw'
  have hv5 : Below W1.heap.size W1 w5 := by obtain ⟨p, rfl⟩ := hw'; exact p.h
  clear hw' a0 a14 a1 HN dd
  have h5 := HH.out.step hv5
  have hP5 : OnePk w5 g fr v.id d := (hv5.block g (blk_lt HP.out)).trans HP.out
  have hF5 := HF.out.trans (FarC.below (b := b) (ch := ch) hv5)
  clear HH HP HF hv5
  have HT := Lib.hid ht
  clear ht
  have x2 : w5.cell? ⟨g, 2, none⟩ = some (.string d) := blk_cell hP5 2
  have HX := Lib.hid (And.intro h5 hF5)
  have hlt : b < w5.heap.size := h5.blt
  clear h5 hP5 hF5
  go_wp2_with fail
  refine (HT.out _).mono ?_
  rintro e w6 ⟨rfl, hb6⟩
  have h6 := HX.out.1.step hb6
  have hF6 := HX.out.2.trans (FarC.below (b := b) (ch := ch) hb6)
  clear HX HT x2 hb6 hlt
  have hA : Below w6.heap.size w6 (w6.alloc (.cells #[.int .i64 r.err, .string r.val, .int .i64 r.num] 26)) := (Below.refl _ _).alloc (Nat.le_refl _) _
  have h7 := h6.step hA
  have hF7 := hF6.trans (FarC.below (b := b) (ch := ch) hA)
  have hR : RepBlk (w6.alloc (.cells #[.int .i64 r.err, .string r.val, .int .i64 r.num] 26)) w6.heap.size r := heap_alloc_new w6 _
  have HX := Lib.hid (And.intro h7 hF7)
  have c8 : w6.cell? ⟨b, 13, none⟩ = some (.int .i64 v.num) := h6.cell 13
  have hb7 : b < w6.heap.size := h6.blt
  clear h6 hF6 hA h7 hF7 hR
  have HZ := Lib.hid (ans_op HX.out.1 r HK.out.1 HK.out.2.1 HK.out.2.2)
  unfold RepV.agg at HZ
  go_wp2_with fail
  refine HZ.out.mono ?_
  rintro e w8 ⟨rfl, h8, hF8⟩
  have HY := Lib.hid (And.intro h8 (HX.out.2.trans hF8))
  clear h8 hF8 HX HZ
  go_wp2_with fail
  go_ret
  exact ⟨rfl, HY.out⟩

set_option maxRecDepth 20000 in
set_option maxHeartbeats 2000000 in
theorem take_op_s (h : Cli w0 W B b gn ch cap v []) (ho : v.opn = true) (fr : Int) (d : ByteArray) (l : Int) (r : RepV) (ht : ∀ W, Calls Try.prog 27 #[.string d] W fun e w' => e = .returned (.tuple #[.int .i64 v.num, .int .i64 l, r.agg, .int .i64 0]) ∧ Below W.heap.size W w') (he : r.err ≠ 21 ∧ r.err ≠ 22 ∧ r.err ≠ 10) (hk : v.qu.kd ≠ 5) (hk4 : v.qu.kd ≠ 4) (h24 : r.err = 24) : Calls Try.prog 39 #[.pointer (some ⟨b, 0, none⟩), .agg #[.int .i64 fr, .int .i64 v.id, .string d]] W fun e w' => e = .returned (.slice none 0 0) ∧ Cli w0 w' B b gn ch cap { v with opn := false, asked := false, sq := v.qu.sq, ss := 0 } [((v.number : Int), r)] ∧ FarC W w' b ch := by
  have hrk : r.agg = .agg #[.int .i64 r.err, .string r.val, .int .i64 r.num] := rfl
  rw [hrk] at ht
  clear hrk
  have HH := Lib.hid h
  have hP : OnePk (W.alloc (.cells #[.int .i64 fr, .int .i64 v.id, .string d] 65)) W.heap.size fr v.id d := heap_alloc_new W _
  have hF := FarC.below (b := b) (ch := ch) ((Below.refl W.heap.size W).alloc (Nat.le_refl _) (.cells #[.int .i64 fr, .int .i64 v.id, .string d] 65))
  have hH := h.step ((Below.refl W.heap.size W).alloc (Nat.le_refl _) (.cells #[.int .i64 fr, .int .i64 v.id, .string d] 65))
  have HP := Lib.hid hP
  have HF := Lib.hid hF
  have HH := Lib.hid hH
  clear h hP hF hH
  have HO := Lib.hid ho
  have d1 : (r.err == 21) = false := by simpa using he.1
  have d2 : (r.err == 22) = false := by simpa using he.2.1
  have d3 : (r.err == 10) = false := by simpa using he.2.2
  clear he
  have HK := Lib.hid (And.intro hk (And.intro hk4 h24))
  clear hk hk4 h24
  clear ho
  go_enter Try.func39, Try.ntmps39
  go_wp2_with fail
  generalize hg : W.heap.size = g at HP ⊢
  generalize W.alloc (.cells #[.int .i64 fr, .int .i64 v.id, .string d] 65) = W1 at HP HF HH ⊢
  clear hg
  have hq : ∀ p : SinceW W1.heap.size W1, Cli w0 p.w B b gn ch cap v [] ∧ OnePk p.w g fr v.id d := fun p => ⟨HH.out.step p.h, (p.h.block g (blk_lt HP.out)).trans HP.out⟩
  have a0 : ∀ p : SinceW W1.heap.size W1, p.w.cell? ⟨b, 0, none⟩ = some (.int .i64 v.id) := fun p => (hq p).1.cell 0
  have a14 : ∀ p : SinceW W1.heap.size W1, p.w.cell? ⟨b, 14, none⟩ = some (.bool true) := fun p => by rw [(hq p).1.cell 14]; show some (Value.bool v.opn) = _; rw [HO.out]
  have a1 : ∀ p : SinceW W1.heap.size W1, p.w.cell? ⟨g, 1, none⟩ = some (.int .i64 v.id) := fun p => blk_cell (hq p).2 1
  have HN := Lib.hid (fun p : SinceW W1.heap.size W1 => none_yes (hq p).1)
  have dd : (v.id != v.id) = false := by simp
  clear hq
  refine wp_region_since (B := W1.heap.size) (W0 := W1) (by kernel_rfl) (by kernel_rfl) (Below.refl _ _) ?_
  repeat (go_big_quiet_step ((go_at_call 73; exact since_same (HN.out _))))
  refine wpQuiet_nil ?_
  intro w5 hw'
  have hv5 : Below W1.heap.size W1 w5 := by obtain ⟨p, rfl⟩ := hw'; exact p.h
  clear hw' a0 a14 a1 HN dd
  have h5 := HH.out.step hv5
  have hP5 : OnePk w5 g fr v.id d := (hv5.block g (blk_lt HP.out)).trans HP.out
  have hF5 := HF.out.trans (FarC.below (b := b) (ch := ch) hv5)
  clear HH HP HF hv5
  have HT := Lib.hid ht
  clear ht
  have x2 : w5.cell? ⟨g, 2, none⟩ = some (.string d) := blk_cell hP5 2
  have HX := Lib.hid (And.intro h5 hF5)
  have hlt : b < w5.heap.size := h5.blt
  clear h5 hP5 hF5
  go_wp2_with fail
  refine (HT.out _).mono ?_
  rintro e w6 ⟨rfl, hb6⟩
  have h6 := HX.out.1.step hb6
  have hF6 := HX.out.2.trans (FarC.below (b := b) (ch := ch) hb6)
  clear HX HT x2 hb6 hlt
  have hA : Below w6.heap.size w6 (w6.alloc (.cells #[.int .i64 r.err, .string r.val, .int .i64 r.num] 26)) := (Below.refl _ _).alloc (Nat.le_refl _) _
  have h7 := h6.step hA
  have hF7 := hF6.trans (FarC.below (b := b) (ch := ch) hA)
  have hR : RepBlk (w6.alloc (.cells #[.int .i64 r.err, .string r.val, .int .i64 r.num] 26)) w6.heap.size r := heap_alloc_new w6 _
  have HX := Lib.hid (And.intro h7 hF7)
  have c8 : w6.cell? ⟨b, 13, none⟩ = some (.int .i64 v.num) := h6.cell 13
  have hb7 : b < w6.heap.size := h6.blt
  clear h6 hF6 hA h7 hF7 hR
  have HZ := Lib.hid (ans_op_s HX.out.1 r HK.out.1 HK.out.2.1 HK.out.2.2)
  unfold RepV.agg at HZ
  go_wp2_with fail
  refine HZ.out.mono ?_
  rintro e w8 ⟨rfl, h8, hF8⟩
  have HY := Lib.hid (And.intro h8 (HX.out.2.trans hF8))
  clear h8 hF8 HX HZ
  go_wp2_with fail
  go_ret
  exact ⟨rfl, HY.out⟩

end Go.Proofs.Ytfogoebflfkknaa
