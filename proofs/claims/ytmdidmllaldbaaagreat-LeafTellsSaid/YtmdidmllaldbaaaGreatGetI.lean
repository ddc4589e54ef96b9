/- The walk of leaf.Get. -/
import Derived.Test.YtmdidmllaldbaaaGreatPutI
import Derived.Test.YtmdidmllaldbaaaGreatOwnI
import Derived.Test.YtmdidmllaldbaaaGreatRdr
import Derived.Deep.DeepCutAuto
namespace Go.Proofs.YtmdidmllaldbaaaGreat
open Go.RowKit
set_option linter.unusedVariables false
def bsI (l : List UInt8) : ByteArray := ⟨l.toArray⟩
/-- An item, read. -/
def getItm (st : RSt) : Itm × RSt :=
  if (rBool (rText 40 st).2).1 = true then
    (⟨bsI (rText 40 st).1, ⟨#[]⟩, (rVar (rBool (rText 40 st).2).2).1, (rVar (rVar (rBool (rText 40 st).2).2).2).1⟩, (rVar (rVar (rBool (rText 40 st).2).2).2).2)
  else (⟨bsI (rText 40 st).1, bsI (rText 60 (rBool (rText 40 st).2).2).1, 0, 0⟩, (rText 60 (rBool (rText 40 st).2).2).2)
/-- The loop of Get. -/
def getGoI : Nat → RSt → List Itm → List Itm × RSt
  | 0, st, acc => (acc, st)
  | n + 1, st, acc => if st.2 = 0 ∧ st.1 ≠ [] then getGoI n (getItm st).2 (acc ++ [(getItm st).1]) else (acc, st)
/-- What Get answers. -/
def getI (b : List UInt8) : List Itm × Int :=
  if (getGoI (b.length + 1) (b, 0) []).2.2 = 0 ∧ putI (getGoI (b.length + 1) (b, 0) []).1 = (b, 0) then ((getGoI (b.length + 1) (b, 0) []).1, 0) else ([], 4)
theorem getGoI_stop (n : Nat) (st : RSt) (acc : List Itm) (h : ¬ (st.2 = 0 ∧ st.1 ≠ [])) : getGoI n st acc = (acc, st) := by
  cases n with
  | zero => rfl
  | succ n => rw [getGoI, if_neg h]
theorem numb_ltI (l : List UInt8) : ∀ i acc, (numb i acc l).2.2 = 0 → (numb i acc l).2.1.length < l.length := by
  induction l with
  | nil => intro i acc h; cases h
  | cons c r ih =>
    intro i acc h
    rw [numb] at h ⊢
    split
    · rename_i h1; rw [if_pos h1] at h; cases h
    · rename_i h1
      rw [if_neg h1] at h
      split
      · rename_i h2
        rw [if_pos h2] at h
        have := ih _ _ h
        rw [List.length_cons]
        omega
      · rename_i h2
        rw [if_neg h2] at h
        split
        · rename_i h3; rw [if_pos h3] at h; cases h
        · rw [List.length_cons]; show r.length < _; omega
theorem rVar_ltI (st : RSt) (h : (rVar st).2.2 = 0) : st.2 = 0 ∧ (rVar st).2.1.length < st.1.length := by
  unfold rVar at h ⊢
  by_cases h0 : st.2 ≠ 0
  · rw [if_pos h0] at h; exact absurd h h0
  · rw [if_neg h0] at h ⊢
    by_cases h1 : (numb 0 0 st.1).2.2 ≠ 0
    · rw [if_pos h1] at h; exact absurd h h1
    · rw [if_neg h1]
      exact ⟨by simpa using h0, numb_ltI _ _ _ (by simpa using h1)⟩
theorem rText_leI (m : Int) (st : RSt) : (rText m st).2.1.length ≤ st.1.length := by
  have := rCount_len m st
  unfold rText
  split
  · exact this
  · split
    · exact this
    · show (List.drop _ _).length ≤ _
      rw [List.length_drop]; omega
theorem rText_err (m : Int) (st : RSt) (h : (rText m st).2.2 = 0) : st.2 = 0 := by
  rcases Decidable.em (st.2 = 0) with h0 | h0
  · exact h0
  · rw [rText_stay m st h0] at h; exact h
theorem rVar_err (st : RSt) (h : (rVar st).2.2 = 0) : st.2 = 0 := by
  rcases Decidable.em (st.2 = 0) with h0 | h0
  · exact h0
  · rw [rVar_stay st h0] at h; exact h
theorem rBool_ltI (st : RSt) (h : (rBool st).2.2 = 0) : st.2 = 0 ∧ (rBool st).2.1.length < st.1.length := by
  obtain ⟨l, e⟩ := st
  unfold rBool at h ⊢
  by_cases h0 : e ≠ 0
  · rw [if_pos h0] at h; exact absurd h h0
  · rw [if_neg h0] at h ⊢
    cases l with
    | nil => cases h
    | cons c r =>
      dsimp only at h ⊢
      by_cases h1 : 1 < c.toNat
      · rw [if_pos h1] at h; cases h
      · rw [if_neg h1]
        exact ⟨by simpa using h0, by simp⟩
theorem getItm_lt (st : RSt) (h : (getItm st).2.2 = 0) : (getItm st).2.1.length < st.1.length := by
  have h2 := rText_leI 40 st
  unfold getItm at h ⊢
  split
  · rename_i hb
    rw [if_pos hb] at h
    have e1 := rVar_err _ h
    have e2 := rVar_err _ e1
    have h3 := rBool_ltI _ e2
    have h4 := rVar_len (rBool (rText 40 st).2).2
    have h5 := rVar_len (rVar (rBool (rText 40 st).2).2).2
    dsimp only
    omega
  · rename_i hb
    rw [if_neg hb] at h
    have e2 := rText_err _ _ h
    have h3 := rBool_ltI _ e2
    have h4 := rText_leI 60 (rBool (rText 40 st).2).2
    dsimp only
    omega
theorem bsI_size (l : List UInt8) : (bsI l).size = l.length := by show l.toArray.size = _; simp
theorem getItm_ok (st : RSt) : ItmOk (getItm st).1 ∧ (getItm st).1.len ≤ 100 := by
  have h1 := rText_len 40 st
  have h2 := rText_len 60 (rBool (rText 40 st).2).2
  unfold getItm ItmOk Itm.len
  split
  · dsimp only
    refine ⟨⟨rVar_range _, rVar_range _, ?_, ?_⟩, ?_⟩
    · rw [bsI_size]; omega
    · show 0 ≤ _; omega
    · rw [bsI_size]; show _ + 0 ≤ _; omega
  · dsimp only
    refine ⟨⟨by omega, by omega, ?_, ?_⟩, ?_⟩
    · rw [bsI_size]; omega
    · rw [bsI_size]; omega
    · rw [bsI_size, bsI_size]; omega
theorem own_rsI {w0 W W' : World} {B b base : Nat} {st : RSt} {e : TypeId} {size n : Nat} {v : Value} {xs : List Value} (h : RS w0 W B b st) (hT : 154 ≠ e) (ho : W.ownsRow base e size v n xs) (hg : W.grownBy W' (some b)) : W'.ownsRow base e size v n xs :=
  ho.kept hg (.inr (h.ne hT ho))
/-- A block of another type than a reader's outlives the reader's steps. -/
theorem blk_rs {w0 W W' : World} {B b g : Nat} {st : RSt} {cs : Array Value} {T : TypeId} (h : RS w0 W B b st) (hT : 154 ≠ T) (hk : W.heap[g]? = some (.cells cs T (0, 0))) (hg : W.grownBy W' (some b)) : W'.heap[g]? = some (.cells cs T (0, 0)) := by
  refine (hg.block g (blk_lt hk) ?_).trans hk
  intro e
  injection e with e
  subst e
  obtain ⟨⟨s, _, _, h3⟩, _, _⟩ := h
  rw [h3] at hk
  injection hk with hk
  injection hk with _ h2
  exact hT h2
/-- A write to a block of the call's own, that is no reader and not this row. -/
theorem rs_set {w0 W : World} {B b g i : Nat} {st : RSt} {u : Value} {cs : Array Value} {T : TypeId} (h : RS w0 W B b st) (hT : 154 ≠ T) (hk : W.heap[g]? = some (.cells cs T (0, 0))) (hB : B ≤ g) : RS w0 (W.setCell ⟨g, i, none⟩ u) B b st := by
  refine h.far (grown_set W g i u) ?_ (h.2.1.setCell (p := ⟨g, i, none⟩) hB _)
  intro e
  injection e with e
  subst e
  obtain ⟨⟨s, _, _, h3⟩, _, _⟩ := h
  rw [h3] at hk
  injection hk with hk
  injection hk with _ h2
  exact hT h2
def GetResI (b : List UInt8) (w : World) (e : Ending) (w' : World) : Prop :=
  ∃ ao N c, e = .returned (.tuple #[.slice ao N c, .int .i64 (getI b).2]) ∧ w'.ownsRow w.heap.size 133 4 (.slice ao N c) N (itmCells (getI b).1) ∧ (getI b).1.length = N ∧ Below w.heap.size w w'
def sliceNI : Value → Nat
  | .slice _ n _ => n
  | _ => 0
set_option maxRecDepth 20000 in
set_option maxHeartbeats 8000000 in
theorem getI_any (s : ByteArray) (w : World) (hs : s.size ≤ 1000000) :
    Calls Tryz.prog 96 #[.string s] w (GetResI s.data.toList w) := by
  obtain ⟨i0, hi, hz0, hz1, hz2⟩ := info_parts itmInfo
  obtain ⟨g0, hg0⟩ : ∃ g, g = getGoI (s.data.toList.length + 1) (s.data.toList, 0) [] := ⟨_, rfl⟩
  have HP : Hid (getI s.data.toList = if g0.2.2 = 0 ∧ putI g0.1 = (s.data.toList, 0) then (g0.1, 0) else ([], 4)) := Lib.hid (by rw [hg0]; rfl)
  have hsl : s.data.toList.length = s.size := rfl
  rw [hsl] at hg0
  have HG0 := Lib.hid hg0
  clear hg0 hsl
  go_enter Tryz.func96, Tryz.ntmps96
  go_wp2_with fail
  refine (RS.new (w0 := w) (B := w.heap.size) s (Below.refl _ _) (Nat.le_refl _) (by omega)).mono ?_
  rintro e w1 ⟨b, rfl, R1⟩
  have HR1 := Lib.hid R1
  clear R1
  go_wp2_with fail
  go_loopw [4] (fun l wr => ∃ (k : Nat) (acc : List Itm) (ao : Option Addr) (c : Nat) (st : RSt), l = .slice ao k c ∧ Hid (wr.ownsRow w.heap.size 133 4 (.slice ao k c) k (itmCells acc)) ∧ Hid (acc.length = k ∧ ∀ e ∈ acc, ItmOk e ∧ e.len ≤ 100) ∧ Hid (getGoI (s.size + 1 - k) st acc = g0) ∧ Hid (RS w wr w.heap.size b st) ∧ k ≤ s.size + 1 ∧ Hid (st.2 = 0 → k + st.1.length ≤ s.size)) (fun l _ => s.size + 1 - sliceNI l)
  case atStart => exact ⟨0, [], none, 0, (s.data.toList, 0), rfl, Lib.hid (World.ownsRow_nil _ _ _ _), Lib.hid ⟨rfl, by simp⟩, Lib.hid (by rw [HG0.out]; rfl), HR1, by omega, Lib.hid (fun _ => by show 0 + s.size ≤ _; omega)⟩
  case round =>
    obtain ⟨k, acc, ao, c, st, rfl, HO, HA, HG, HR, hk, HL⟩ := hrel
    have HF := Lib.hid HR.out.fin
    have HE := Lib.hid HR.out.err
    by_cases hgo : st.2 = 0 ∧ st.1 ≠ []
    · obtain ⟨h0, h1⟩ := hgo
      have hl1 := HL.out h0
      have hl2 : 0 < st.1.length := List.length_pos_iff.2 h1
      have hG := HG.out
      rw [show s.size + 1 - k = (s.size + 1 - (k + 1)) + 1 from by omega, getGoI, if_pos ⟨h0, h1⟩] at hG
      have HG' := Lib.hid hG
      have hfe : rEnd st = 4 := by unfold rEnd; rw [if_neg (by simpa using h0), if_pos h1]
      rw [hfe] at HF
      rw [h0] at HE
      have HV1 := Lib.hid (HR.out.text 40)
      have hck := getItm_ok st
      have hcl := getItm_lt st
      obtain ⟨a1, ha1⟩ : ∃ a1, a1 = rText 40 st := ⟨_, rfl⟩
      have HCk := Lib.hid (And.intro hck hcl)
      have hcd0 : getItm st = if (rBool a1.2).1 = true then (⟨bsI a1.1, ⟨#[]⟩, (rVar (rBool a1.2).2).1, (rVar (rVar (rBool a1.2).2).2).1⟩, (rVar (rVar (rBool a1.2).2).2).2) else (⟨bsI a1.1, bsI (rText 60 (rBool a1.2).2).1, 0, 0⟩, (rText 60 (rBool a1.2).2).2) := by rw [ha1]; rfl
      rw [← ha1] at HV1
      have HL1 : Hid (k + st.1.length ≤ s.size) := Lib.hid hl1
      have hk2 : k < s.size := by omega
      obtain ⟨q, hq⟩ : ∃ q, q = rBool a1.2 := ⟨_, rfl⟩
      rw [← hq] at hcd0
      have HQ := Lib.hid hq
      have HCd0 := Lib.hid hcd0
      clear hG h0 h1 hfe ha1 hck hcl hl1 hl2 hq hcd0
      go_wp2_with fail
      refine HF.out.mono ?_
      rintro e w2 ⟨rfl, rfl⟩
      go_wp2_with fail
      refine HE.out.mono ?_
      rintro e w2 ⟨rfl, rfl⟩
      go_wp2_with fail
      refine HV1.out.mono ?_
      rintro e w3 ⟨rfl, R3, hg3⟩
      have ho3 := own_rsI HR.out (by decide) HO.out hg3
      have HNe : Hid ((Value.slice ao k c).ownBlock ≠ some w3.heap.size) := Lib.hid (fun h => by have := (ho3.lt _ h).2; omega)
      have hB3 : w.heap.size ≤ w3.heap.size := R3.size
      have R4 := R3.alloc (.cells #[.string ⟨a1.1.toArray⟩, .string ⟨#[]⟩, .int .i64 0, .int .i64 0] 133)
      have HO4 := Lib.hid (own_below ho3 ((Below.refl _ _).alloc (Nat.le_refl _) (.cells #[.string ⟨a1.1.toArray⟩, .string ⟨#[]⟩, .int .i64 0, .int .i64 0] 133)))
      have HX4 := Lib.hid (heap_alloc_new w3 (.cells #[.string ⟨a1.1.toArray⟩, .string ⟨#[]⟩, .int .i64 0, .int .i64 0] 133))
      have HR4 := Lib.hid R4
      have hv2 := R4.bool
      rw [← HQ.out] at hv2
      obtain ⟨qb, qs⟩ := q
      have HV2 := Lib.hid hv2
      clear ho3 R3 hg3 HV1 R4 hv2 HQ
      go_wp2_with fail
      refine HV2.out.mono ?_
      rintro e w5 ⟨rfl, R5, hg5⟩
      have HO5 := Lib.hid (own_rsI HR4.out (by decide) HO4.out hg5)
      have HX5 := Lib.hid (blk_rs HR4.out (by decide) HX4.out hg5)
      have HR5 := Lib.hid R5
      clear R5 hg5 HV2 HO4 HX4 HR4
      try dsimp only at HR5 HCd0
      cases qb with
      | true =>
        have HV3 := Lib.hid HR5.out.rvar
        obtain ⟨a3, ha3⟩ : ∃ a3, a3 = rVar qs := ⟨_, rfl⟩
        have hv4 : ∃ a4, a4 = rVar a3.2 := ⟨_, rfl⟩
        obtain ⟨a4, ha4⟩ := hv4
        have hcd : getItm st = (⟨bsI a1.1, ⟨#[]⟩, a3.1, a4.1⟩, a4.2) := by rw [HCd0.out, ha4, ha3]; rfl
        have HCd := Lib.hid hcd
        have HA4 := Lib.hid ha4
        rw [← ha3] at HV3
        clear hcd ha3 ha4 HCd0
        go_wp2_with fail
        refine HV3.out.mono ?_
        rintro e w6 ⟨rfl, R6, hg6⟩
        have HO6 := Lib.hid (own_rsI HR5.out (by decide) HO5.out hg6)
        have HX6 := Lib.hid (blk_rs HR5.out (by decide) HX5.out hg6)
        have hv4 := R6.rvar
        rw [← HA4.out] at hv4
        have HV4 := Lib.hid hv4
        have HR6 := Lib.hid R6
        clear R6 hg6 HV3 HO5 HX5 HR5 hv4 HA4
        go_wp2_with fail
        refine HV4.out.mono ?_
        rintro e w7 ⟨rfl, R7, hg7⟩
        have HO7 := Lib.hid (own_rsI HR6.out (by decide) HO6.out hg7)
        have hx7 := blk_rs HR6.out (by decide) HX6.out hg7
        have c2 : w7.cell? ⟨w3.heap.size, 2, none⟩ = some (.int .i64 0) := by rw [blk_cell hx7]; rfl
        have c3 : w7.cell? ⟨w3.heap.size, 3, none⟩ = some (.int .i64 0) := by rw [blk_cell hx7]; rfl
        have f2 := blk_frozen hx7 2
        have f3 := blk_frozen hx7 3
        obtain ⟨W8, hW8⟩ : ∃ W8, W8 = (w7.setCell ⟨w3.heap.size, 2, none⟩ (.int .i64 a3.1)).setCell ⟨w3.heap.size, 3, none⟩ (.int .i64 a4.1) := ⟨_, rfl⟩
        have hs1 := blk_set hx7 2 (.int .i64 a3.1)
        have hs2 := blk_set hs1 3 (.int .i64 a4.1)
        have HR8 : Hid (RS w W8 w.heap.size b a4.2) := Lib.hid (by rw [hW8]; exact rs_set (rs_set R7 (by decide) hx7 hB3) (by decide) hs1 hB3)
        have HO8 : Hid (W8.ownsRow w.heap.size 133 4 (.slice ao k c) k (itmCells acc)) := Lib.hid (by rw [hW8]; exact (HO7.out.kept (grown_set w7 w3.heap.size 2 _) (.inr HNe.out)).kept (grown_set _ w3.heap.size 3 _) (.inr HNe.out))
        rw [← hW8] at hs2
        have d0 : W8.cell? ⟨w3.heap.size, 0, none⟩ = some (.string ⟨a1.1.toArray⟩) := by rw [blk_cell hs2]; rfl
        have d1 : W8.cell? ⟨w3.heap.size, 1, none⟩ = some (.string ⟨#[]⟩) := by rw [blk_cell hs2]; rfl
        have d2 : W8.cell? ⟨w3.heap.size, 2, none⟩ = some (.int .i64 a3.1) := by rw [blk_cell hs2]; rfl
        have d3 : W8.cell? ⟨w3.heap.size, 3, none⟩ = some (.int .i64 a4.1) := by rw [blk_cell hs2]; rfl
        clear R7 hg7 HV4 HO6 HX6 HR6 hx7 hs1 hs2 HO7
        go_upto_region 8 with fail
        rw [← hW8]
        clear hW8
        have hkm : k ≤ 1000000 := by omega
        have hsz8 : w.heap.size ≤ W8.heap.size := HR8.out.size
        go_wp2_with (at_builtin; refine wpList_append_new rfl (.tmp 33) (.tmp 35) 131 rfl w.heap.size 133 i0 _ 4 48 Tryz.underlying131 hi hz0 hz1 hz2 rfl (by omega) _ k (itmCells acc) rfl HO8.out hsz8 [.string ⟨a1.1.toArray⟩, .string ⟨#[]⟩, .int .i64 a3.1, .int .i64 a4.1] 1 rfl rfl rfl (by simp [Value.oneCell']) (by omega) (by omega) ?_; intro v1 w8 hown8 hg8 hb8 hs8 hat8; have HO9 := Lib.hid hown8; have HR9 := Lib.hid (HR8.out.far hg8 (HR8.out.ne (by decide) HO8.out) (HR8.out.2.1.grown hg8 HR8.out.size (fun k hk => by have := (HO8.out.lt k hk).1; have := HR8.out.2.2; omega))); obtain ⟨g8, cap8, hv8, _⟩ := hat8; subst hv8; clear hown8 hg8 hb8)
        go_roundw
        case rel => exact ⟨k + 1, acc ++ [⟨bsI a1.1, ⟨#[]⟩, a3.1, a4.1⟩], some ⟨g8, 0, none⟩, cap8, a4.2, rfl, Lib.hid (by rw [itmCells_append]; exact HO9.out), Lib.hid (by
            obtain ⟨c1, c2⟩ := HA.out
            obtain ⟨c3, _⟩ := HCk.out
            rw [HCd.out] at c3
            refine ⟨by rw [List.length_append, c1]; rfl, fun e he => ?_⟩
            rcases List.mem_append.1 he with he | he
            · exact c2 e he
            · have : e = ⟨bsI a1.1, ⟨#[]⟩, a3.1, a4.1⟩ := by simpa using he
              rw [this]; exact c3), Lib.hid (by rw [← HG'.out, HCd.out]), HR9, by omega, Lib.hid (fun h => by
            obtain ⟨_, c4⟩ := HCk.out
            rw [HCd.out] at c4
            have := c4 h
            have := HL1.out
            show k + 1 + a4.2.1.length ≤ _
            dsimp only at *
            omega)⟩
        case measure => simp [sliceNI]; omega
      | false =>
        have HV3 := Lib.hid (HR5.out.text 60)
        obtain ⟨a3, ha3⟩ : ∃ a3, a3 = rText 60 qs := ⟨_, rfl⟩
        have hcd : getItm st = (⟨bsI a1.1, bsI a3.1, 0, 0⟩, a3.2) := by rw [HCd0.out, ha3]; rfl
        have HCd := Lib.hid hcd
        rw [← ha3] at HV3
        clear hcd ha3 HCd0
        go_wp2_with fail
        refine HV3.out.mono ?_
        rintro e w7 ⟨rfl, R7, hg7⟩
        have HO7 := Lib.hid (own_rsI HR5.out (by decide) HO5.out hg7)
        have hx7 := blk_rs HR5.out (by decide) HX5.out hg7
        have c1 : w7.cell? ⟨w3.heap.size, 1, none⟩ = some (.string ⟨#[]⟩) := by rw [blk_cell hx7]; rfl
        have f1 := blk_frozen hx7 1
        obtain ⟨W8, hW8⟩ : ∃ W8, W8 = w7.setCell ⟨w3.heap.size, 1, none⟩ (.string ⟨a3.1.toArray⟩) := ⟨_, rfl⟩
        have hs1 := blk_set hx7 1 (.string ⟨a3.1.toArray⟩)
        have HR8 : Hid (RS w W8 w.heap.size b a3.2) := Lib.hid (by rw [hW8]; exact rs_set R7 (by decide) hx7 hB3)
        have HO8 : Hid (W8.ownsRow w.heap.size 133 4 (.slice ao k c) k (itmCells acc)) := Lib.hid (by rw [hW8]; exact HO7.out.kept (grown_set w7 w3.heap.size 1 _) (.inr HNe.out))
        rw [← hW8] at hs1
        have d0 : W8.cell? ⟨w3.heap.size, 0, none⟩ = some (.string ⟨a1.1.toArray⟩) := by rw [blk_cell hs1]; rfl
        have d1 : W8.cell? ⟨w3.heap.size, 1, none⟩ = some (.string ⟨a3.1.toArray⟩) := by rw [blk_cell hs1]; rfl
        have d2 : W8.cell? ⟨w3.heap.size, 2, none⟩ = some (.int .i64 0) := by rw [blk_cell hs1]; rfl
        have d3 : W8.cell? ⟨w3.heap.size, 3, none⟩ = some (.int .i64 0) := by rw [blk_cell hs1]; rfl
        clear R7 hg7 HV3 HO5 HX5 HR5 hx7 hs1 HO7
        go_upto_region 8 with fail
        rw [← hW8]
        clear hW8
        have hkm : k ≤ 1000000 := by omega
        have hsz8 : w.heap.size ≤ W8.heap.size := HR8.out.size
        go_wp2_with (at_builtin; refine wpList_append_new rfl (.tmp 33) (.tmp 35) 131 rfl w.heap.size 133 i0 _ 4 48 Tryz.underlying131 hi hz0 hz1 hz2 rfl (by omega) _ k (itmCells acc) rfl HO8.out hsz8 [.string ⟨a1.1.toArray⟩, .string ⟨a3.1.toArray⟩, .int .i64 0, .int .i64 0] 1 rfl rfl rfl (by simp [Value.oneCell']) (by omega) (by omega) ?_; intro v1 w8 hown8 hg8 hb8 hs8 hat8; have HO9 := Lib.hid hown8; have HR9 := Lib.hid (HR8.out.far hg8 (HR8.out.ne (by decide) HO8.out) (HR8.out.2.1.grown hg8 HR8.out.size (fun k hk => by have := (HO8.out.lt k hk).1; have := HR8.out.2.2; omega))); obtain ⟨g8, cap8, hv8, _⟩ := hat8; subst hv8; clear hown8 hg8 hb8)
        go_roundw
        case rel => exact ⟨k + 1, acc ++ [⟨bsI a1.1, bsI a3.1, 0, 0⟩], some ⟨g8, 0, none⟩, cap8, a3.2, rfl, Lib.hid (by rw [itmCells_append]; exact HO9.out), Lib.hid (by
            obtain ⟨c1, c2⟩ := HA.out
            obtain ⟨c3, _⟩ := HCk.out
            rw [HCd.out] at c3
            refine ⟨by rw [List.length_append, c1]; rfl, fun e he => ?_⟩
            rcases List.mem_append.1 he with he | he
            · exact c2 e he
            · have : e = ⟨bsI a1.1, bsI a3.1, 0, 0⟩ := by simpa using he
              rw [this]; exact c3), Lib.hid (by rw [← HG'.out, HCd.out]), HR9, by omega, Lib.hid (fun h => by
            obtain ⟨_, c4⟩ := HCk.out
            rw [HCd.out] at c4
            have := c4 h
            have := HL1.out
            show k + 1 + a3.2.1.length ≤ _
            dsimp only at *
            omega)⟩
        case measure => simp [sliceNI]; omega
    · have hfin : g0 = (acc, st) := by rw [← HG.out]; exact getGoI_stop _ _ _ hgo
      have hP := HP.out
      rw [hfin] at hP
      dsimp only at hP
      obtain ⟨hA1, hA2⟩ := HA.out
      have hcd : ItmsOk wr ao k acc := ⟨itms_own HO.out, fun e he => (hA2 e he).1, by omega, by
        have : (acc.map Itm.len).sum ≤ 100 * acc.length := by
          clear hP hA1 HG hfin HO HA
          induction acc with
          | nil => simp
          | cons a r ih =>
            have h1 := (hA2 a List.mem_cons_self).2
            have h2 := ih (fun e he => hA2 e (List.mem_cons_of_mem _ he))
            rw [List.map_cons, List.sum_cons, List.length_cons]
            omega
        omega⟩
      have HPt := Lib.hid (putI_any (c := c) hcd)
      have hb0 := HR.out.2.1
      have hbz := HR.out.size
      have HRR := Lib.hid HR.out
      obtain ⟨q, hq⟩ : ∃ q, q = putI acc := ⟨_, rfl⟩
      rw [← hq] at HPt hP
      have HHP := Lib.hid hP
      have HX := Lib.hid hfin
      clear hcd hA1 hA2 hP hq hfin HG HG0 HP
      have HEr : Hid (∀ w', Below wr.heap.size wr w' → Calls Tryz.prog 26 #[.pointer (some ⟨b, 0, none⟩)] w' fun e w'' => e = .returned (.int .i64 st.2) ∧ w' = w'') := Lib.hid (fun w' hb => (HRR.out.step hb).err)
      by_cases h0 : st.2 = 0
      · have h1 : st.1 = [] := Classical.byContradiction fun h => hgo ⟨h0, h⟩
        have hfe : rEnd st = 0 := by unfold rEnd; rw [if_neg (by simpa using h0), if_neg (by simpa using h1)]
        rw [hfe] at HF
        rw [h0] at HE HEr
        obtain ⟨q1, q2⟩ := q
        obtain ⟨z, hz⟩ : ∃ z, ((ByteArray.mk q1.toArray).toList == s.toList) = z := ⟨_, rfl⟩
        have hzq : z = true ↔ q1 = s.data.toList := by
          rw [← hz, beq_iff_eq, ByteArray.toList_eq, ByteArray.toList_eq, bytes_mk]
        obtain ⟨Q, hQ⟩ : ∃ Q, Q = ByteArray.mk q1.toArray := ⟨_, rfl⟩
        dsimp only at HPt
        rw [← hQ] at HPt hz
        clear hQ
        by_cases hq2 : q2 = 0
        · subst hq2
          cases z with
          | true =>
            have hP := HHP.out
            rw [if_pos ⟨h0, by rw [hzq.1 rfl]⟩] at hP
            have HRes := Lib.hid hP
            clear hP h0 h1 hfe hzq hgo HHP HX
            go_wp2_with fail
            refine HF.out.mono ?_
            rintro e w2 ⟨rfl, rfl⟩
            go_wp2_with fail
            refine HPt.out.mono ?_
            rintro e w5 ⟨rfl, hb5⟩
            have HO5 := Lib.hid (own_below HO.out hb5)
            have HB5 := Lib.hid (hb0.trans (hb5.mono hbz))
            have HEx := Lib.hid (HEr.out w5 hb5)
            clear hb5 HEr HPt HF
            go_wp2_with fail
            refine HEx.out.mono ?_
            rintro e w6 ⟨rfl, rfl⟩
            go_wp2_with fail
            go_ret2
            exact ⟨ao, k, c, by rw [HRes.out]; rfl, by rw [HRes.out]; exact HO5.out, by rw [HRes.out]; exact HA.out.1, HB5.out⟩
          | false =>
            have hP := HHP.out
            rw [if_neg (by rintro ⟨_, h⟩; injection h with h _; exact absurd (hzq.2 h) (by decide))] at hP
            have HRes := Lib.hid hP
            clear hP h0 h1 hfe hzq hgo HHP HX
            go_wp2_with fail
            refine HF.out.mono ?_
            rintro e w2 ⟨rfl, rfl⟩
            go_wp2_with fail
            refine HPt.out.mono ?_
            rintro e w5 ⟨rfl, hb5⟩
            have HB5 := Lib.hid (hb0.trans (hb5.mono hbz))
            have HEx := Lib.hid (HEr.out w5 hb5)
            clear hb5 HEr HPt HF
            go_wp2_with fail
            refine HEx.out.mono ?_
            rintro e w6 ⟨rfl, rfl⟩
            go_wp2_with fail
            go_ret2
            exact ⟨none, 0, 0, by rw [HRes.out]; rfl, by rw [HRes.out]; exact World.ownsRow_nil _ _ _ _, by rw [HRes.out]; rfl, HB5.out⟩
        · have hP := HHP.out
          rw [if_neg (by rintro ⟨_, h⟩; injection h with _ h; exact hq2 h)] at hP
          have HRes := Lib.hid hP
          have hd : (q2 != 0) = true := by simpa using hq2
          clear hP h0 h1 hfe hzq hgo HHP HX hz hq2
          go_wp2_with fail
          refine HF.out.mono ?_
          rintro e w2 ⟨rfl, rfl⟩
          go_wp2_with fail
          refine HPt.out.mono ?_
          rintro e w5 ⟨rfl, hb5⟩
          have HB5 := Lib.hid (hb0.trans (hb5.mono hbz))
          have HEx := Lib.hid (HEr.out w5 hb5)
          clear hb5 HEr HPt HF
          go_wp2_with fail
          refine HEx.out.mono ?_
          rintro e w6 ⟨rfl, rfl⟩
          go_wp2_with fail
          go_ret2
          exact ⟨none, 0, 0, by rw [HRes.out]; rfl, by rw [HRes.out]; exact World.ownsRow_nil _ _ _ _, by rw [HRes.out]; rfl, HB5.out⟩
      · have hfe : rEnd st = st.2 := by unfold rEnd; rw [if_pos h0]
        rw [hfe] at HF
        have hP := HHP.out
        rw [if_neg (fun h => h0 h.1)] at hP
        have HRes := Lib.hid hP
        obtain ⟨r, hr⟩ : ∃ r, r = st.2 := ⟨_, rfl⟩
        rw [← hr] at HF HE HEr h0
        have hd1 : (r != 0) = true := by simpa using h0
        have hd2 : (r == 0) = false := by simpa using h0
        clear hP h0 hfe hgo HHP HX hr
        go_wp2_with fail
        refine HF.out.mono ?_
        rintro e w2 ⟨rfl, rfl⟩
        go_wp2_with fail
        refine HE.out.mono ?_
        rintro e w2 ⟨rfl, rfl⟩
        go_wp2_with fail
        refine HPt.out.mono ?_
        rintro e w5 ⟨rfl, hb5⟩
        have HB5 := Lib.hid (hb0.trans (hb5.mono hbz))
        have HEx := Lib.hid (HEr.out w5 hb5)
        clear hb5 HEr HPt HF
        go_wp2_with fail
        refine HEx.out.mono ?_
        rintro e w6 ⟨rfl, rfl⟩
        go_wp2_with fail
        go_ret2
        exact ⟨none, 0, 0, by rw [HRes.out]; rfl, by rw [HRes.out]; exact World.ownsRow_nil _ _ _ _, by rw [HRes.out]; rfl, HB5.out⟩
end Go.Proofs.YtmdidmllaldbaaaGreat
