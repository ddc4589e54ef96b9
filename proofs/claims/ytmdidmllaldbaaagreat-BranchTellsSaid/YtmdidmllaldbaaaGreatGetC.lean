/- The walk of branch.Get. -/
import Derived.Test.YtmdidmllaldbaaaGreatPutC
import Derived.Test.YtmdidmllaldbaaaGreatRdr
namespace Go.Proofs.YtmdidmllaldbaaaGreat
open Go.RowKit
set_option linter.unusedVariables false
def bsC (l : List UInt8) : ByteArray := ⟨l.toArray⟩
def getChd (st : RSt) : Chd × RSt := (⟨bsC (rText 40 st).1, (rVar (rText 40 st).2).1⟩, (rVar (rText 40 st).2).2)
/-- The loop of Get. -/
def getGo : Nat → RSt → List Chd → List Chd × RSt
  | 0, st, acc => (acc, st)
  | n + 1, st, acc => if st.2 = 0 ∧ st.1 ≠ [] then getGo n (getChd st).2 (acc ++ [(getChd st).1]) else (acc, st)
/-- What Get answers. -/
def getC (b : List UInt8) : List Chd × Int :=
  if (getGo (b.length + 1) (b, 0) []).2.2 = 0 ∧ putC (getGo (b.length + 1) (b, 0) []).1 = (b, 0) then ((getGo (b.length + 1) (b, 0) []).1, 0) else ([], 4)
theorem getGo_stop (n : Nat) (st : RSt) (acc : List Chd) (h : ¬ (st.2 = 0 ∧ st.1 ≠ [])) : getGo n st acc = (acc, st) := by
  cases n with
  | zero => rfl
  | succ n => rw [getGo, if_neg h]
theorem numb_lt (l : List UInt8) : ∀ i acc, (numb i acc l).2.2 = 0 → (numb i acc l).2.1.length < l.length := by
  induction l with
  | nil => intro i acc h; cases h
  | cons c r ih =>
    intro i acc h
    rw [numb] at h ⊢
    split
    · rename_i h1; rw [if_pos h1] at h; cases h
    · rename_i h1
      rw [if_neg h1] at h
      split
      · rename_i h2
        rw [if_pos h2] at h
        have := ih _ _ h
        rw [List.length_cons]
        omega
      · rename_i h2
        rw [if_neg h2] at h
        split
        · rename_i h3; rw [if_pos h3] at h; cases h
        · rw [List.length_cons]; show r.length < _; omega
theorem rVar_lt (st : RSt) (h : (rVar st).2.2 = 0) : st.2 = 0 ∧ (rVar st).2.1.length < st.1.length := by
  unfold rVar at h ⊢
  by_cases h0 : st.2 ≠ 0
  · rw [if_pos h0] at h; exact absurd h h0
  · rw [if_neg h0] at h ⊢
    by_cases h1 : (numb 0 0 st.1).2.2 ≠ 0
    · rw [if_pos h1] at h; exact absurd h h1
    · rw [if_neg h1]
      exact ⟨by simpa using h0, numb_lt _ _ _ (by simpa using h1)⟩
theorem rText_le (m : Int) (st : RSt) : (rText m st).2.1.length ≤ st.1.length := by
  have := rCount_len m st
  unfold rText
  split
  · exact this
  · split
    · exact this
    · show (List.drop _ _).length ≤ _
      rw [List.length_drop]; omega
theorem getChd_lt (st : RSt) (h : (getChd st).2.2 = 0) : (getChd st).2.1.length < st.1.length := by
  have h1 := rVar_lt (rText 40 st).2 h
  have h2 := rText_le 40 st
  show (rVar (rText 40 st).2).2.1.length < _
  omega
theorem getChd_ok (st : RSt) : ChdOk (getChd st).1 ∧ (getChd st).1.key.size ≤ 40 := by
  have h1 := rText_len 40 st
  have h2 : (getChd st).1.key.size = (rText 40 st).1.length := by show (rText 40 st).1.toArray.size = _; simp
  refine ⟨⟨rVar_range _, ?_⟩, ?_⟩ <;> rw [h2] <;> omega
theorem own_rs {w0 W W' : World} {B b base : Nat} {st : RSt} {e : TypeId} {size n : Nat} {v : Value} {xs : List Value} (h : RS w0 W B b st) (hT : 154 ≠ e) (ho : W.ownsRow base e size v n xs) (hg : W.grownBy W' (some b)) : W'.ownsRow base e size v n xs :=
  ho.kept hg (.inr (h.ne hT ho))
def GetResC (b : List UInt8) (w : World) (e : Ending) (w' : World) : Prop :=
  ∃ ao N c, e = .returned (.tuple #[.slice ao N c, .int .i64 (getC b).2]) ∧ w'.ownsRow w.heap.size 192 2 (.slice ao N c) N (chdCells (getC b).1) ∧ (getC b).1.length = N ∧ Below w.heap.size w w'
theorem chdInfoG : (Tryz.prog.info? 192).map (fun i => (i.zero, i.size, i.bytes)) = some (some (.agg #[.string ⟨#[]⟩, .int .i64 0]), 2, 24) := by kernel_rfl
def sliceN : Value → Nat
  | .slice _ n _ => n
  | _ => 0
set_option maxRecDepth 20000 in
set_option maxHeartbeats 8000000 in
theorem getC_any (s : ByteArray) (w : World) (hs : s.size ≤ 1000000) :
    Calls Tryz.prog 38 #[.string s] w (GetResC s.data.toList w) := by
  obtain ⟨i0, hi, hz0, hz1, hz2⟩ := info_parts chdInfoG
  obtain ⟨g0, hg0⟩ : ∃ g, g = getGo (s.data.toList.length + 1) (s.data.toList, 0) [] := ⟨_, rfl⟩
  have HP : Hid (getC s.data.toList = if g0.2.2 = 0 ∧ putC g0.1 = (s.data.toList, 0) then (g0.1, 0) else ([], 4)) := Lib.hid (by rw [hg0]; rfl)
  have hsl : s.data.toList.length = s.size := rfl
  rw [hsl] at hg0
  have HG0 := Lib.hid hg0
  clear hg0 hsl
  go_enter Tryz.func38, Tryz.ntmps38
  go_wp2_with fail
  refine (RS.new (w0 := w) (B := w.heap.size) s (Below.refl _ _) (Nat.le_refl _) (by omega)).mono ?_
  rintro e w1 ⟨b, rfl, R1⟩
  have HR1 := Lib.hid R1
  clear R1
  go_wp2_with fail
  go_loopw [4] (fun l wr => ∃ (k : Nat) (acc : List Chd) (ao : Option Addr) (c : Nat) (st : RSt), l = .slice ao k c ∧ Hid (wr.ownsRow w.heap.size 192 2 (.slice ao k c) k (chdCells acc)) ∧ Hid (acc.length = k ∧ ∀ e ∈ acc, ChdOk e ∧ e.key.size ≤ 40) ∧ Hid (getGo (s.size + 1 - k) st acc = g0) ∧ Hid (RS w wr w.heap.size b st) ∧ k ≤ s.size + 1 ∧ Hid (st.2 = 0 → k + st.1.length ≤ s.size)) (fun l _ => s.size + 1 - sliceN l)
  case atStart => exact ⟨0, [], none, 0, (s.data.toList, 0), rfl, Lib.hid (World.ownsRow_nil _ _ _ _), Lib.hid ⟨rfl, by simp⟩, Lib.hid (by rw [HG0.out]; rfl), HR1, by omega, Lib.hid (fun _ => by show 0 + s.size ≤ _; omega)⟩
  case round =>
    obtain ⟨k, acc, ao, c, st, rfl, HO, HA, HG, HR, hk, HL⟩ := hrel
    have HF := Lib.hid HR.out.fin
    have HE := Lib.hid HR.out.err
    by_cases hgo : st.2 = 0 ∧ st.1 ≠ []
    · obtain ⟨h0, h1⟩ := hgo
      have hl1 := HL.out h0
      have hl2 : 0 < st.1.length := List.length_pos_iff.2 h1
      have hG := HG.out
      rw [show s.size + 1 - k = (s.size + 1 - (k + 1)) + 1 from by omega, getGo, if_pos ⟨h0, h1⟩] at hG
      have HG' := Lib.hid hG
      have hfe : rEnd st = 4 := by unfold rEnd; rw [if_neg (by simpa using h0), if_pos h1]
      rw [hfe] at HF
      rw [h0] at HE
      have HV1 := Lib.hid (HR.out.text 40)
      have hck := getChd_ok st
      have hcl := getChd_lt st
      obtain ⟨a1, ha1⟩ : ∃ a1, a1 = rText 40 st := ⟨_, rfl⟩
      have hcd : getChd st = (⟨bsC a1.1, (rVar a1.2).1⟩, (rVar a1.2).2) := by rw [ha1]; rfl
      have HCd := Lib.hid hcd
      have HCk := Lib.hid (And.intro hck hcl)
      rw [← ha1] at HV1
      have HL1 : Hid (k + st.1.length ≤ s.size) := Lib.hid hl1
      have hk2 : k < s.size := by omega
      clear hG h0 h1 hfe ha1 hcd hck hcl hl1 hl2
      go_wp2_with fail
      refine HF.out.mono ?_
      rintro e w2 ⟨rfl, rfl⟩
      go_wp2_with fail
      refine HE.out.mono ?_
      rintro e w2 ⟨rfl, rfl⟩
      go_wp2_with fail
      refine HV1.out.mono ?_
      rintro e w3 ⟨rfl, R3, hg3⟩
      have HO3 := Lib.hid (own_rs HR.out (by decide) HO.out hg3)
      have HV2 := Lib.hid R3.rvar
      obtain ⟨a2, ha2⟩ : ∃ a2, a2 = rVar a1.2 := ⟨_, rfl⟩
      rw [← ha2] at HV2 HCd
      have HR3 := Lib.hid R3
      clear ha2 R3 hg3 HV1
      go_wp2_with fail
      refine HV2.out.mono ?_
      rintro e w4 ⟨rfl, R4, hg4⟩
      have HO4 := Lib.hid (own_rs HR3.out (by decide) HO3.out hg4)
      have HR4 := Lib.hid R4
      have hsz4 : w.heap.size ≤ w4.heap.size := R4.size
      clear R4 hg4 HV2 HO3 HR3
      have hkm : k ≤ 1000000 := by omega
      go_wp2_with (at_builtin; refine wpList_append_new rfl (.tmp 18) (.tmp 24) 66 rfl w.heap.size 192 i0 _ 2 24 Tryz.underlying66 hi hz0 hz1 hz2 rfl (by omega) _ k (chdCells acc) rfl HO4.out hsz4 [.string ⟨a1.1.toArray⟩, .int .i64 a2.1] 1 rfl rfl rfl (by simp [Value.oneCell']) (by omega) (by omega) ?_; intro v1 w8 hown8 hg8 hb8 hs8 hat8; have HO8 := Lib.hid hown8; have HR8 := Lib.hid (HR4.out.far hg8 (HR4.out.ne (by decide) HO4.out) (HR4.out.2.1.grown hg8 HR4.out.size (fun k hk => by have := (HO4.out.lt k hk).1; have := HR4.out.2.2; omega))); obtain ⟨g8, cap8, hv8, _⟩ := hat8; subst hv8; clear hown8 hg8 hb8)
      go_roundw
      case rel => exact ⟨k + 1, acc ++ [⟨bsC a1.1, a2.1⟩], some ⟨g8, 0, none⟩, cap8, a2.2, rfl, Lib.hid (by rw [chdCells_append]; exact HO8.out), Lib.hid (by
          obtain ⟨c1, c2⟩ := HA.out
          obtain ⟨c3, _⟩ := HCk.out
          rw [HCd.out] at c3
          refine ⟨by rw [List.length_append, c1]; rfl, fun e he => ?_⟩
          rcases List.mem_append.1 he with he | he
          · exact c2 e he
          · have : e = ⟨bsC a1.1, a2.1⟩ := by simpa using he
            rw [this]; exact c3), Lib.hid (by rw [← HG'.out, HCd.out]), HR8, by omega, Lib.hid (fun h => by
          obtain ⟨_, c4⟩ := HCk.out
          rw [HCd.out] at c4
          have := c4 h
          have := HL1.out
          show k + 1 + a2.2.1.length ≤ _
          dsimp only at *
          omega)⟩
      case measure => simp [sliceN]; omega
    · have hfin : g0 = (acc, st) := by rw [← HG.out]; exact getGo_stop _ _ _ hgo
      have hP := HP.out
      rw [hfin] at hP
      dsimp only at hP
      obtain ⟨hA1, hA2⟩ := HA.out
      have hcd : ChdsOk wr ao k acc := ⟨chds_own HO.out, fun e he => (hA2 e he).1, by omega, by
        have : (acc.map (·.key.size)).sum ≤ 40 * acc.length := by
          clear hP hA1 HG hfin HO HA
          induction acc with
          | nil => simp
          | cons a r ih =>
            have h1 := (hA2 a List.mem_cons_self).2
            have h2 := ih (fun e he => hA2 e (List.mem_cons_of_mem _ he))
            rw [List.map_cons, List.sum_cons, List.length_cons]
            omega
        omega⟩
      have HPt := Lib.hid (putC_any (c := c) hcd)
      have hb0 := HR.out.2.1
      have hbz := HR.out.size
      have HRR := Lib.hid HR.out
      obtain ⟨q, hq⟩ : ∃ q, q = putC acc := ⟨_, rfl⟩
      rw [← hq] at HPt hP
      have HHP := Lib.hid hP
      have HX := Lib.hid hfin
      clear hcd hA1 hA2 hP hq hfin HG HG0 HP
      have HEr : Hid (∀ w', Below wr.heap.size wr w' → Calls Tryz.prog 26 #[.pointer (some ⟨b, 0, none⟩)] w' fun e w'' => e = .returned (.int .i64 st.2) ∧ w' = w'') := Lib.hid (fun w' hb => (HRR.out.step hb).err)
      by_cases h0 : st.2 = 0
      · have h1 : st.1 = [] := Classical.byContradiction fun h => hgo ⟨h0, h⟩
        have hfe : rEnd st = 0 := by unfold rEnd; rw [if_neg (by simpa using h0), if_neg (by simpa using h1)]
        rw [hfe] at HF
        rw [h0] at HE HEr
        obtain ⟨q1, q2⟩ := q
        obtain ⟨z, hz⟩ : ∃ z, ((ByteArray.mk q1.toArray).toList == s.toList) = z := ⟨_, rfl⟩
        have hzq : z = true ↔ q1 = s.data.toList := by
          rw [← hz, beq_iff_eq, ByteArray.toList_eq, ByteArray.toList_eq, bytes_mk]
        obtain ⟨Q, hQ⟩ : ∃ Q, Q = ByteArray.mk q1.toArray := ⟨_, rfl⟩
        dsimp only at HPt
        rw [← hQ] at HPt hz
        clear hQ
        by_cases hq2 : q2 = 0
        · subst hq2
          cases z with
          | true =>
            have hP := HHP.out
            rw [if_pos ⟨h0, by rw [hzq.1 rfl]⟩] at hP
            have HRes := Lib.hid hP
            clear hP h0 h1 hfe hzq hgo HHP HX
            go_wp2_with fail
            refine HF.out.mono ?_
            rintro e w2 ⟨rfl, rfl⟩
            go_wp2_with fail
            refine HPt.out.mono ?_
            rintro e w5 ⟨rfl, hb5⟩
            have HO5 := Lib.hid (own_below HO.out hb5)
            have HB5 := Lib.hid (hb0.trans (hb5.mono hbz))
            have HEx := Lib.hid (HEr.out w5 hb5)
            clear hb5 HEr HPt HF
            go_wp2_with fail
            refine HEx.out.mono ?_
            rintro e w6 ⟨rfl, rfl⟩
            go_wp2_with fail
            go_ret2
            exact ⟨ao, k, c, by rw [HRes.out]; rfl, by rw [HRes.out]; exact HO5.out, by rw [HRes.out]; exact HA.out.1, HB5.out⟩
          | false =>
            have hP := HHP.out
            rw [if_neg (by rintro ⟨_, h⟩; injection h with h _; exact absurd (hzq.2 h) (by decide))] at hP
            have HRes := Lib.hid hP
            clear hP h0 h1 hfe hzq hgo HHP HX
            go_wp2_with fail
            refine HF.out.mono ?_
            rintro e w2 ⟨rfl, rfl⟩
            go_wp2_with fail
            refine HPt.out.mono ?_
            rintro e w5 ⟨rfl, hb5⟩
            have HB5 := Lib.hid (hb0.trans (hb5.mono hbz))
            have HEx := Lib.hid (HEr.out w5 hb5)
            clear hb5 HEr HPt HF
            go_wp2_with fail
            refine HEx.out.mono ?_
            rintro e w6 ⟨rfl, rfl⟩
            go_wp2_with fail
            go_ret2
            exact ⟨none, 0, 0, by rw [HRes.out]; rfl, by rw [HRes.out]; exact World.ownsRow_nil _ _ _ _, by rw [HRes.out]; rfl, HB5.out⟩
        · have hP := HHP.out
          rw [if_neg (by rintro ⟨_, h⟩; injection h with _ h; exact hq2 h)] at hP
          have HRes := Lib.hid hP
          have hd : (q2 != 0) = true := by simpa using hq2
          clear hP h0 h1 hfe hzq hgo HHP HX hz hq2
          go_wp2_with fail
          refine HF.out.mono ?_
          rintro e w2 ⟨rfl, rfl⟩
          go_wp2_with fail
          refine HPt.out.mono ?_
          rintro e w5 ⟨rfl, hb5⟩
          have HB5 := Lib.hid (hb0.trans (hb5.mono hbz))
          have HEx := Lib.hid (HEr.out w5 hb5)
          clear hb5 HEr HPt HF
          go_wp2_with fail
          refine HEx.out.mono ?_
          rintro e w6 ⟨rfl, rfl⟩
          go_wp2_with fail
          go_ret2
          exact ⟨none, 0, 0, by rw [HRes.out]; rfl, by rw [HRes.out]; exact World.ownsRow_nil _ _ _ _, by rw [HRes.out]; rfl, HB5.out⟩
      · have hfe : rEnd st = st.2 := by unfold rEnd; rw [if_pos h0]
        rw [hfe] at HF
        have hP := HHP.out
        rw [if_neg (fun h => h0 h.1)] at hP
        have HRes := Lib.hid hP
        obtain ⟨r, hr⟩ : ∃ r, r = st.2 := ⟨_, rfl⟩
        rw [← hr] at HF HE HEr h0
        have hd1 : (r != 0) = true := by simpa using h0
        have hd2 : (r == 0) = false := by simpa using h0
        clear hP h0 hfe hgo HHP HX hr
        go_wp2_with fail
        refine HF.out.mono ?_
        rintro e w2 ⟨rfl, rfl⟩
        go_wp2_with fail
        refine HE.out.mono ?_
        rintro e w2 ⟨rfl, rfl⟩
        go_wp2_with fail
        refine HPt.out.mono ?_
        rintro e w5 ⟨rfl, hb5⟩
        have HB5 := Lib.hid (hb0.trans (hb5.mono hbz))
        have HEx := Lib.hid (HEr.out w5 hb5)
        clear hb5 HEr HPt HF
        go_wp2_with fail
        refine HEx.out.mono ?_
        rintro e w6 ⟨rfl, rfl⟩
        go_wp2_with fail
        go_ret2
        exact ⟨none, 0, 0, by rw [HRes.out]; rfl, by rw [HRes.out]; exact World.ownsRow_nil _ _ _ _, by rw [HRes.out]; rfl, HB5.out⟩
end Go.Proofs.YtmdidmllaldbaaaGreat
