/- The walks of ent.PutMembers and ent.GetMembers. -/
import Derived.Test.YtmdidmllaldbaaaGreatRowsN
import Derived.Test.YtmdidmllaldbaaaGreatRdr
import Derived.Test.YtmdidmllaldbaaaGreatEntP
namespace Go.Proofs.YtmdidmllaldbaaaGreat
open Go.RowKit
set_option linter.unusedVariables false
theorem intinfo : (Tryz.prog.info? 3).map (fun i => (i.zero, i.size, i.bytes)) = some (some (.int .i64 0), 1, 8) := by kernel_rfl
/-- A slice of numbers, wherever it lies. -/
def IntsOf (w : World) (ao : Option Addr) (n : Nat) (vs : List Int) : Prop :=
  vs.length = n ∧ (∀ v ∈ vs, -9223372036854775808 ≤ v ∧ v ≤ 9223372036854775807) ∧ (0 < n → ∃ b o, ao = some ⟨b, o, none⟩ ∧ b < w.heap.size ∧ ∀ (k : Nat) (v : Int), vs[k]? = some v → w.cell? ⟨b, o + k, none⟩ = some (.int .i64 v))
theorem IntsIn.of {w : World} {ao : Option Addr} {n c : Nat} {vs : List Int} (h : IntsIn w ao n c vs) : IntsOf w ao n vs := ⟨h.len, h.ok, h.cell⟩
theorem IntsOf.below {w W : World} {ao : Option Addr} {n : Nat} {vs : List Int} (h : IntsOf w ao n vs) (hb : Below w.heap.size w W) : IntsOf W ao n vs :=
  ⟨h.1, h.2.1, fun hn => by
    obtain ⟨b, o, ha, hlt, hc⟩ := h.2.2 hn
    exact ⟨b, o, ha, Nat.lt_of_lt_of_le hlt hb.size, fun k v hv => (hb.cell (p := ⟨b, o + k, none⟩) hlt).trans (hc k v hv)⟩⟩
theorem IntsOf.get {w : World} {ao : Option Addr} {n : Nat} {vs : List Int} (h : IntsOf w ao n vs) {k : Nat} (hk : k < n) :
    ∃ b o v, ao = some ⟨b, o, none⟩ ∧ b < w.heap.size ∧ vs[k]? = some v ∧ w.cell? ⟨b, o + k, none⟩ = some (.int .i64 v) := by
  obtain ⟨b, o, ha, hb, hc⟩ := h.2.2 (by omega)
  have hkl : k < vs.length := by rw [h.1]; exact hk
  exact ⟨b, o, vs[k], ha, hb, List.getElem?_eq_getElem hkl, hc k _ (List.getElem?_eq_getElem hkl)⟩
theorem IntsOf.var {w : World} {ao : Option Addr} {n c : Nat} {vs : List Int} (h : IntsOf w ao n vs) (hn : n ≤ 1000000) :
    Calls Tryz.prog 126 #[.slice ao n c] w fun e w' => e = .returned (.string ⟨(vars vs).toArray⟩) ∧ Below w.heap.size w w' := by
  refine nvar_any ao n c vs w h.1 (by omega) (fun k hk => ?_) h.2.1
  obtain ⟨b, o, v, ha, hlt, hv, hc⟩ := h.get hk
  refine ⟨⟨b, o, none⟩, ha, hlt, ?_⟩
  rw [add_plain, hc]
  simp [List.getD, hv]
theorem putMembers_any {ao : Option Addr} {n c : Nat} {vs : List Int} {w : World} (h : IntsOf w ao n vs) (hn : n ≤ 1000000) :
    Calls Tryz.prog 23 #[.slice ao n c] w fun e w' => e = .returned (.string ⟨(memB vs).toArray⟩) ∧ Below w.heap.size w w' := by
  have HI := Lib.hid h
  have hl : Hid (vs.length = n) := Lib.hid h.1
  clear h
  go_enter Tryz.func23, Tryz.ntmps23
  go_wp2_with fail
  refine (var_one (n : Int) _ _ (by omega) (by omega)).mono ?_
  rintro e w1 ⟨rfl, hb1⟩
  go_wp2_with fail
  refine ((HI.out.below hb1).var hn).mono ?_
  rintro e w2 ⟨rfl, hb2⟩
  have hcat := cat_run (var1 (n : Int)) (vars vs) w2 (by have := var1_len (n : Int); have := vars_len vs; have := hl.out; omega)
  go_wp2_with fail
  go_ret
  exact ⟨by unfold memB; rw [hl.out]; rfl, hb1.trans (hb2.mono hb1.size)⟩
/-- What GetMembers answers. -/
def MemRes (r : List Int × Int) (w : World) (e : Ending) (w' : World) : Prop :=
  ∃ ao N c, e = .returned (.tuple #[.slice ao N c, .int .i64 r.2]) ∧ w'.ownsRow w.heap.size 3 1 (.slice ao N c) N (r.1.map (Value.int .i64)) ∧ r.1.length = N ∧ Below w.heap.size w w'
set_option maxRecDepth 20000 in
set_option maxHeartbeats 2000000 in
theorem getMembers_any (s : ByteArray) (w : World) (hs : s.size ≤ 281474976710656) :
    Calls Tryz.prog 17 #[.string s] w (MemRes (membersP s.data.toList) w) := by
  obtain ⟨i0, hi, hz0, hz1, hz2⟩ := info_parts intinfo
  go_enter Tryz.func17, Tryz.ntmps17
  go_wp2_with fail
  refine (RS.new (w0 := w) (B := w.heap.size) s (Below.refl _ _) (Nat.le_refl _) hs).mono ?_
  rintro e w1 ⟨b, rfl, R1⟩
  go_wp2_with fail
  refine (R1.count 9).mono ?_
  rintro e w2 ⟨rfl, R2, hg2⟩
  clear hg2 R1
  obtain ⟨st, hst⟩ : ∃ st, st = rCount 9 (s.data.toList, 0) := ⟨_, rfl⟩
  have hc9 : 0 ≤ st.1 ∧ st.1 ≤ 9 := by rw [hst]; exact rCount_range 9 _ (by decide)
  rw [← hst] at R2 ⊢
  obtain ⟨m, hm⟩ : ∃ m : Nat, st.1 = m := ⟨st.1.toNat, by omega⟩
  have HP : Hid (memP s.data.toList = getMs m st.2 []) := Lib.hid (by unfold memP; rw [← hst, hm, Int.toNat_natCast])
  rw [hm]
  have hm9 : m ≤ 9 := by omega
  have HR2 := Lib.hid R2
  clear hst hm hc9 R2
  go_wp2_with fail
  go_loopw [5, 14] (fun l i wr => ∃ (k : Nat) (acc : List Int) (ao : Option Addr) (c : Nat) (st' : RSt), k ≤ m ∧ i = .int .i64 k ∧ l = .slice ao k c ∧ Hid (wr.ownsRow w.heap.size 3 1 (.slice ao k c) k (acc.map (Value.int .i64))) ∧ Hid (acc.length = k) ∧ Hid (getMs (m - k) st' acc = getMs m st.2 []) ∧ Hid (RS w wr w.heap.size b st')) (fun _ i _ => m - (intOf i).toNat)
  case atStart => exact ⟨0, [], none, 0, st.2, Nat.zero_le _, rfl, rfl, Lib.hid (World.ownsRow_nil _ _ _ _), rfl, rfl, HR2⟩
  case round =>
    obtain ⟨k, acc, ao, c, st', hk, rfl, rfl, HO, HLn, HG, HR⟩ := hrel
    by_cases hlt : k < m
    · have hG := HG.out
      rw [show m - k = (m - (k + 1)) + 1 from by omega, getMs] at hG
      have HG' := Lib.hid hG
      have HV := Lib.hid HR.out.rvar
      have hbs : b < w.heap.size → False := fun h => by have := HR.out.2.2; omega
      obtain ⟨v, hv⟩ : ∃ v, v = (rVar st').1 := ⟨_, rfl⟩
      rw [← hv] at HV HG'
      clear hG hv
      go_wp2_with fail
      refine HV.out.mono ?_
      rintro e w3 ⟨rfl, R3, hg3⟩
      have HO3 : Hid (w3.ownsRow w.heap.size 3 1 (.slice ao k c) k (acc.map (Value.int .i64))) := Lib.hid (HO.out.kept hg3 (.inr (HR.out.ne (by decide) HO.out)))
      have HR3 := Lib.hid R3
      have hsz3 := R3.size
      clear hg3 R3
      go_wp2_with (at_builtin; refine wpList_append_new rfl (.tmp 16) (.tmp 19) 23 rfl w.heap.size 3 i0 (.int .i64 0) 1 8 Tryz.underlying23 hi hz0 hz1 hz2 rfl (by omega) _ k (acc.map (Value.int .i64)) rfl HO3.out hsz3 [.int .i64 v] 1 rfl rfl rfl (by simp [Value.oneCell']) (by omega) (by omega) ?_; intro v1 w4 hown4 hg4 hb4 hs4 hat4; have HO4 := Lib.hid hown4; have HR4 := Lib.hid (HR3.out.far hg4 (HR3.out.ne (by decide) HO3.out) (hb4 _ HR3.out.2.1)); obtain ⟨g4, cap4, hv4, _⟩ := hat4; subst hv4; clear hown4 hg4 hb4)
      go_roundw
      case rel => exact ⟨k + 1, acc ++ [v], some ⟨g4, 0, none⟩, cap4, (rVar st').2, by omega, by go_num, rfl, Lib.hid (by rw [List.map_append]; exact HO4.out), Lib.hid (by rw [List.length_append, HLn.out]; rfl), HG', HR4⟩
      case measure => simp [intOf]; omega
    · obtain rfl : k = m := by omega
      have hG := HG.out
      rw [Nat.sub_self, getMs, ← HP.out] at hG
      have HM : Hid (memP s.data.toList = (acc, st')) := Lib.hid hG.symm
      have HE := Lib.hid HR.out.fin
      clear hG HG HP
      by_cases he0 : rEnd st' = 0
      · have hd : (rEnd st' != 0) = false := by simp [he0]
        by_cases hk0 : k = 0
        · subst hk0
          have hacc : acc = [] := List.eq_nil_of_length_eq_zero HLn.out
          have hres : membersP s.data.toList = ([], 4) := by
            unfold membersP
            rw [HM.out]
            dsimp only
            rw [if_neg (by rw [he0]; decide), if_pos hacc]
          have HRes := Lib.hid hres
          rw [he0] at HE
          clear hres hacc hd he0
          go_wp2_with fail
          refine HE.out.mono ?_
          rintro e w3 ⟨rfl, rfl⟩
          go_wp2_with fail
          go_ret2
          exact ⟨none, 0, 0, by rw [HRes.out]; rfl, by rw [HRes.out]; exact World.ownsRow_nil _ _ _ _, by rw [HRes.out]; rfl, HR.out.2.1⟩
        · have hk1 : (((k : Nat) : Int) == 0) = false := by rw [beq_eq_false_iff_ne]; omega
          have hne : acc ≠ [] := fun h => hk0 (by rw [← HLn.out, h]; rfl)
          have hres : membersP s.data.toList = if memsOk 0 acc then (acc, 0) else ([], 4) := by
            unfold membersP
            rw [HM.out]
            dsimp only
            rw [if_neg (by rw [he0]; decide), if_neg hne]
          have HRes := Lib.hid hres
          rw [he0] at HE
          obtain ⟨g, cap, hv, hgb, hglt⟩ := HO.out.form (by omega)
          injection hv with hv _ hv2
          subst hv
          subst hv2
          have hcell : ∀ (j : Nat) (v : Int), acc[j]? = some v → wr.cell? ⟨g, j, none⟩ = some (.int .i64 v) := fun j v hj => by
            have hjk : j < k := by rw [← HLn.out]; exact (List.getElem?_eq_some_iff.1 hj).1
            rw [HO.out.cellAt j (by omega), List.getElem?_map, hj]; rfl
          have HC := Lib.hid hcell
          clear hres hd he0 hne hcell hgb hglt
          go_wp2_with fail
          refine HE.out.mono ?_
          rintro e w3 ⟨rfl, rfl⟩
          go_wp2_with fail
          go_loop [7, 32] (fun x i => ∃ (j : Nat) (la : Int), j ≤ k ∧ x = .int .i64 la ∧ i = .int .i64 j ∧ Hid (memsOk la (acc.drop j) = memsOk 0 acc)) (fun _ i => k - (intOf i).toNat)
          case atStart => exact ⟨0, 0, Nat.zero_le _, rfl, rfl, rfl⟩
          case round =>
            obtain ⟨j, la, hj, rfl, rfl, HK⟩ := hrel
            by_cases hjl : j < k
            · have hja : j < acc.length := by rw [HLn.out]; exact hjl
              obtain ⟨v, hv⟩ : ∃ v, acc[j]? = some v := ⟨_, List.getElem?_eq_getElem hja⟩
              have c1 := HC.out j v hv
              have hdrop : acc.drop j = v :: acc.drop (j + 1) := by
                rw [List.drop_eq_getElem_cons hja]
                congr 1
                exact (List.getElem?_eq_some_iff.1 hv).2
              have hK := HK.out
              rw [hdrop, memsOk] at hK
              have hx1 : (0 : Int) ≤ j := by omega
              have hx2 : (j : Int) < k := by omega
              clear hv hdrop HK
              by_cases h1 : v ≤ la
              · have hd1 : decide (v ≤ la) = true := by simpa using h1
                rw [if_pos (.inl h1)] at hK
                have HF := Lib.hid hK
                clear hK
                go_wp2_with fail
                go_ret2
                exact ⟨none, 0, 0, by rw [HRes.out, ← HF.out]; rfl, by rw [HRes.out, ← HF.out]; exact World.ownsRow_nil _ _ _ _, by rw [HRes.out, ← HF.out]; rfl, HR.out.2.1⟩
              · have hd1 : decide (v ≤ la) = false := by simpa using h1
                by_cases h2 : 64 < v
                · have hd2 : decide (64 < v) = true := by simpa using h2
                  rw [if_pos (.inr h2)] at hK
                  have HF := Lib.hid hK
                  clear hK
                  go_wp2_with fail
                  go_ret2
                  exact ⟨none, 0, 0, by rw [HRes.out, ← HF.out]; rfl, by rw [HRes.out, ← HF.out]; exact World.ownsRow_nil _ _ _ _, by rw [HRes.out, ← HF.out]; rfl, HR.out.2.1⟩
                · have hd2 : decide (64 < v) = false := by simpa using h2
                  rw [if_neg (by rintro (h | h); exact h1 h; exact h2 h)] at hK
                  have HF := Lib.hid hK
                  clear hK
                  go_wp2_with fail
                  go_round
                  case rel => exact ⟨j + 1, v, by omega, rfl, by go_num, HF⟩
                  case measure => simp [intOf]; omega
            · have hK := HK.out
              rw [List.drop_eq_nil_of_le (by rw [HLn.out]; omega), memsOk] at hK
              have HF := Lib.hid hK
              clear hK HK
              go_wp2_with fail
              go_ret2
              exact ⟨some ⟨g, 0, none⟩, k, c, by rw [HRes.out, ← HF.out]; rfl, by rw [HRes.out, ← HF.out]; exact HO.out, by rw [HRes.out, ← HF.out]; exact HLn.out, HR.out.2.1⟩
      · have hd : (rEnd st' != 0) = true := by simp [he0]
        have hres : membersP s.data.toList = ([], rEnd st') := by
          unfold membersP
          rw [HM.out]
          dsimp only
          rw [if_pos he0]
        have HRes := Lib.hid hres
        clear hres he0
        go_wp2_with fail
        refine HE.out.mono ?_
        rintro e w3 ⟨rfl, rfl⟩
        go_wp2_with fail
        go_ret2
        exact ⟨none, 0, 0, by rw [HRes.out]; rfl, by rw [HRes.out]; exact World.ownsRow_nil _ _ _ _, by rw [HRes.out]; rfl, HR.out.2.1⟩
end Go.Proofs.YtmdidmllaldbaaaGreat
