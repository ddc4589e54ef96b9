/- The walks of ent.Get and ent.One. -/
import Derived.Test.YtmdidmllaldbaaaGreatEntW
namespace Go.Proofs.YtmdidmllaldbaaaGreat
open Go.RowKit
set_option linter.unusedVariables false
theorem grown_then {W w3 w4 : World} {b : Nat} {row : Option Nat} (h : W.grownBy w3 (some b)) (hg : w3.grownBy w4 row) (hrow : ∀ k, row = some k → W.heap.size ≤ k ∨ k = b) : W.grownBy w4 (some b) :=
  ⟨hg.os.trans h.os, hg.tape.trans h.tape, hg.output.trans h.output, Nat.le_trans h.size hg.size, fun k hk hne => (hg.block k (Nat.lt_of_lt_of_le hk h.size) (fun e => by
    rcases hrow k e.symm with h1 | h1
    · omega
    · exact hne (by rw [h1]))).trans (h.block k hk hne)⟩
theorem grown_below {W w3 w4 : World} {b : Nat} (h : W.grownBy w3 (some b)) (hb : Below w3.heap.size w3 w4) : W.grownBy w4 (some b) :=
  ⟨hb.os.trans h.os, hb.tape.trans h.tape, hb.output.trans h.output, Nat.le_trans h.size hb.size, fun k hk hne => (hb.block k (Nat.lt_of_lt_of_le hk h.size)).trans (h.block k hk hne)⟩
/-- What Get answers. -/
def GetRes (st : RSt) (w0 W : World) (B b : Nat) (e : Ending) (w' : World) : Prop :=
  ∃ ao N c, e = .returned (.slice ao N c) ∧ w'.ownsRow W.heap.size 51 4 (.slice ao N c) N (entCells (getAll st).1) ∧ (getAll st).1.length = N ∧ RS w0 w' B b (getAll st).2 ∧ W.grownBy w' (some b)
set_option maxRecDepth 20000 in
set_option maxHeartbeats 4000000 in
theorem get_any {w0 W : World} {B b : Nat} {st : RSt} (h : RS w0 W B b st) :
    Calls Tryz.prog 13 #[.pointer (some ⟨b, 0, none⟩)] W (GetRes st w0 W B b) := by
  obtain ⟨i0, hi, hz0, hz1, hz2⟩ := info_parts entInfoE
  have HCt := Lib.hid (h.count 400)
  have hbW : b < W.heap.size := h.1.lt
  clear h
  obtain ⟨q, hq⟩ : ∃ q, q = rCount 400 st := ⟨_, rfl⟩
  have hc9 : 0 ≤ q.1 ∧ q.1 ≤ 400 := by rw [hq]; exact rCount_range 400 _ (by decide)
  rw [← hq] at HCt
  obtain ⟨m, hm⟩ : ∃ m : Nat, q.1 = m := ⟨q.1.toNat, by omega⟩
  have HP : Hid (getAll st = if (getLoop m q.2 []).2.2 ≠ 0 then ([], (getLoop m q.2 []).2) else getLoop m q.2 []) := Lib.hid (by unfold getAll; rw [← hq, hm, Int.toNat_natCast])
  rw [hm] at HCt
  have hm4 : m ≤ 400 := by omega
  clear hq hm hc9
  go_enter Tryz.func13, Tryz.ntmps13
  go_wp2_with fail
  refine HCt.out.mono ?_
  rintro e w1 ⟨rfl, R1, hg1⟩
  have HR1 := Lib.hid R1
  have HG1 := Lib.hid hg1
  clear R1 hg1 HCt
  go_wp2_with fail
  go_loopw [3, 6] (fun l i wr => ∃ (k : Nat) (acc : List Ent) (ao : Option Addr) (c : Nat) (st' : RSt), k ≤ m ∧ i = .int .i64 k ∧ l = .slice ao k c ∧ Hid (wr.ownsRow W.heap.size 51 4 (.slice ao k c) k (entCells acc)) ∧ Hid (acc.length = k) ∧ Hid (getLoop (m - k) st' acc = getLoop m q.2 []) ∧ Hid (RS w0 wr B b st') ∧ Hid (W.grownBy wr (some b))) (fun _ i _ => m - (intOf i).toNat)
  case atStart => exact ⟨0, [], none, 0, q.2, Nat.zero_le _, rfl, rfl, Lib.hid (World.ownsRow_nil _ _ _ _), rfl, rfl, HR1, HG1⟩
  case round =>
    obtain ⟨k, acc, ao, c, st', hk, rfl, rfl, HO, HLn, HG, HR, HW⟩ := hrel
    have HE := Lib.hid HR.out.err
    by_cases hgo : k < m ∧ st'.2 = 0
    · obtain ⟨hlt, h0⟩ := hgo
      have hG := HG.out
      rw [show m - k = (m - (k + 1)) + 1 from by omega, getLoop, if_neg (by simpa using h0)] at hG
      have HG' := Lib.hid hG
      rw [h0] at HE
      have hgE : getEnt st' = getEnt st' := rfl
      have HV1 := Lib.hid HR.out.rvar
      obtain ⟨a1, ha1⟩ : ∃ a1, a1 = rVar st' := ⟨_, rfl⟩
      rw [← ha1] at HV1
      have HA1 := Lib.hid ha1
      clear hG h0 hgE ha1
      go_wp2_with fail
      refine HE.out.mono ?_
      rintro e w2 ⟨rfl, rfl⟩
      go_wp2_with fail
      refine HV1.out.mono ?_
      rintro e w3 ⟨rfl, R3, hg3⟩
      have HV2 := Lib.hid R3.rvar
      obtain ⟨a2, ha2⟩ : ∃ a2, a2 = rVar a1.2 := ⟨_, rfl⟩
      rw [← ha2] at HV2
      have HA2 := Lib.hid ha2
      have HW3 := Lib.hid (grown_then HW.out hg3 (fun k hk => by injection hk with hk; exact .inr hk.symm))
      have HO3 := Lib.hid (own_far HO.out hg3 hbW)
      clear ha2 R3 hg3 HV1
      go_wp2_with fail
      refine HV2.out.mono ?_
      rintro e w4 ⟨rfl, R4, hg4⟩
      have HV3 := Lib.hid R4.rvar
      obtain ⟨a3, ha3⟩ : ∃ a3, a3 = rVar a2.2 := ⟨_, rfl⟩
      rw [← ha3] at HV3
      have HA3 := Lib.hid ha3
      have HW4 := Lib.hid (grown_then HW3.out hg4 (fun k hk => by injection hk with hk; exact .inr hk.symm))
      have HO4 := Lib.hid (own_far HO3.out hg4 hbW)
      clear ha3 R4 hg4 HV2 HW3 HO3
      go_wp2_with fail
      refine HV3.out.mono ?_
      rintro e w5 ⟨rfl, R5, hg5⟩
      have HV4 := Lib.hid (R5.text 2200)
      have hsl : ((rText 2200 a3.2).1.length : Int) ≤ 2200 := by have := rText_len 2200 a3.2; omega
      obtain ⟨a4, ha4⟩ : ∃ a4, a4 = rText 2200 a3.2 := ⟨_, rfl⟩
      rw [← ha4] at HV4 hsl
      have HA4 := Lib.hid ha4
      have HW5 := Lib.hid (grown_then HW4.out hg5 (fun k hk => by injection hk with hk; exact .inr hk.symm))
      have HO5 := Lib.hid (own_far HO4.out hg5 hbW)
      clear ha4 R5 hg5 HV3 HW4 HO4
      go_wp2_with fail
      refine HV4.out.mono ?_
      rintro e w6 ⟨rfl, R6, hg6⟩
      have HW6 := Lib.hid (grown_then HW5.out hg6 (fun k hk => by injection hk with hk; exact .inr hk.symm))
      have HO6 := Lib.hid (own_far HO5.out hg6 hbW)
      have HR6 := Lib.hid R6
      clear R6 hg6 HV4 HW5 HO5
      go_wp2_with fail
      refine (clone_any ⟨a4.1.toArray⟩ _ (by show a4.1.toArray.size ≤ _; simp; omega)).mono ?_
      rintro e w7 ⟨rfl, hb7⟩
      have HW7 := Lib.hid (grown_below HW6.out hb7)
      have HO7 := Lib.hid (own_below HO6.out hb7)
      have HR7 := Lib.hid (HR6.out.step hb7)
      have hsz7 : W.heap.size ≤ w7.heap.size := HW7.out.size
      clear hb7 HW6 HO6 HR6
      have hent : getEnt st' = (⟨a1.1, a2.1, a3.1, ⟨a4.1.toArray⟩⟩, a4.2) := by
        unfold getEnt
        rw [← HA1.out, ← HA2.out, ← HA3.out, ← HA4.out]
      have HEnt := Lib.hid hent
      clear hent
      go_wp2_with (at_builtin; refine wpList_append_new rfl (.tmp 11) (.tmp 22) 22 rfl W.heap.size 51 i0 _ 4 40 Tryz.underlying22 hi hz0 hz1 hz2 rfl (by omega) _ k (entCells acc) rfl HO7.out hsz7 [.int .i64 a1.1, .int .i64 a2.1, .int .i64 a3.1, .string ⟨a4.1.toArray⟩] 1 rfl rfl rfl (by simp [Value.oneCell']) (by omega) (by omega) ?_; intro v1 w8 hown8 hg8 hb8 hs8 hat8; have HO8 := Lib.hid hown8; have HR8 := Lib.hid (HR7.out.far hg8 (HR7.out.ne (by decide) HO7.out) (HR7.out.2.1.grown hg8 HR7.out.size (fun k hk => by have := (HO7.out.lt k hk).1; have := HR7.out.2.2; omega))); have HW8 := Lib.hid (grown_then HW7.out hg8 (fun k hk => .inl (HO7.out.lt k hk).1)); obtain ⟨g8, cap8, hv8, _⟩ := hat8; subst hv8; clear hown8 hg8 hb8)
      go_roundw
      case rel => exact ⟨k + 1, acc ++ [⟨a1.1, a2.1, a3.1, ⟨a4.1.toArray⟩⟩], some ⟨g8, 0, none⟩, cap8, a4.2, by omega, by go_num, rfl, Lib.hid (by rw [entCells_append]; exact HO8.out), Lib.hid (by rw [List.length_append, HLn.out]; rfl), Lib.hid (by rw [← HG'.out, HEnt.out]), HR8, HW8⟩
      case measure => simp [intOf]; omega
    · have hfin : getLoop m q.2 [] = (acc, st') := by
        rw [← HG.out]
        by_cases hlt : k < m
        · exact getLoop_off _ _ _ (fun h => hgo ⟨hlt, h⟩)
        · rw [show m - k = 0 from by omega]; rfl
      have hP := HP.out
      rw [hfin] at hP
      clear HG hfin
      by_cases h0 : st'.2 = 0
      · have hge : ¬ k < m := fun h => hgo ⟨h, h0⟩
        rw [if_neg (by simpa using h0)] at hP
        have HRes := Lib.hid hP
        rw [h0] at HE
        clear hP hgo h0
        go_wp2_with fail
        refine HE.out.mono ?_
        rintro e w2 ⟨rfl, rfl⟩
        go_wp2_with fail
        go_ret
        exact ⟨ao, k, c, rfl, by rw [HRes.out]; exact HO.out, by rw [HRes.out]; exact HLn.out, by rw [HRes.out]; exact HR.out, HW.out⟩
      · have hd : (st'.2 != 0) = true := by simpa using h0
        rw [if_pos (by simpa using h0)] at hP
        have HRes := Lib.hid hP
        clear hP hgo h0
        by_cases hlt : k < m
        · go_wp2_with fail
          refine HE.out.mono ?_
          rintro e w2 ⟨rfl, rfl⟩
          go_wp2_with fail
          refine HE.out.mono ?_
          rintro e w2 ⟨rfl, rfl⟩
          go_wp2_with fail
          go_ret
          exact ⟨none, 0, 0, rfl, by rw [HRes.out]; exact World.ownsRow_nil _ _ _ _, by rw [HRes.out]; rfl, by rw [HRes.out]; exact HR.out, HW.out⟩
        · go_wp2_with fail
          refine HE.out.mono ?_
          rintro e w2 ⟨rfl, rfl⟩
          go_wp2_with fail
          go_ret
          exact ⟨none, 0, 0, rfl, by rw [HRes.out]; exact World.ownsRow_nil _ _ _ _, by rw [HRes.out]; rfl, by rw [HRes.out]; exact HR.out, HW.out⟩
/-- What One answers. -/
def OneRes (r : Ent × Int) (w : World) (e : Ending) (w' : World) : Prop :=
  e = .returned (.tuple #[.agg #[.int .i64 r.1.ix, .int .i64 r.1.tm, .int .i64 r.1.kd, .string r.1.dt], .int .i64 r.2]) ∧ Below w.heap.size w w'
set_option maxRecDepth 20000 in
set_option maxHeartbeats 2000000 in
theorem one_any (s : ByteArray) (w : World) (hs : s.size ≤ 281474976710656) :
    Calls Tryz.prog 15 #[.string s] w (OneRes (oneP s.data.toList) w) := by
  go_enter Tryz.func15, Tryz.ntmps15
  go_wp2_with fail
  refine (RS.new (w0 := w.alloc (.cells #[.int .i64 0, .int .i64 0, .int .i64 0, .string ⟨#[]⟩] 51)) (B := w.heap.size + 1) s (Below.refl _ _) (by simp) hs).mono ?_
  rintro e w1 ⟨b, rfl, R1⟩
  go_wp2_with fail
  refine (get_any R1).mono ?_
  rintro e w2 ⟨ao, N, c, rfl, ho, hl, R2, hg⟩
  have hb2 := R2.2.1
  have hbw : Below w.heap.size w w2 := ((Below.refl _ _).alloc (Nat.le_refl _) _).trans (hb2.mono (by omega))
  have hk : w2.heap[w.heap.size]? = some (.cells #[.int .i64 0, .int .i64 0, .int .i64 0, .string ⟨#[]⟩] 51 (0, 0)) := (hb2.block w.heap.size (by omega)).trans (heap_alloc_new w _)
  have c0 : w2.cell? ⟨w.heap.size, 0, none⟩ = some (.int .i64 0) := by rw [blk_cell hk]; rfl
  have c1 : w2.cell? ⟨w.heap.size, 1, none⟩ = some (.int .i64 0) := by rw [blk_cell hk]; rfl
  have c2 : w2.cell? ⟨w.heap.size, 2, none⟩ = some (.int .i64 0) := by rw [blk_cell hk]; rfl
  have c3 : w2.cell? ⟨w.heap.size, 3, none⟩ = some (.string ⟨#[]⟩) := by rw [blk_cell hk]; rfl
  have k0 : w2.frozen? ⟨w.heap.size, 0, none⟩ = false := blk_frozen hk 0
  have k1 : w2.frozen? ⟨w.heap.size, 1, none⟩ = false := blk_frozen hk 1
  have k2 : w2.frozen? ⟨w.heap.size, 2, none⟩ = false := blk_frozen hk 2
  have k3 : w2.frozen? ⟨w.heap.size, 3, none⟩ = false := blk_frozen hk 3
  have HBW := Lib.hid hbw
  have HE := Lib.hid R2.fin
  have hEnts := ents_own ho
  obtain ⟨pr, hpr⟩ : ∃ pr, pr = getAll (s.data.toList, 0) := ⟨_, rfl⟩
  have HOne : Hid (oneP s.data.toList = if rEnd pr.2 ≠ 0 then (ent00, rEnd pr.2) else match pr.1 with | [e] => (e, 0) | _ => (ent00, 4)) := Lib.hid (by unfold oneP; rw [← hpr]; rfl)
  rw [← hpr] at HE hl hEnts
  have HEn := Lib.hid hEnts
  have HLn := Lib.hid hl
  clear hpr hEnts hl ho hg R1 R2 hb2 hbw hk
  have hfin : ∀ W', Below w.heap.size w ((((w2.setCell ⟨w.heap.size, 0, none⟩ W').setCell ⟨w.heap.size, 1, none⟩ W').setCell ⟨w.heap.size, 2, none⟩ W').setCell ⟨w.heap.size, 3, none⟩ W') := fun W' => (((HBW.out.setCell (Nat.le_refl _) _).setCell (Nat.le_refl _) _).setCell (Nat.le_refl _) _).setCell (Nat.le_refl _) _
  clear hfin
  by_cases he : rEnd pr.2 = 0
  · have hd : (rEnd pr.2 != 0) = false := by simp [he]
    have h1 := HOne.out
    rw [if_neg (by simpa using he)] at h1
    rw [he] at HE
    clear HOne hd he
    by_cases hN : N = 1
    · subst hN
      obtain ⟨g, o, u, rfl, hgB, huk, q1, q2, q3, q4⟩ := HEn.out.get (k := 0) (by omega)
      have hp : pr.1 = [u] := by
        obtain ⟨x, hx⟩ := List.length_eq_one_iff.1 HLn.out
        rw [hx] at huk ⊢
        have : x = u := by simpa using huk
        rw [this]
      rw [hp] at h1
      have HR := Lib.hid h1
      rw [Nat.zero_mul, Nat.add_zero] at q1 q2 q3 q4
      clear hp h1 huk HEn
      go_wp2_with fail
      refine HE.out.mono ?_
      rintro e w3 ⟨rfl, rfl⟩
      go_wp2_with fail
      rw [HR.out]
      refine bodyPost_ret (v := .tuple #[.agg #[.int .i64 u.ix, .int .i64 u.tm, .int .i64 u.kd, .string u.dt], .int .i64 0]) (by simp [results, Tryz.results15, go_sem, c0, c1, c2, c3]; try rfl) rfl ⟨rfl, ?_⟩
      exact (((HBW.out.setCell (Nat.le_refl _) _).setCell (Nat.le_refl _) _).setCell (Nat.le_refl _) _).setCell (Nat.le_refl _) _
    · have hd2 : ((N : Int) != 1) = true := by simp; omega
      have hp : ∀ L : List Ent, L.length = N → (match L with | [e] => ((e, 0) : Ent × Int) | _ => (ent00, 4)) = (ent00, 4) := by
        intro L hL
        rcases L with _ | ⟨a, _ | ⟨b, r⟩⟩
        · rfl
        · have h1 : 1 = N := hL
          omega
        · rfl
      rw [hp _ HLn.out] at h1
      have HR := Lib.hid h1
      clear hp h1 HEn hN
      go_wp2_with fail
      refine HE.out.mono ?_
      rintro e w3 ⟨rfl, rfl⟩
      go_wp2_with fail
      rw [HR.out]
      refine bodyPost_ret (v := .tuple #[.agg #[.int .i64 0, .int .i64 0, .int .i64 0, .string ⟨#[]⟩], .int .i64 4]) (by simp [results, Tryz.results15, go_sem, c0, c1, c2, c3]; try rfl) rfl ⟨rfl, ?_⟩
      exact (((HBW.out.setCell (Nat.le_refl _) _).setCell (Nat.le_refl _) _).setCell (Nat.le_refl _) _).setCell (Nat.le_refl _) _
  · have hd : (rEnd pr.2 != 0) = true := by simp [he]
    have h1 := HOne.out
    rw [if_pos he] at h1
    have HR := Lib.hid h1
    clear h1 he HOne HEn
    go_wp2_with fail
    refine HE.out.mono ?_
    rintro e w3 ⟨rfl, rfl⟩
    go_wp2_with fail
    refine HE.out.mono ?_
    rintro e w3 ⟨rfl, rfl⟩
    go_wp2_with fail
    rw [HR.out]
    refine bodyPost_ret (v := .tuple #[.agg #[.int .i64 0, .int .i64 0, .int .i64 0, .string ⟨#[]⟩], .int .i64 (rEnd pr.2)]) (by simp [results, Tryz.results15, go_sem, c0, c1, c2, c3]; try rfl) rfl ⟨rfl, ?_⟩
    exact (((HBW.out.setCell (Nat.le_refl _) _).setCell (Nat.le_refl _) _).setCell (Nat.le_refl _) _).setCell (Nat.le_refl _) _
end Go.Proofs.YtmdidmllaldbaaaGreat
