/- The walks of arboretumref16: One, members, Put: the document's own bytes of entries. -/
import Derived.Test.YtmdidmllaldbaaaGreatRefEnt
import Derived.Test.YtmdidmllaldbaaaGreatBytesB
import Derived.Test.YtmdidmllaldbaaaGreatEntM
import Derived.Deep.QuietTactic
import Derived.BigQuiet
namespace Go.Proofs.YtmdidmllaldbaaaGreat
open Go.RowKit
set_option linter.unusedVariables false
set_option maxRecDepth 20000 in
set_option maxHeartbeats 2000000 in
theorem rone16_any (s : ByteArray) (w : World) (hs : s.size ≤ 281474976710656) :
    Calls Tryz.prog 16 #[.string s] w (OneRes (oneP s.data.toList) w) := by
  have HGt : Hid (Calls Tryz.prog 14 #[.pointer (some ⟨w.heap.size + 1, 0, none⟩)] ((w.alloc (.cells #[.int .i64 0, .int .i64 0, .int .i64 0, .string ⟨#[]⟩] 51)).alloc (.cells #[.string s, .int .i64 0] 47)) fun e w2 =>
      ∃ ao N c, e = .returned (.slice ao N c) ∧ Ents w2 w2.heap.size ao N (getAll (s.data.toList, 0)).1 ∧ (getAll (s.data.toList, 0)).1.length = N ∧ RRdr w2 (w.heap.size + 1) (getAll (s.data.toList, 0)).2 ∧ Below w.heap.size w w2 ∧ w2.heap[w.heap.size]? = some (.cells #[.int .i64 0, .int .i64 0, .int .i64 0, .string ⟨#[]⟩] 51 (0, 0))) := Lib.hid (by
    refine (rget16_any (st := (s.data.toList, 0)) ⟨s, rfl, by omega, ?_⟩).mono ?_
    · exact new_at _ _ _ (by simp)
    · rintro e w2 ⟨ao, N, c, rfl, ho, hl, R2, hg⟩
      refine ⟨ao, N, c, rfl, ents_own ho, hl, R2, ?_, ?_⟩
      · exact (((Below.refl _ _).alloc (Nat.le_refl _) _).alloc (by simp) _).grown hg (by simp <;> omega) (fun k hk => by injection hk with hk; omega)
      · rw [hg.block w.heap.size (by simp <;> omega) (fun e => by injection e with e; omega)]
        exact old_at _ _ _ _ (heap_alloc_new w _))
  go_enter Tryz.func16, Tryz.ntmps16
  go_wp2_with fail
  refine HGt.out.mono ?_
  rintro e w2 ⟨ao, N, c, rfl, hEnts, hl, R2, hbw, hk⟩
  clear HGt
  have c0 : w2.cell? ⟨w.heap.size, 0, none⟩ = some (.int .i64 0) := by rw [blk_cell hk]; rfl
  have c1 : w2.cell? ⟨w.heap.size, 1, none⟩ = some (.int .i64 0) := by rw [blk_cell hk]; rfl
  have c2 : w2.cell? ⟨w.heap.size, 2, none⟩ = some (.int .i64 0) := by rw [blk_cell hk]; rfl
  have c3 : w2.cell? ⟨w.heap.size, 3, none⟩ = some (.string ⟨#[]⟩) := by rw [blk_cell hk]; rfl
  have k0 : w2.frozen? ⟨w.heap.size, 0, none⟩ = false := blk_frozen hk 0
  have k1 : w2.frozen? ⟨w.heap.size, 1, none⟩ = false := blk_frozen hk 1
  have k2 : w2.frozen? ⟨w.heap.size, 2, none⟩ = false := blk_frozen hk 2
  have k3 : w2.frozen? ⟨w.heap.size, 3, none⟩ = false := blk_frozen hk 3
  have HBW := Lib.hid hbw
  have HE := Lib.hid (rrend_any R2)
  obtain ⟨pr, hpr⟩ : ∃ pr, pr = getAll (s.data.toList, 0) := ⟨_, rfl⟩
  have HOne : Hid (oneP s.data.toList = if rEnd pr.2 ≠ 0 then (ent00, rEnd pr.2) else match pr.1 with | [e] => (e, 0) | _ => (ent00, 4)) := Lib.hid (by unfold oneP; rw [← hpr]; rfl)
  rw [← hpr] at HE hl hEnts
  have HEn := Lib.hid hEnts
  have HLn := Lib.hid hl
  clear hpr hEnts hl R2 hbw hk
  by_cases he : rEnd pr.2 = 0
  · have hd : (rEnd pr.2 != 0) = false := by simp [he]
    have h1 := HOne.out
    rw [if_neg (by simpa using he)] at h1
    rw [he] at HE
    clear HOne hd he
    by_cases hN : N = 1
    · subst hN
      obtain ⟨g, o, u, rfl, hgB, huk, q1, q2, q3, q4⟩ := HEn.out.get (k := 0) (by omega)
      have hp : pr.1 = [u] := by
        obtain ⟨x, hx⟩ := List.length_eq_one_iff.1 HLn.out
        rw [hx] at huk ⊢
        have : x = u := by simpa using huk
        rw [this]
      rw [hp] at h1
      have HR := Lib.hid h1
      rw [Nat.zero_mul, Nat.add_zero] at q1 q2 q3 q4
      clear hp h1 huk HEn
      go_wp2_with fail
      refine HE.out.mono ?_
      rintro e w3 ⟨rfl, rfl⟩
      go_wp2_with fail
      rw [HR.out]
      refine bodyPost_ret (v := .tuple #[.agg #[.int .i64 u.ix, .int .i64 u.tm, .int .i64 u.kd, .string u.dt], .int .i64 0]) (by simp [results, Tryz.results16, go_sem, c0, c1, c2, c3]; try rfl) rfl ⟨rfl, ?_⟩
      exact (((HBW.out.setCell (Nat.le_refl _) _).setCell (Nat.le_refl _) _).setCell (Nat.le_refl _) _).setCell (Nat.le_refl _) _
    · have hd2 : ((N : Int) != 1) = true := by simp; omega
      have hp : ∀ L : List Ent, L.length = N → (match L with | [e] => ((e, 0) : Ent × Int) | _ => (ent00, 4)) = (ent00, 4) := by
        intro L hL
        rcases L with _ | ⟨a, _ | ⟨b, r⟩⟩
        · rfl
        · have h1 : 1 = N := hL
          omega
        · rfl
      rw [hp _ HLn.out] at h1
      have HR := Lib.hid h1
      clear hp h1 HEn hN
      go_wp2_with fail
      refine HE.out.mono ?_
      rintro e w3 ⟨rfl, rfl⟩
      go_wp2_with fail
      rw [HR.out]
      refine bodyPost_ret (v := .tuple #[.agg #[.int .i64 0, .int .i64 0, .int .i64 0, .string ⟨#[]⟩], .int .i64 4]) (by simp [results, Tryz.results16, go_sem, c0, c1, c2, c3]; try rfl) rfl ⟨rfl, ?_⟩
      exact (((HBW.out.setCell (Nat.le_refl _) _).setCell (Nat.le_refl _) _).setCell (Nat.le_refl _) _).setCell (Nat.le_refl _) _
  · have hd : (rEnd pr.2 != 0) = true := by simp [he]
    have h1 := HOne.out
    rw [if_pos he] at h1
    have HR := Lib.hid h1
    clear h1 he HOne HEn
    go_wp2_with fail
    refine HE.out.mono ?_
    rintro e w3 ⟨rfl, rfl⟩
    go_wp2_with fail
    rw [HR.out]
    refine bodyPost_ret (v := .tuple #[.agg #[.int .i64 0, .int .i64 0, .int .i64 0, .string ⟨#[]⟩], .int .i64 (rEnd pr.2)]) (by simp [results, Tryz.results16, go_sem, c0, c1, c2, c3]; try rfl) rfl ⟨rfl, ?_⟩
    exact (((HBW.out.setCell (Nat.le_refl _) _).setCell (Nat.le_refl _) _).setCell (Nat.le_refl _) _).setCell (Nat.le_refl _) _
theorem rputMembers16_any {ao : Option Addr} {n c : Nat} {vs : List Int} {w : World} (h : IntsOf w ao n vs) (hn : n ≤ 1000000) :
    Calls Tryz.prog 24 #[.slice ao n c] w fun e w' => e = .returned (.string ⟨(memB vs).toArray⟩) ∧ Below w.heap.size w w' := by
  have hl : Hid (vs.length = n) := Lib.hid h.1
  have HV : Hid (∀ W, Below w.heap.size w W → Calls Tryz.prog 131 #[.slice ao n c] W fun e w' => e = .returned (.string ⟨(vars vs).toArray⟩) ∧ Below W.heap.size W w') := Lib.hid (fun W hb => by
    refine rvars_any ao n c vs W h.1 (by omega) (fun k hk => ?_) h.2.1
    obtain ⟨b, o, v, ha, hlt, hv, hc⟩ := (h.below hb).get hk
    exact ⟨b, o, ha, hlt, by rw [hc]; simp [List.getD, hv]⟩)
  clear h
  go_enter Tryz.func24, Tryz.ntmps24
  go_wp2_with fail
  refine (rvar1_any (n : Int) (by omega) (by omega) _).mono ?_
  rintro e w1 ⟨rfl, hb1⟩
  go_wp2_with fail
  refine (HV.out _ hb1).mono ?_
  rintro e w2 ⟨rfl, hb2⟩
  have hcat := cat_run (var1 (n : Int)) (vars vs) w2 (by have := var1_len (n : Int); have := vars_len vs; have := hl.out; omega)
  go_wp2_with fail
  go_ret
  exact ⟨by unfold memB; rw [hl.out]; rfl, hb1.trans (hb2.mono hb1.size)⟩
/-- What the document's readMembers answers. -/
def RMemRes (st : RSt) (w : World) (b : Nat) (e : Ending) (w' : World) : Prop :=
  ∃ ao N c, e = .returned (.slice ao N c) ∧ w'.ownsRow w.heap.size 3 1 (.slice ao N c) N ((getMs (rCount 9 st).1.toNat (rCount 9 st).2 []).1.map (Value.int .i64)) ∧ (getMs (rCount 9 st).1.toNat (rCount 9 st).2 []).1.length = N ∧ RRdr w' b (getMs (rCount 9 st).1.toNat (rCount 9 st).2 []).2 ∧ w.grownBy w' (some b)
set_option maxRecDepth 20000 in
set_option maxHeartbeats 2000000 in
theorem rreadMembers_any {w : World} {b : Nat} {st : RSt} (h : RRdr w b st) :
    Calls Tryz.prog 121 #[.pointer (some ⟨b, 0, none⟩)] w (RMemRes st w b) := by
  obtain ⟨i0, hi, hz0, hz1, hz2⟩ := info_parts intinfo
  have HCt := Lib.hid (rrcount_any h 9)
  have hbw : b < w.heap.size := h.lt
  clear h
  unfold RMemRes
  obtain ⟨q, hq⟩ : ∃ q, q = rCount 9 st := ⟨_, rfl⟩
  have hc9 : 0 ≤ q.1 ∧ q.1 ≤ 9 := by rw [hq]; exact rCount_range 9 _ (by decide)
  rw [← hq] at HCt ⊢
  obtain ⟨m, hm⟩ : ∃ m : Nat, q.1 = m := ⟨q.1.toNat, by omega⟩
  rw [hm] at HCt ⊢
  rw [Int.toNat_natCast]
  have hm9 : m ≤ 9 := by omega
  clear hq hm hc9
  go_enter Tryz.func121, Tryz.ntmps121
  go_wp2_with fail
  refine HCt.out.mono ?_
  rintro e w1 ⟨rfl, R1, hg1⟩
  have HR1 := Lib.hid R1
  have HG1 := Lib.hid hg1
  clear R1 hg1 HCt
  go_wp2_with fail
  go_loopw [3, 5] (fun l i wr => ∃ (k : Nat) (acc : List Int) (ao : Option Addr) (c : Nat) (st' : RSt), k ≤ m ∧ i = .int .i64 k ∧ l = .slice ao k c ∧ Hid (wr.ownsRow w.heap.size 3 1 (.slice ao k c) k (acc.map (Value.int .i64))) ∧ Hid (acc.length = k) ∧ Hid (getMs (m - k) st' acc = getMs m q.2 []) ∧ Hid (RRdr wr b st') ∧ Hid (w.grownBy wr (some b))) (fun _ i _ => m - (intOf i).toNat)
  case atStart => exact ⟨0, [], none, 0, q.2, Nat.zero_le _, rfl, rfl, Lib.hid (World.ownsRow_nil _ _ _ _), rfl, rfl, HR1, HG1⟩
  case round =>
    obtain ⟨k, acc, ao, c, st', hk, rfl, rfl, HO, HLn, HG, HR, HW⟩ := hrel
    by_cases hlt : k < m
    · have hG := HG.out
      rw [show m - k = (m - (k + 1)) + 1 from by omega, getMs] at hG
      have HG' := Lib.hid hG
      have HV := Lib.hid (rrvar_any HR.out)
      obtain ⟨v, hv⟩ : ∃ v, v = (rVar st').1 := ⟨_, rfl⟩
      rw [← hv] at HV HG'
      clear hG hv
      go_wp2_with fail
      refine HV.out.mono ?_
      rintro e w3 ⟨rfl, R3, hg3⟩
      have HO3 := Lib.hid (own_far HO.out hg3 hbw)
      have HR3 := Lib.hid R3
      have HW3 := Lib.hid (grown_then HW.out hg3 (fun k hk => by injection hk with hk; exact .inr hk.symm))
      have hsz3 := HW3.out.size
      clear hg3 R3
      go_wp2_with (at_builtin; refine wpList_append_new rfl (.tmp 13) (.tmp 16) 23 rfl w.heap.size 3 i0 (.int .i64 0) 1 8 Tryz.underlying23 hi hz0 hz1 hz2 rfl (by omega) _ k (acc.map (Value.int .i64)) rfl HO3.out hsz3 [.int .i64 v] 1 rfl rfl rfl (by simp [Value.oneCell']) (by omega) (by omega) ?_; intro v1 w4 hown4 hg4 hb4 hs4 hat4; have HO4 := Lib.hid hown4; have hbk : some b ≠ (Value.slice ao k c).ownBlock := (fun e => by have := (HO3.out.lt b e.symm).1; omega); have HR4 := Lib.hid (HR3.out.at_ (hg4.block b HR3.out.lt hbk)); have HW4 := Lib.hid (grown_then HW3.out hg4 (fun j hj => .inl (HO3.out.lt j hj).1)); obtain ⟨g4, cap4, hv4, _⟩ := hat4; subst hv4; clear hown4 hg4 hb4 hbk)
      go_roundw
      case rel => exact ⟨k + 1, acc ++ [v], some ⟨g4, 0, none⟩, cap4, (rVar st').2, by omega, by go_num, rfl, Lib.hid (by rw [List.map_append]; exact HO4.out), Lib.hid (by rw [List.length_append, HLn.out]; rfl), HG', HR4, HW4⟩
      case measure => simp [intOf]; omega
    · obtain rfl : k = m := by omega
      have hG := HG.out
      rw [Nat.sub_self, getMs] at hG
      have HM := Lib.hid hG
      clear hG HG
      go_wp2_with fail
      go_ret
      exact ⟨ao, k, c, rfl, by rw [← HM.out]; exact HO.out, by rw [← HM.out]; exact HLn.out, by rw [← HM.out]; exact HR.out, HW.out⟩
theorem getMs_ok16 : ∀ (n : Nat) (st : RSt) (acc : List Int), (∀ v ∈ acc, -9223372036854775808 ≤ v ∧ v ≤ 9223372036854775807) → ∀ v ∈ (getMs n st acc).1, -9223372036854775808 ≤ v ∧ v ≤ 9223372036854775807 := by
  intro n
  induction n with
  | zero => intro st acc h; exact h
  | succ n ih =>
    intro st acc h
    rw [getMs]
    refine ih _ _ (fun v hv => ?_)
    rcases List.mem_append.1 hv with hv | hv
    · exact h v hv
    · simp at hv; subst hv; exact rVar_range st
theorem getMs_len16 : ∀ (n : Nat) (st : RSt) (acc : List Int), (getMs n st acc).1.length = acc.length + n := by
  intro n
  induction n with
  | zero => intro st acc; rfl
  | succ n ih => intro st acc; rw [getMs, ih]; simp; omega
/-- Members that rise, read one by one. -/
def Prev (vs : List Int) (k : Nat) (la : Int) : Prop := (k = 0 ∧ la = 0) ∨ (0 < k ∧ vs[k - 1]? = some la ∧ 1 ≤ la)
set_option maxRecDepth 20000 in
set_option maxHeartbeats 4000000 in
theorem rrising_any {w : World} {ao : Option Addr} {n c : Nat} {vs : List Int} (h : IntsOf w ao n vs) (hn : n ≤ 1000000) :
    Calls Tryz.prog 122 #[.slice ao n c] w fun e w' => e = .returned (.bool (memsOk 0 vs)) ∧ Below w.heap.size w w' := by
  have HI := Lib.hid h
  have HLn := Lib.hid h.1
  have HV := Lib.hid h.2.1
  clear h
  go_enter Tryz.func122, Tryz.ntmps122
  go_wp2_with fail
  go_loopw [3] (fun i wr => ∃ (k : Nat) (la : Int), k ≤ n ∧ i = .int .i64 k ∧ Hid (Prev vs k la) ∧ Hid (memsOk la (vs.drop k) = memsOk 0 vs) ∧ ∃ q, wr = w.drewN q) (fun i _ => n - (intOf i).toNat)
  case atStart => exact ⟨0, 0, Nat.zero_le _, rfl, Lib.hid (.inl ⟨rfl, rfl⟩), Lib.hid rfl, 0, rfl⟩
  case round =>
    obtain ⟨k, la, hk, rfl, HP, HK, q, rfl⟩ := hrel
    by_cases hlt : k < n
    · obtain ⟨g, o, v, rfl, hgB, hvk, q1⟩ := HI.out.get hlt
      have hdrop : vs.drop k = v :: vs.drop (k + 1) := by
        rw [List.drop_eq_getElem_cons (by rw [HLn.out]; exact hlt)]
        congr 1
        exact (List.getElem?_eq_some_iff.1 hvk).2
      have hK := HK.out
      rw [hdrop, memsOk] at hK
      have hx1 : (0 : Int) ≤ k := by omega
      have hx2 : (k : Int) < n := by omega
      have HVk := Lib.hid hvk
      clear hdrop HK hvk
      by_cases h1 : v < 1
      · have d1 : decide (v < 1) = true := by simpa using h1
        have hF : memsOk 0 vs = false := by
          rw [← hK, if_pos]
          rcases HP.out with ⟨_, rfl⟩ | ⟨_, _, hl⟩
          · left; omega
          · left; omega
        have HF := Lib.hid hF
        clear hK hF
        go_wp2_with fail
        go_quiet (fail)
        go_wp2_with fail
        go_ret
        exact ⟨by rw [HF.out]; rfl, (by first | exact below_drewN (Below.refl _ _) _ | exact below_drewN (below_drewN (Below.refl _ _) _) _)⟩
      · have d1 : decide (v < 1) = false := by simpa using h1
        by_cases h2 : 64 < v
        · have d2 : decide (64 < v) = true := by simpa using h2
          have hF : memsOk 0 vs = false := by rw [← hK, if_pos (.inr h2)]
          have HF := Lib.hid hF
          clear hK hF
          go_wp2_with fail
          go_quiet (fail)
          go_wp2_with fail
          go_ret
          exact ⟨by rw [HF.out]; rfl, (by first | exact below_drewN (Below.refl _ _) _ | exact below_drewN (below_drewN (Below.refl _ _) _) _)⟩
        · have d2 : decide (64 < v) = false := by simpa using h2
          by_cases h0 : k = 0
          · have e0 : decide (0 < k) = false := by simp [h0]
            have e1 : decide ((0 : Int) < (k : Int)) = false := by simp [h0]
            have hla : la = 0 := by
              rcases HP.out with ⟨_, rfl⟩ | ⟨hp, _⟩
              · rfl
              · omega
            rw [if_neg (by rintro (h | h) <;> omega)] at hK
            have HK2 := Lib.hid hK
            have HP2 : Hid (Prev vs (k + 1) v) := Lib.hid (.inr ⟨by omega, HVk.out, by omega⟩)
            clear hK h0 hla
            go_wp2_with fail
            go_quiet (fail)
            go_wp2_with fail
            go_roundw
            case rel => exact ⟨k + 1, v, by omega, by go_num, HP2, HK2, _, rfl⟩
            case measure => simp [intOf]; omega
          · obtain ⟨j, hj⟩ : ∃ j, k = j + 1 := ⟨k - 1, by omega⟩
            have e0 : decide (0 < k) = true := by simp; omega
            have e1 : decide ((0 : Int) < (k : Int)) = true := by simp; omega
            have hpl : vs[j]? = some la ∧ 1 ≤ la := by
              rcases HP.out with ⟨hp, _⟩ | ⟨_, hp, hl⟩
              · omega
              · rw [hj, Nat.add_sub_cancel] at hp; exact ⟨hp, hl⟩
            obtain ⟨g', o', v', hb', _, hv', r1⟩ := HI.out.get (k := j) (by omega)
            rw [hpl.1] at hv'
            injection hv' with hv'
            subst hv'
            injection hb' with hb'
            injection hb' with hb1 hb2
            subst hb1 hb2
            have m1 : (k : Int) - 1 = j := by omega
            have m2 : IntKind.i64.wrap (j : Int) = j := IntWalk.i64_in _ (by omega)
            have hy1 : (0 : Int) ≤ j := by omega
            have hy2 : (j : Int) < n := by omega
            by_cases h3 : v ≤ la
            · have d3 : decide (v ≤ la) = true := by simpa using h3
              rw [if_pos (.inl h3)] at hK
              have HF := Lib.hid hK
              clear hK h0 hj hpl
              go_wp2_with fail
              go_quiet (fail)
              go_wp2_with fail
              go_ret
              exact ⟨by rw [← HF.out]; rfl, (by first | exact below_drewN (Below.refl _ _) _ | exact below_drewN (below_drewN (Below.refl _ _) _) _)⟩
            · have d3 : decide (v ≤ la) = false := by simpa using h3
              rw [if_neg (by rintro (h | h) <;> omega)] at hK
              have HK2 := Lib.hid hK
              have HP2 : Hid (Prev vs (k + 1) v) := Lib.hid (.inr ⟨by omega, HVk.out, by omega⟩)
              clear hK h0 hj hpl
              go_wp2_with fail
              go_quiet (fail)
              go_wp2_with fail
              go_roundw
              case rel => exact ⟨k + 1, v, by omega, by go_num, HP2, HK2, _, rfl⟩
              case measure => simp [intOf]; omega
    · have hK := HK.out
      rw [List.drop_eq_nil_of_le (by rw [HLn.out]; omega), memsOk] at hK
      have HF := Lib.hid hK
      clear hK
      go_wp2_with fail
      go_ret
      exact ⟨by rw [← HF.out]; rfl, (by first | exact below_drewN (Below.refl _ _) _ | exact below_drewN (below_drewN (Below.refl _ _) _) _)⟩
set_option maxRecDepth 20000 in
set_option maxHeartbeats 2000000 in
theorem rgetMembers16_any (s : ByteArray) (w : World) (hs : s.size ≤ 281474976710656) :
    Calls Tryz.prog 18 #[.string s] w (MemRes (membersP s.data.toList) w) := by
  have HGt : Hid (Calls Tryz.prog 121 #[.pointer (some ⟨w.heap.size, 0, none⟩)] (w.alloc (.cells #[.string s, .int .i64 0] 47)) fun e w2 =>
      ∃ ao N c, e = .returned (.slice ao N c) ∧ w2.ownsRow w.heap.size 3 1 (.slice ao N c) N ((memP s.data.toList).1.map (Value.int .i64)) ∧ (memP s.data.toList).1.length = N ∧ RRdr w2 w.heap.size (memP s.data.toList).2 ∧ Below w.heap.size w w2) := Lib.hid (by
    refine (rreadMembers_any (st := (s.data.toList, 0)) ⟨s, rfl, by omega, heap_alloc_new w _⟩).mono ?_
    rintro e w2 ⟨ao, N, c, rfl, ho, hl, R2, hg⟩
    refine ⟨ao, N, c, rfl, ?_, hl, R2, ?_⟩
    · rcases ho with ⟨h1, h2 | ⟨g, cap, cur, hv, hg2, hr⟩⟩
      · exact ⟨h1, .inl h2⟩
      · exact ⟨h1, .inr ⟨g, cap, cur, hv, by simp at hg2; omega, hr⟩⟩
    · exact ((Below.refl _ _).alloc (Nat.le_refl _) _).grown hg (by simp) (fun k hk => by injection hk with hk; omega))
  go_enter Tryz.func18, Tryz.ntmps18
  go_wp2_with fail
  refine HGt.out.mono ?_
  rintro e w2 ⟨ao, N, c, rfl, ho, hl, R2, hbw⟩
  clear HGt
  have HBW := Lib.hid hbw
  obtain ⟨pr, hpr⟩ : ∃ pr, pr = memP s.data.toList := ⟨_, rfl⟩
  have HRes : Hid (membersP s.data.toList = if rEnd pr.2 ≠ 0 then ([], rEnd pr.2) else if pr.1 = [] then ([], 4) else if memsOk 0 pr.1 then (pr.1, 0) else ([], 4)) := Lib.hid (by unfold membersP; rw [← hpr])
  rw [← hpr] at ho hl R2
  have HE := Lib.hid (rrend_any R2)
  have HO := Lib.hid ho
  have HL := Lib.hid hl
  have hok : ∀ v ∈ pr.1, -9223372036854775808 ≤ v ∧ v ≤ 9223372036854775807 := by
    rw [hpr]
    unfold memP
    exact getMs_ok16 _ _ _ (by simp)
  have HI : Hid (IntsOf w2 ao N pr.1) := Lib.hid ⟨hl, hok, fun hN => by
    obtain ⟨g, cap, hv, _, hlt⟩ := ho.form hN
    injection hv with hv _ _
    subst hv
    exact ⟨g, 0, rfl, hlt, fun k v hk => by
      have hkn : k < N := by rw [← hl]; exact (List.getElem?_eq_some_iff.1 hk).1
      rw [Nat.zero_add, ho.cellAt k (by omega), List.getElem?_map, hk]; rfl⟩⟩
  have hN : N ≤ 1000000 := by
    rw [← hl, hpr]
    unfold memP
    have h1 := rCount_range 9 (s.data.toList, 0) (by decide)
    have h2 := getMs_len16 (rCount 9 (s.data.toList, 0)).1.toNat (rCount 9 (s.data.toList, 0)).2 []
    simp at h2
    omega
  have HRi := Lib.hid (rrising_any (c := c) HI.out hN)
  clear hpr ho hl R2 hbw hok
  by_cases he : rEnd pr.2 = 0
  · have hd : (rEnd pr.2 != 0) = false := by simp [he]
    have h1 := HRes.out
    rw [if_neg (by simpa using he)] at h1
    rw [he] at HE
    by_cases h0 : N = 0
    · have hd2 : (((N : Nat) : Int) == 0) = true := by simp [h0]
      rw [if_pos (List.eq_nil_of_length_eq_zero (HL.out.trans h0))] at h1
      have HR := Lib.hid h1
      clear h1 HRes h0 he
      go_wp2_with fail
      refine HE.out.mono ?_
      rintro e w3 ⟨rfl, rfl⟩
      go_wp2_with fail
      go_ret2
      exact ⟨none, 0, 0, by rw [HR.out]; rfl, by rw [HR.out]; exact World.ownsRow_nil _ _ _ _, by rw [HR.out]; rfl, HBW.out⟩
    · have hd2 : (((N : Nat) : Int) == 0) = false := by rw [beq_eq_false_iff_ne]; omega
      rw [if_neg (fun h => h0 (by rw [← HL.out, h]; rfl))] at h1
      obtain ⟨r, hr⟩ : ∃ r, memsOk 0 pr.1 = r := ⟨_, rfl⟩
      rw [hr] at h1 HRi
      have HR := Lib.hid h1
      clear h1 HRes h0 he hr
      cases r with
      | true =>
        go_wp2_with fail
        refine HE.out.mono ?_
        rintro e w3 ⟨rfl, rfl⟩
        go_wp2_with fail
        refine HRi.out.mono ?_
        rintro e w4 ⟨rfl, hb4⟩
        go_wp2_with fail
        go_ret2
        exact ⟨ao, N, c, by rw [HR.out]; rfl, by rw [HR.out]; exact own_below HO.out hb4, by rw [HR.out]; exact HL.out, HBW.out.trans (hb4.mono HBW.out.size)⟩
      | false =>
        go_wp2_with fail
        refine HE.out.mono ?_
        rintro e w3 ⟨rfl, rfl⟩
        go_wp2_with fail
        refine HRi.out.mono ?_
        rintro e w4 ⟨rfl, hb4⟩
        go_wp2_with fail
        go_ret2
        exact ⟨none, 0, 0, by rw [HR.out]; rfl, by rw [HR.out]; exact World.ownsRow_nil _ _ _ _, by rw [HR.out]; rfl, HBW.out.trans (hb4.mono HBW.out.size)⟩
  · have hd : (rEnd pr.2 != 0) = true := by simp [he]
    have h1 := HRes.out
    rw [if_pos he] at h1
    have HR := Lib.hid h1
    clear h1 HRes he
    go_wp2_with fail
    refine HE.out.mono ?_
    rintro e w3 ⟨rfl, rfl⟩
    go_wp2_with fail
    go_ret2
    exact ⟨none, 0, 0, by rw [HR.out]; rfl, by rw [HR.out]; exact World.ownsRow_nil _ _ _ _, by rw [HR.out]; rfl, HBW.out⟩
end Go.Proofs.YtmdidmllaldbaaaGreat
