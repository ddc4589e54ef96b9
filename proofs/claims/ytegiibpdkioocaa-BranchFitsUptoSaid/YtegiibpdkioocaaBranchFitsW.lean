/- The walk of arboretumlaw9.BranchFits. -/
import Derived.Test.YtegiibpdkioocaaBranchFitsA
import Derived.Test.YtegiibpdkioocaaAppG
namespace Go.Proofs.Ytegiibpdkioocaa
open Go.RowKit
set_option linter.unusedVariables false
set_option maxRecDepth 100000 in
set_option maxHeartbeats 16000000 in
theorem fits_on {w : World} {ao : Option Addr} {n c : Nat} {l : List Chd} (hO : ∀ W, Below w.heap.size w W → ChdsOk W ao n l) (hnc : n ≤ c) (hc9 : c ≤ 140737488351232) (i : Nat) (x : Chd) (hg : (putC l).2 = 0) (hin : i < n) (hx1 : 1 ≤ x.key.size) (hx2 : x.key.size ≤ 40) (hx3 : 2 ≤ x.pg) (hx4 : x.pg ≤ 4294967295) :
    Calls Try.prog 13 #[.slice ao n c, .int .i64 i, .agg #[.string x.key, .int .i64 x.pg]] w fun e w' => e = .returned (.bool true) ∧ Below w.heap.size w w' := by
  have hgx : GoodC x := ⟨hx3, hx4, hx2⟩
  obtain ⟨g1, g2, g3, g4, g5⟩ := putC_good hg
  have hB0 : Below w.heap.size w (w.alloc (.cells #[.string x.key, .int .i64 x.pg] 82)) := (Below.refl _ _).alloc (Nat.le_refl _) _
  have hlen := (hO w (Below.refl _ _)).len
  have hnl : n ≤ 120 := by have := layB_two l; omega
  obtain ⟨b, o, hao, hbB, -⟩ := (hO w (Below.refl _ _)).chds.2 (by omega)
  subst hao
  have HPt := Lib.hid (putC_any (c := c) (hO _ hB0))
  rw [g4] at HPt
  obtain ⟨e, he⟩ : ∃ e, l[i]? = some e := ⟨l[i]'(by omega), List.getElem?_eq_getElem (by omega)⟩
  -- the plain law, ahead
  have hm1 := more_bytes he hgx g3
  have hmr := fun h1 h2 => more_right g5 he hgx h1 h2
  have hml : (replC l i [e, x]).length = n + 1 := by rw [replC_len l i [e, x] (by omega)]; show i + 2 + _ = _; omega
  have hel : ∀ W, Below w.heap.size w W → W.cell? ⟨b, o + i * 2, none⟩ = some (.string e.key) ∧ W.cell? ⟨b, o + i * 2 + 1, none⟩ = some (.int .i64 e.pg) := fun W hW => by
    obtain ⟨b', o', e', ha, _, he', s1, s2⟩ := (hO W hW).chds.get hin
    obtain ⟨rfl, rfl⟩ : b' = b ∧ o' = o := by injection ha with h; injection h with h1 h2; exact ⟨h1.symm, h2.symm⟩
    rw [he] at he'
    injection he' with he'
    subst he'
    exact ⟨s1, s2⟩
  have hRp : ∀ w1, Below w.heap.size w w1 → Calls Try.prog 63 #[.slice (some ⟨b, o, none⟩) n c, .int .i64 i, .slice (some ⟨w1.heap.size, 0, none⟩) 2 2] (w1.alloc (.cells #[.string e.key, .int .i64 e.pg, .string x.key, .int .i64 x.pg] 82)).drew (OwnsChds w1.heap.size (n + 1) (replC l i [e, x]) w1) := fun w1 h1 => fits_repl (hO w1 h1) hnc hc9 hin
  have hcell : ∀ W, Below (w.heap.size + 1) (w.alloc (.cells #[.string x.key, .int .i64 x.pg] 82)) W → W.cell? ⟨w.heap.size, 0, none⟩ = some (.string x.key) ∧ W.cell? ⟨w.heap.size, 1, none⟩ = some (.int .i64 x.pg) := by
    intro W hb
    have hk : W.heap[w.heap.size]? = _ := (hb.block w.heap.size (by omega)).trans (heap_alloc_new w _)
    refine ⟨?_, ?_⟩ <;> rw [blk_cell hk] <;> rfl
  have HCl := Lib.hid hcell
  have HEl := Lib.hid hel
  have HRp := Lib.hid hRp
  have HB0 := Lib.hid hB0
  obtain ⟨Q, hQ⟩ : ∃ Q, Q = ByteArray.mk (layB l).toArray := ⟨_, rfl⟩
  dsimp only at HPt
  rw [← hQ] at HPt
  obtain ⟨m, hm⟩ : ∃ m, m = replC l i [e, x] := ⟨_, rfl⟩
  rw [← hm] at hm1 hmr hml HRp
  have hokm : ∀ u ∈ m, rightC m = true → ChdOk u := fun u hu hr => by
    obtain ⟨a1, a2, a3⟩ := ((rightC_iff m).1 hr).2.1 u hu
    exact ⟨⟨by omega, by omega⟩, by omega⟩
  have hgm : ∀ u ∈ m, GoodC u := by
    intro u hu
    rw [hm] at hu
    unfold replC at hu
    have hgood : ∀ u ∈ l.take i ++ [e, x] ++ l.drop (i + 1), GoodC u := by
      intro u hu
      rw [List.mem_append, List.mem_append] at hu
      rcases hu with (hu | hu) | hu
      · exact g1 u (List.mem_of_mem_take hu)
      · have hu2 : u = e ∨ u = x := by simpa using hu
        rcases hu2 with rfl | rfl
        · exact g1 u (List.mem_of_getElem? he)
        · exact hgx
      · exact g1 u (List.mem_of_mem_drop hu)
    cases hL : l.take i ++ [e, x] ++ l.drop (i + 1) with
    | nil => rw [hL] at hu; cases hu
    | cons v r =>
      rw [hL] at hu hgood
      rcases List.mem_cons.1 hu with rfl | hu
      · have := hgood v List.mem_cons_self
        exact ⟨this.1, this.2.1, by show 0 ≤ 40; omega⟩
      · exact hgood u (List.mem_cons_of_mem _ hu)
  have HM1 := Lib.hid hm1
  have HMr := Lib.hid hmr
  have HMl := Lib.hid hml
  have HGm := Lib.hid hgm
  clear hQ hm hm1 hmr hml hcell hel hRp hB0 g1 g2 g3 g4 g5 he hlen hg hokm hgm hgx hO
  obtain ⟨xk, xp⟩ := x
  dsimp only at hx1 hx2 hx3 hx4 HPt HB0 HRp HCl ⊢
  have t1 : (0 : Int) ≤ i := by omega
  have t2 : (i : Int) < n := by omega
  go_enter Try.func13, Try.ntmps13
  go_wp2_with fail
  refine HPt.out.mono ?_
  rintro e1 w1 ⟨rfl, hb1⟩
  have HB1 := Lib.hid (HB0.out.trans (hb1.mono HB0.out.size))
  obtain ⟨c1, c2⟩ := HCl.out w1 (hb1.mono (by simp))
  obtain ⟨s1, s2⟩ := HEl.out w1 HB1.out
  have HR1 := Lib.hid (HRp.out w1 HB1.out)
  clear hb1 HB0 HCl HPt HEl HRp
  have hb1 := HB1.out.size
  have HT := Lib.hid (And.intro hx1 (And.intro hx2 (And.intro hx3 hx4)))
  go_upto_region 4 with fail
  go_cut [9] (fun s wx => ∃ ao3 cap3, s = .slice ao3 (n + 1) cap3 ∧ Hid (wx.ownsRow w1.heap.size 82 2 (.slice ao3 (n + 1) cap3) (n + 1) (chdCells m)) ∧ Hid (Below w1.heap.size w1 wx))
  case first =>
    go_region_with (go_at_call 63; refine (HR1.out).mono ?_; rintro e2 w2 ⟨ao2, cap2, rfl, hown2, hb2⟩)
    all_goals (
      go_wp2_with fail
      go_meet
      exact ⟨ao2, cap2, rfl, Lib.hid hown2, Lib.hid hb2⟩)
  case rest =>
    obtain ⟨ao3, cap3, rfl, HO3, HB3⟩ := hcut
    clear HR1 s1 s2 c1 c2 t1 t2 hx1 hx2 hx3 hx4
    have HMok : Hid (∀ W, Below wc.heap.size wc W → ChdsOk W ao3 (n + 1) m) := Lib.hid (fun W hW => by
      have hs : (m.map (·.key.size)).sum ≤ 40 * m.length := by
        have hgm := HGm.out
        clear HO3 HM1 HMr HMl HGm
        induction m with
        | nil => simp
        | cons a r ih =>
          have h1 := (hgm a List.mem_cons_self).2.2
          have h2 := ih (fun u hu => hgm u (List.mem_cons_of_mem _ hu))
          rw [List.map_cons, List.sum_cons, List.length_cons]
          omega
      refine ⟨((chds_own HO3.out).below hW).mono hW.size, fun u hu => ?_, by omega, by rw [HMl.out] at hs; omega⟩
      obtain ⟨a1, a2, a3⟩ := HGm.out u hu
      exact ⟨⟨by omega, by omega⟩, by omega⟩)
    have HBc : Hid (Below w.heap.size w wc) := Lib.hid (HB1.out.trans (HB3.out.mono HB1.out.size))
    obtain ⟨hcap1, hcap2⟩ := own_capF HO3.out
    obtain ⟨g, cap', hv, hgb, hglt⟩ := HO3.out.form (by omega)
    injection hv with hv _ hcv
    subst hv
    subst hcv
    have HRi := Lib.hid (rises_any (c := cap3) ((HMok.out wc (Below.refl _ _)).chds) (HMok.out wc (Below.refl _ _)).ok (by omega))
    have HFi : Hid (∀ W, Below wc.heap.size wc W → Calls Try.prog 68 #[.slice (some ⟨g, 0, none⟩) (n + 1) cap3] W fun e w' => e = .returned (.bool ((putC m).2 == 0)) ∧ Below W.heap.size W w') := Lib.hid (fun W hW => fitsC_any (HMok.out W hW))
    have HSp : Hid (∀ W, Below wc.heap.size wc W → Calls Try.prog 69 #[.slice (some ⟨g, 0, none⟩) (n + 1) cap3] W (SplitRes m (n + 1) W)) := Lib.hid (fun W hW => split_any (HMok.out W hW) hcap1 hcap2 (by omega))
    clear HB3 HB1 hb1 HGm hgb
    obtain ⟨M, hM⟩ : ∃ M, M = n + 1 := ⟨_, rfl⟩
    have hMi : ((M : Int) != (n : Int) + 1) = false := by rw [hM]; simp
    rw [← hM] at HO3 HMl HMok HRi HFi HSp hcap1 ⊢
    have hM2 : 2 ≤ M := by omega
    have hM3 : M ≤ 200 := by omega
    clear hM
    go_wp2_with fail
    refine HRi.out.mono ?_
    rintro e2 w2 ⟨r2, rfl, hr2, m2, rfl⟩
    have HRr := Lib.hid hr2
    have hb2 : Below wc.heap.size wc (wc.drewN m2) := below_drewN (Below.refl _ _) _
    obtain ⟨w2, hw2⟩ : ∃ w2, w2 = wc.drewN m2 := ⟨_, rfl⟩
    rw [← hw2] at hb2 ⊢
    clear hw2 hr2 HRi
    cases r2 with
    | false =>
      go_wp2_with fail
      refine (aliveC9_any _).mono ?_
      rintro e wa ⟨rfl, hba⟩
      go_wp2_with fail
      go_ret
      have := hb2.trans (hba.mono hb2.size)
      exact ⟨rfl, HBc.out.trans (this.mono HBc.out.size)⟩
    | true =>
    obtain ⟨u1, hu1⟩ : ∃ u, m[1]? = some u := ⟨m[1]'(by rw [HMl.out]; omega), List.getElem?_eq_getElem (by rw [HMl.out]; omega)⟩
    have p1 : w2.cell? ⟨g, 2, none⟩ = some (.string u1.key) := (hb2.cell (p := ⟨g, 2, none⟩) hglt).trans (by
      rw [HO3.out.cellAt 2 (by omega)]
      have := chdCells_get m 1 0 (by omega)
      rw [hu1] at this
      exact this)
    have hMr1 := HMr.out (HRr.out rfl)
    cases hem : u1.key.toList.isEmpty with
    | true =>
      clear hMr1 hu1
      go_wp2_with fail
      refine (aliveC9_any _).mono ?_
      rintro e wa ⟨rfl, hba⟩
      go_wp2_with fail
      go_ret
      have := hb2.trans (hba.mono hb2.size)
      exact ⟨rfl, HBc.out.trans (this.mono HBc.out.size)⟩
    | false =>
    have hright : rightC m = true := hMr1 (fun a ha hk => by
      rw [hu1] at ha
      injection ha with ha
      rw [ha, hk] at hem
      rw [← emp_eq] at hem
      exact absurd hem (by decide +kernel))
    have HRt := Lib.hid hright
    have HF2 := Lib.hid (HFi.out w2 hb2)
    obtain ⟨f, hf⟩ : ∃ f, f = ((putC m).2 == 0) := ⟨_, rfl⟩
    rw [← hf] at HF2
    have HFe := Lib.hid hf
    clear hMr1 hu1 hright hf HRr HMr
    go_wp2_with fail
    refine HF2.out.mono ?_
    rintro e3 w3 ⟨rfl, hb3'⟩
    have hb3 := hb2.trans (hb3'.mono hb2.size)
    clear hb3' HF2 p1 hem hb2
    cases f with
    | true =>
      go_wp2_with fail
      refine (aliveC9_any _).mono ?_
      rintro e wa ⟨rfl, hba⟩
      go_wp2_with fail
      go_ret
      have := hb3.trans (hba.mono hb3.size)
      exact ⟨rfl, HBc.out.trans (this.mono HBc.out.size)⟩
    | false =>
    have hbig : 240 < (layB m).length := by
      rcases Nat.lt_or_ge 240 (layB m).length with h | h
      · exact h
      · have := putC_fits HRt.out h
        rw [← HFe.out] at this
        cases this
    have HBig := Lib.hid hbig
    have HS3 := Lib.hid (HSp.out w3 hb3)
    clear hbig HFe HSp HFi
    go_wp2_with fail
    refine HS3.out.mono ?_
    rintro e4 w4 ⟨k, aa, ca, ba, cb, rfl, hok, ho1, ho2, hb4'⟩
    have hb4 := hb3.trans (hb4'.mono hb3.size)
    obtain ⟨q1, q2⟩ := split_small ((rightC_iff m).1 HRt.out).2.1 HBig.out HM1.out hok
    have hk1 := hok.1
    have hk2 : k < M := by have := hok.2.1; rw [HMl.out] at this; exact this
    have HFits := Lib.hid (part_fits HRt.out hk1 hok.2.1 q1 q2)
    obtain ⟨q, hq⟩ : ∃ q, q = M - k := ⟨_, rfl⟩
    rw [← hq] at ho2 ⊢
    have hq0 : 0 < q := by omega
    have hqM : k + q = M := by omega
    have z1 : ((k : Int) == 0) = false := by simp; omega
    have z2 : ((q : Int) == 0) = false := by simp; omega
    obtain ⟨ga, capa, hva, hga, hgal⟩ := ho1.form (by omega)
    injection hva with hva _ hcva
    subst hva
    subst hcva
    obtain ⟨gb, capb, hvb, hgb2, hgbl⟩ := ho2.form (by omega)
    injection hvb with hvb _ hcvb
    subst hvb
    subst hcvb
    have hlk : (m.take k).length = k := by rw [List.length_take, HMl.out]; omega
    have hlq : (m.drop k).length = q := by rw [List.length_drop, HMl.out]; omega
    have hCa : Chds w4 w4.heap.size (some ⟨ga, 0, none⟩) k (m.take k) := chds_own ho1
    have hCb : Chds w4 w4.heap.size (some ⟨gb, 0, none⟩) q (m.drop k) := chds_own ho2
    have HCa := Lib.hid hCa
    have HCb := Lib.hid hCb
    have HQ := Lib.hid hqM
    obtain ⟨i0, hi, hz0, hz1, hz2⟩ := info_parts chdInfo
    have hla := chdCells_len (m.take k)
    have hlb := chdCells_len (m.drop k)
    rw [hlk] at hla
    rw [hlq] at hlb
    have HLa := Lib.hid hla
    have HLb := Lib.hid hlb
    have HLk := Lib.hid (And.intro hlk hlq)
    have hkq : k ≤ 200 ∧ q ≤ 200 := by omega
    obtain ⟨hk200, hq200⟩ := hkq
    -- what stands first behind the cut
    obtain ⟨uk, huk⟩ : ∃ u, m[k]? = some u := ⟨m[k]'(by rw [HMl.out]; exact hk2), List.getElem?_eq_getElem (by rw [HMl.out]; exact hk2)⟩
    obtain ⟨rk, hrk⟩ : ∃ r, m.drop k = uk :: r := ⟨m.drop (k + 1), by
      rw [List.drop_eq_getElem_cons (by rw [HMl.out]; exact hk2)]
      congr 1
      exact (List.getElem?_eq_some_iff.1 huk).2⟩
    have hfo : ∀ k', FindOk m uk.key k' → k' = k := fun k' h => find_own ((rightC_iff m).1 HRt.out).2.2.2 huk h
    have HFo := Lib.hid hfo
    have HRk := Lib.hid hrk
    have HGd : Hid (∀ u ∈ m, GoodC u) := Lib.hid ((rightC_iff m).1 HRt.out).2.1
    clear HS3 hb4' hok ho1 ho2 q1 q2 hq hqM HBig HM1 hCa hCb hla hlb hlk hlq huk hrk hfo
    go_wp2_with (first
      | (at_builtin; refine wpList_append_guarded (by go_simp) (.const (.slice none 0 0)) (.tmp 101) 77 rfl w4.heap.size 82 i0 _ 2 24 Try.underlying77 hi hz0 hz1 hz2 rfl (by omega) _ 0 [] rfl (World.ownsRow_nil _ _ _ _) ⟨ga, 0, none⟩ k ca (chdCells (m.take k)) rfl HLa.out HCa.out.cells (chdCells_one _) (by unfold maxLen; omega) (by omega) (Nat.le_refl _) ?_; intro v5 w5 hown5 hg5; rw [Nat.zero_add, List.nil_append] at hown5; obtain ⟨a5, c5, hv5, _⟩ := own_shape hown5; subst hv5; have HO5 := Lib.hid hown5; have hg5' : w4.grownBy w5 none := hg5; have HB5 : Hid (Below w4.heap.size w4 w5) := Lib.hid ((Below.refl _ _).grown hg5' (Nat.le_refl _) (fun k hk => by cases hk)); clear hown5 hg5 hg5')
      | (at_builtin; refine wpList_append_guarded (by go_simp) (.tmp 102) (.tmp 103) 77 rfl w4.heap.size 82 i0 _ 2 24 Try.underlying77 hi hz0 hz1 hz2 rfl (by omega) _ k (chdCells (m.take k)) rfl HO5.out ⟨gb, 0, none⟩ q cb (chdCells (m.drop k)) rfl HLb.out (HCb.out.below HB5.out).cells (chdCells_one _) (by unfold maxLen; omega) (by omega) HB5.out.size ?_; intro v6 w6 hown6 hg6; rw [HQ.out, ← chdCells_append, List.take_append_drop] at hown6; obtain ⟨a6, c6, hv6, _⟩ := own_shape hown6; subst hv6; have HO6 := Lib.hid hown6; have HB6 : Hid (Below w4.heap.size w4 w6) := Lib.hid (HB5.out.grown hg6 HB5.out.size (fun k hk => (HO5.out.lt k hk).1)); clear hown6 hg6))
    have hb6 : Below wc.heap.size wc w6 := hb4.trans (HB6.out.mono hb4.size)
    have HSm := Lib.hid (sameC_yes (c := c6) (d := cap3) (chds_own HO6.out) (HMok.out w6 hb6).chds (by omega))
    refine HSm.out.mono ?_
    rintro e7 w7 ⟨rfl, hb7'⟩
    have hb47 : Below w4.heap.size w4 w7 := HB6.out.trans (hb7'.mono HB6.out.size)
    have HB7 := Lib.hid hb47
    have hb7 : Below wc.heap.size wc w7 := hb4.trans (hb47.mono hb4.size)
    have HBc7 := Lib.hid hb7
    clear hb6 HSm hb7' hb47 hb7 HO6 HO5 HB5 HB6
    go_wp2_with (at_builtin; refine wpList_append_guarded (by go_simp) (.const (.slice none 0 0)) (.tmp 109) 77 rfl w7.heap.size 82 i0 _ 2 24 Try.underlying77 hi hz0 hz1 hz2 rfl (by omega) _ 0 [] rfl (World.ownsRow_nil _ _ _ _) ⟨gb, 0, none⟩ q cb (chdCells (m.drop k)) rfl HLb.out (HCb.out.below HB7.out).cells (chdCells_one _) (by unfold maxLen; omega) (by omega) (Nat.le_refl _) ?_; intro v8 w8 hown8 hg8; rw [Nat.zero_add, List.nil_append] at hown8; obtain ⟨g8, cap8, hv8, hgb8, hgl8⟩ := hown8.form (by omega); subst hv8; have r1 : w8.cell? ⟨g8, 0, none⟩ = some (.string uk.key) := (by rw [hown8.cellAt 0 (by omega), HRk.out]; rfl); have r2 : w8.frozen? ⟨g8, 0, none⟩ = false := hown8.frozenAt _; have HO8 := Lib.hid hown8; have hg8' : w7.grownBy w8 none := hg8; have HB8 : Hid (Below w7.heap.size w7 w8) := Lib.hid ((Below.refl _ _).grown hg8' (Nat.le_refl _) (fun k hk => by cases hk)); have HG8 := Lib.hid hgb8; clear hown8 hg8 hg8' hgb8)
    obtain ⟨w9, hw9⟩ : ∃ w9, w9 = w8.setCell ⟨g8, 0, none⟩ (.string ⟨#[]⟩) := ⟨_, rfl⟩
    rw [← hw9]
    have hb79 : Below w7.heap.size w7 w9 := by rw [hw9]; exact HB8.out.setCell HG8.out _
    have hO9 : w9.ownsRow w7.heap.size 82 2 (.slice (some ⟨g8, 0, none⟩) q cap8) q (chdCells (clear0 (m.drop k))) := by
      have h2 := (HO8.out.stored 0 (.string ⟨#[]⟩)).1
      rw [clear0_cells _ (by rw [HRk.out]; simp)] at h2
      rw [hw9]
      exact h2
    have hb49 : Below w4.heap.size w4 w9 := HB7.out.trans (hb79.mono HB7.out.size)
    have hbc9 : Below wc.heap.size wc w9 := HBc7.out.trans (hb79.mono HBc7.out.size)
    have hsum : ∀ ll : List Chd, (∀ u ∈ ll, u.key.size ≤ 40) → (ll.map (·.key.size)).sum ≤ 40 * ll.length := by
      intro ll h
      induction ll with
      | nil => simp
      | cons a r ih =>
        have h1 := h a List.mem_cons_self
        have h2 := ih (fun u hu => h u (List.mem_cons_of_mem _ hu))
        rw [List.map_cons, List.sum_cons, List.length_cons]
        omega
    have hgok : ∀ u : Chd, GoodC u → ChdOk u := fun u h => ⟨⟨by have := h.1; omega, by have := h.2.1; omega⟩, by have := h.2.2; omega⟩
    have hgt : ∀ u ∈ m.take k, GoodC u := fun u hu => HGd.out u (List.mem_of_mem_take hu)
    have hgc : ∀ u ∈ clear0 (m.drop k), GoodC u := by
      intro u hu
      have hd : ∀ v ∈ m.drop k, GoodC v := fun v hv => HGd.out v (List.mem_of_mem_drop hv)
      rw [HRk.out] at hu hd
      rcases List.mem_cons.1 hu with rfl | hu
      · have := hd uk List.mem_cons_self
        exact ⟨this.1, this.2.1, by show 0 ≤ 40; omega⟩
      · exact hd u (List.mem_cons_of_mem _ hu)
    have HFa : Hid (∀ W, Below w9.heap.size w9 W → Calls Try.prog 68 #[.slice (some ⟨ga, 0, none⟩) k ca] W fun e w' => e = .returned (.bool true) ∧ Below W.heap.size W w') := Lib.hid (fun W hW => by
      have hbW : Below w4.heap.size w4 W := hb49.trans (hW.mono hb49.size)
      have hs := hsum (m.take k) (fun u hu => (hgt u hu).2.2)
      have := fitsC_any (c := ca) (⟨(HCa.out.below hbW).mono hbW.size, fun u hu => hgok u (hgt u hu), by omega, by rw [HLk.out.1] at hs; omega⟩ : ChdsOk W (some ⟨ga, 0, none⟩) k (m.take k))
      rw [HFits.out.1] at this
      exact this)
    have HFc : Hid (∀ W, Below w9.heap.size w9 W → Calls Try.prog 68 #[.slice (some ⟨g8, 0, none⟩) q cap8] W fun e w' => e = .returned (.bool true) ∧ Below W.heap.size W w') := Lib.hid (fun W hW => by
      have hs := hsum (clear0 (m.drop k)) (fun u hu => (hgc u hu).2.2)
      have := fitsC_any (c := cap8) (⟨((chds_own hO9).below hW).mono hW.size, fun u hu => hgok u (hgc u hu), by omega, by rw [clear0_len, HLk.out.2] at hs; omega⟩ : ChdsOk W (some ⟨g8, 0, none⟩) q (clear0 (m.drop k)))
      rw [HFits.out.2] at this
      exact this)
    have HFi : Hid (∀ W, Below w9.heap.size w9 W → Calls Try.prog 61 #[.slice (some ⟨g, 0, none⟩) M cap3, .string uk.key] W fun e w' => e = .returned (.int .i64 k) ∧ W = w') := Lib.hid (fun W hW => by
      have hbW : Below wc.heap.size wc W := hbc9.trans (hW.mono hbc9.size)
      refine (find_any (c := cap3) (HMok.out W hbW).chds (by omega) uk.key).mono ?_
      rintro e w' ⟨k', he, hk', hw⟩
      rw [HFo.out k' hk'] at he
      exact ⟨he, hw⟩)
    have HCell : Hid (∀ W, Below w9.heap.size w9 W → W.cell? ⟨gb, 0, none⟩ = some (.string uk.key)) := Lib.hid (fun W hW => by
      have hbW : Below w4.heap.size w4 W := hb49.trans (hW.mono hb49.size)
      obtain ⟨b', o', e', ha, _, he', s1, s2⟩ := (HCb.out.below hbW).get (k := 0) hq0
      injection ha with ha
      injection ha with h1 h2
      subst h1 h2
      rw [HRk.out] at he'
      have : uk = e' := by simpa using he'
      rw [this]
      simpa using s1)
    have HBw : Hid (Below w.heap.size w w9) := Lib.hid (HBc.out.trans (hbc9.mono HBc.out.size))
    clear hw9 hb79 hO9 hb49 hbc9 hsum hgok hgt hgc r1 r2 HB8 HO8 HG8 HB7 HBc7 HCa HCb HLa HLb HMok HO3 hb3 hb4 HBc
    refine (aliveC9_any _).mono ?_
    rintro e10 w10 ⟨rfl, hb10⟩
    have HX10 := Lib.hid (HFa.out w10 hb10)
    go_wp2_with fail
    refine HX10.out.mono ?_
    rintro e11 w11 ⟨rfl, hb11'⟩
    have hb11 := hb10.trans (hb11'.mono hb10.size)
    have HX11 := Lib.hid (HFc.out w11 hb11)
    clear hb10 hb11' HX10
    go_wp2_with fail
    refine HX11.out.mono ?_
    rintro e12 w12 ⟨rfl, hb12'⟩
    have hb12 := hb11.trans (hb12'.mono hb11.size)
    have HX12 := Lib.hid (HFi.out w12 hb12)
    have v1 := HCell.out w12 hb12
    have v2 : (0 : Int) < q := by omega
    clear hb11 hb12' HX11
    go_wp2_with fail
    refine HX12.out.mono ?_
    rintro e13 w13 ⟨rfl, rfl⟩
    go_wp2_with fail
    go_ret
    exact ⟨rfl, HBw.out.trans (hb12.mono HBw.out.size)⟩
theorem i64_wfF {n : Int} (h : (Lit.int .i64 n).wf = true) : -9223372036854775808 ≤ n ∧ n ≤ 9223372036854775807 := by
  simpa [Lit.wf, IntKind.min, IntKind.max, IntKind.bits, IntKind.signed] using h
theorem walk_BranchFits {w : World} (ao : Option Addr) (n c : Nat) (h0 : ∃ l, ChdsIn w ao n c l ∧ n + (l.map (·.key.size)).sum ≤ 1048576) (i : Int) (hi : (Lit.int .i64 i).wf = true) (x : Chd) (hx : ChdOk x) :
    Calls Try.prog 13 #[.slice ao n c, .int .i64 i, x.agg] w fun e w' => e = .returned (.bool true) ∧ Below w.heap.size w w' := by
  obtain ⟨l, hE, hbk⟩ := h0
  have hO : ∀ W, Below w.heap.size w W → ChdsOk W ao n l := fun W hW => hE.okBulk hbk hW
  by_cases hg : (putC l).2 = 0
  · have hn : n ≤ 120 := by
      have h1 := layB_two l
      have h2 := (putC_good hg).2.2.1
      have h3 := hE.chds.1
      omega
    by_cases h : (0 ≤ i ∧ i < n ∧ 1 ≤ x.key.size ∧ x.key.size ≤ 40 ∧ 2 ≤ x.pg ∧ x.pg ≤ 4294967295)
    · obtain ⟨a1, a2, a3, a4, a5, a6⟩ := h
      obtain ⟨k, rfl⟩ : ∃ k : Nat, i = k := ⟨i.toNat, by omega⟩
      exact fits_on hO hE.le (by have := hE.sz; omega) k x hg (by omega) a3 a4 a5 a6
    · exact fits_off hO i x hx.2 (.inr ⟨hg, hn, by omega⟩)
  · exact fits_off hO i x hx.2 (.inl hg)
end Go.Proofs.Ytegiibpdkioocaa
