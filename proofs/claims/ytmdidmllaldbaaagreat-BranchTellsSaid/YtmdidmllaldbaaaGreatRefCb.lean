/- The walks of arboretumref7's Replace, and of branch.Replace out of its bounds. -/
import Derived.Test.YtmdidmllaldbaaaGreatRefCa
import Derived.Test.YtmdidmllaldbaaaGreatReplC
import Derived.Deep.RegionLaw
import Derived.Laws.AppendOwnNone
import Derived.Test.YtmdidmllaldbaaaGreatSplitF
import Derived.Deep.RegionWith
namespace Go.Proofs.YtmdidmllaldbaaaGreat
/-! ### The walks of arboretumref7's Replace, and of branch.Replace out of its bounds. -/
section
open Go.RowKit
set_option linter.unusedVariables false
theorem step_append_own {P : Program} (w : World) {ops : Array Oper} {o : Oper} {a : Act} {K : Act → World → Prop} {Q : Exit → Act → World → Prop} {E : Prop} (hgd : o.guard = none) (s x : Operand) (t : TypeId)
    (ho : o.op = .call { callee := .builtin .append, args := #[s, x], argTypes := #[t, t] })
    (base : Nat) (e : TypeId) (i : TypeInfo) (z : Value) (size bytes : Nat) (ht : P.underlying t = some (.slice e)) (hi : P.info? e = some i) (hz : i.zero = some z)
    (hsize : i.size = size) (hby : i.bytes = bytes) (hzs : z.cells.size = size) (hsz : 0 < size)
    (v : Value) (n : Nat) (xs : List Value) (hs : a.eval s = v) (hown : w.ownsRow base e size v n xs)
    (ad : Addr) (m c : Nat) (news : List Value) (hx : a.eval x = .slice (some ad) m c) (hl : news.length = m * size) (hnews : ∀ j u, news[j]? = some u → w.cell? (ad.add j) = some u) (h1 : ∀ u ∈ news, u.oneCell' = true)
    (h63 : n + m ≤ maxLen) (hbytes : (n + m) * bytes ≤ 140737488355328) (hbase : base ≤ w.heap.size)
    (h : ∀ v' w', w'.ownsRow base e size v' (n + m) (xs ++ news) → w.grownBy w' v.ownBlock → (v'.ownBlock = v.ownBlock ∨ v'.ownBlock = some w.heap.size) → K (a.put o.dst v') w') :
    if Region.wanted o (yielded ops a.tmps) = true then Oper.wp P o a w K Q else E := by
  have hw : Region.wanted o (yielded ops a.tmps) = true := by simp [Region.wanted, hgd]
  rw [if_pos hw]
  obtain ⟨v', w', hr, h2, h3, _, h5⟩ := run_append_own_at (P := P) w base t o.type e i z size bytes ht hi hz hsize hby hzs hsz v n xs hown ad m c news hl hnews h1 h63 hbytes hbase
  unfold Oper.wp execOp
  simp only [ho, resolve, invoke, builtin, Sem.run_bind, Sem.run_pure, Result.andThen_ok, List.map_toArray, List.map_cons, List.map_nil, hs, hx, hr]
  exact h v' w' h2 h3 h5
theorem step_append_none {P : Program} {w : World} {ops : Array Oper} {o : Oper} {a : Act} {K : Act → World → Prop} {Q : Exit → Act → World → Prop} {E : Prop} (hgd : o.guard = none) (s x : Operand) (t : TypeId)
    (ho : o.op = .call { callee := .builtin .append, args := #[s, x], argTypes := #[t, t] })
    (base : Nat) (e : TypeId) (i : TypeInfo) (size : Nat) (ht : P.underlying t = some (.slice e)) (hi : P.info? e = some i)
    (v : Value) (n : Nat) (xs : List Value) (hs : a.eval s = v) (hown : w.ownsRow base e size v n xs) (hx : a.eval x = .slice none 0 0)
    (h : K (a.put o.dst v) w) : if Region.wanted o (yielded ops a.tmps) = true then Oper.wp P o a w K Q else E := by
  have hw : Region.wanted o (yielded ops a.tmps) = true := by simp [Region.wanted, hgd]
  rw [if_pos hw]
  have hrun := run_append_owned_none (P := P) (w := w) base t o.type e i size ht hi v n xs hown
  unfold Oper.wp
  simp [execOp, ho, resolve, invoke, builtin, hs, hx, hrun, Result.andThen]
  exact h
theorem chdInfoR : (Tryz.prog.info? 192).map (fun i => (i.zero, i.size, i.bytes)) = some (some (.agg #[.string ⟨#[]⟩, .int .i64 0]), 2, 24) := by kernel_rfl
/-- A source, in whatever later world. -/
theorem chds_src {w : World} {ad : Addr} {n : Nat} {l : List Chd} (h : Chds w w.heap.size (some ad) n l) : ∀ W, Below w.heap.size w W → ∀ j u, (chdCells l)[j]? = some u → W.cell? (ad.add j) = some u := fun W hb => (h.below hb).cells
set_option maxRecDepth 20000 in
set_option maxHeartbeats 4000000 in
theorem rreplaceC_out {w : World} {ao bo : Option Addr} {n c m d : Nat} {l xs : List Chd} (hE : ChSrc w w.heap.size ao n c l) (i : Int) (hi1 : -9223372036854775808 ≤ i ∧ i ≤ 9223372036854775807) (hi : i < 0 ∨ (n : Int) ≤ i) (hn : n ≤ 1000000) :
    Calls Tryz.prog 48 #[.slice ao n c, .int .i64 i, .slice bo m d] w (OwnsChds w.heap.size n l w) := by
  obtain ⟨i0, hii, hz0, hz1, hz2⟩ := info_parts chdInfoR
  have hll := hE.chds.1
  have hgo : ∀ r1 r2, decide (i < 0) = r1 → decide ((n : Int) ≤ i) = r2 → r1 = true ∨ r2 = true := fun r1 r2 h1 h2 => by
    rcases hi with h | h
    · exact .inl (by rw [← h1]; simpa using h)
    · exact .inr (by rw [← h2]; simpa using h)
  obtain ⟨r1, h1⟩ : ∃ r, decide (i < 0) = r := ⟨_, rfl⟩
  obtain ⟨r2, h2⟩ : ∃ r, decide ((n : Int) ≤ i) = r := ⟨_, rfl⟩
  have hr := hgo r1 r2 h1 h2
  clear hgo hi
  cases ao with
  | none =>
    obtain ⟨hn0, hc0⟩ := hE.nil_ rfl
    subst hn0 hc0
    have hl0 : l = [] := List.eq_nil_of_length_eq_zero hll
    subst hl0
    clear hE hll
    rcases r1 with _ | _ <;> rcases r2 with _ | _ <;> simp at hr
    all_goals (
      clear hr
      have h1p := h1
      have h2p := h2
      simp at h1p h2p
      go_enter Tryz.func48, Tryz.ntmps48
      go_wp2_with (at_builtin; refine wpList_append_own_none rfl (.const (.slice none 0 0)) (.tmp 16) 66 rfl w.heap.size 192 i0 2 Tryz.underlying66 hii _ 0 [] rfl (World.ownsRow_nil _ _ _ _) rfl ?_)
      go_ret
      exact ⟨none, 0, rfl, World.ownsRow_nil _ _ _ _, Below.refl _ _⟩)
  | some ad =>
    have HC := Lib.hid (chds_src hE.chds)
    have HLen : Hid ((chdCells l).length = n * 2) := Lib.hid (by rw [chdCells_len, hll])
    clear hE hll
    rcases r1 with _ | _ <;> rcases r2 with _ | _ <;> simp at hr
    all_goals (
      clear hr
      have h1p := h1
      have h2p := h2
      simp at h1p h2p
      go_enter Tryz.func48, Tryz.ntmps48
      go_wp2_with (at_builtin; refine wpList_append_own_at _ rfl (.const (.slice none 0 0)) (.tmp 16) 66 rfl w.heap.size 192 i0 _ 2 24 Tryz.underlying66 hii hz0 hz1 hz2 rfl (by omega) _ 0 [] rfl (World.ownsRow_nil _ _ _ _) ad n c (chdCells l) rfl HLen.out (HC.out _ (Below.refl _ _)) (chdCells_one l) (by unfold maxLen; omega) (by omega) (by simp) ?_; intro v1 w8 hown8 hg8 _ _; rw [Nat.zero_add, List.nil_append] at hown8; obtain ⟨a8, c8, hv8, _⟩ := own_shape hown8; subst hv8; have HO8 := Lib.hid hown8; have HB8 := Lib.hid ((Below.refl w.heap.size w).grown hg8 (by simp) (fun k hk => by cases hk)); clear hown8 hg8)
      go_ret
      exact ⟨a8, c8, rfl, HO8.out, HB8.out⟩)
set_option maxRecDepth 20000 in
set_option maxHeartbeats 4000000 in
theorem replaceC_out {w : World} {ao bo : Option Addr} {n c m d : Nat} {l xs : List Chd} (hE : ChSrc w w.heap.size ao n c l) (i : Int) (hi1 : -9223372036854775808 ≤ i ∧ i ≤ 9223372036854775807) (hi : i < 0 ∨ (n : Int) ≤ i) (hn : n ≤ 1000000) :
    Calls Tryz.prog 40 #[.slice ao n c, .int .i64 i, .slice bo m d] w (OwnsChds w.heap.size n l w) := by
  have HCl := Lib.hid (cloneC_any ao n c l w hE.chds (by omega) (fun h => (hE.nil_ h).1))
  have hgo : ∀ r1 r2, decide (i < 0) = r1 → decide ((n : Int) ≤ i) = r2 → r1 = true ∨ r2 = true := fun r1 r2 h1 h2 => by
    rcases hi with h | h
    · exact .inl (by rw [← h1]; simpa using h)
    · exact .inr (by rw [← h2]; simpa using h)
  obtain ⟨r1, h1⟩ : ∃ r, decide (i < 0) = r := ⟨_, rfl⟩
  obtain ⟨r2, h2⟩ : ∃ r, decide ((n : Int) ≤ i) = r := ⟨_, rfl⟩
  have hr := hgo r1 r2 h1 h2
  clear hgo hi hE
  rcases r1 with _ | _ <;> rcases r2 with _ | _ <;> simp at hr
  all_goals (
    clear hr
    have h1p := h1
    have h2p := h2
    simp at h1p h2p
    go_enter Tryz.func40, Tryz.ntmps40
    go_wp2_with fail
    refine HCl.out.mono ?_
    rintro e w1 ⟨a1, c1, rfl, ho, hb⟩
    go_wp2_with fail
    go_ret
    exact ⟨a1, c1, rfl, ho, hb⟩)
end
/-! ### The walk of arboretumref7's Replace within its bounds. -/
section
open Go.RowKit
set_option linter.unusedVariables false
set_option linter.unusedSimpArgs false
set_option maxRecDepth 100000 in
set_option maxHeartbeats 8000000 in
theorem rreplaceC_in {w : World} {b o : Nat} {bo : Option Addr} {n c m d : Nat} {l xs : List Chd} (hE : Chds w w.heap.size (some ⟨b, o, none⟩) n l) (hnc : n ≤ c) (hc : c ≤ 9223372036854775807) (i : Nat) (hi : i < n) (hX : ChSrc w w.heap.size bo m d xs) (hnm : n + m ≤ 1000000) :
    Calls Tryz.prog 48 #[.slice (some ⟨b, o, none⟩) n c, .int .i64 i, .slice bo m d] w (OwnsChds w.heap.size (i + m + (n - (i + 1))) (replC l i xs) w) := by
  obtain ⟨i0, hii, hz0, hz1, hz2⟩ := info_parts chdInfoR
  have HS1 := Lib.hid (chds_src (hE.take (i := i) (by omega)))
  have HS3 : Hid (∀ o2, (n - (i + 1) = 0 ∨ o2 = o + (i + 1) * 2) → ∀ W, Below w.heap.size w W → ∀ j u, (chdCells (l.drop (i + 1)))[j]? = some u → W.cell? ((⟨b, o2, none⟩ : Addr).add j) = some u) := Lib.hid (fun o2 ho => by
    rcases ho with h0 | rfl
    · intro W hb j u hu
      rw [List.drop_eq_nil_of_le (by rw [hE.1]; omega)] at hu
      cases hu
    · exact chds_src (hE.drop (by omega)))
  have HL1 : Hid ((chdCells (l.take i)).length = i * 2) := Lib.hid (by rw [chdCells_len, List.length_take, hE.1, Nat.min_eq_left (by omega)])
  have HL3 : Hid ((chdCells (l.drop (i + 1))).length = (n - (i + 1)) * 2) := Lib.hid (by rw [chdCells_len, List.length_drop, hE.1])
  obtain ⟨L, hL⟩ : ∃ L, L = l.take i ++ xs ++ l.drop (i + 1) := ⟨_, rfl⟩
  have hRp : replC l i xs = clear0 L := by rw [hL]; rfl
  have HRp := Lib.hid hRp
  have HCat : Hid (chdCells (l.take i) ++ chdCells xs ++ chdCells (l.drop (i + 1)) = chdCells L) := Lib.hid (by rw [hL, chdCells_append, chdCells_append])
  obtain ⟨q, hq⟩ : ∃ q, q = n - (i + 1) := ⟨_, rfl⟩
  obtain ⟨N, hN⟩ : ∃ N, N = i + m + q := ⟨_, rfl⟩
  have HLl : Hid (L.length = N) := Lib.hid (by rw [hL, hN, hq, List.length_append, List.length_append, List.length_take, List.length_drop, hE.1, hX.chds.1]; omega)
  rw [← hq] at HS3 HL3 ⊢
  rw [← hN]
  have HQ := Lib.hid hq
  have HN := Lib.hid hN
  have HXs := Lib.hid hX
  have w1 : decide ((i : Int) < 0) = false := by simp <;> omega
  have w0 : IntKind.i64.wrap ((i : Int) + 1) = (i : Int) + 1 := IntWalk.i64_in _ (by omega)
  have w1p : ¬ (i : Int) < 0 := by omega
  have w1b : decide ((n : Int) ≤ i) = false := by simp; omega
  have w1c : ¬ (n : Int) ≤ i := by omega
  have w2 : (0 : Int) ≤ (i : Int) + 1 := by omega
  have w3 : ((i : Int) + 1).toNat = i + 1 := by omega
  have w4 : (i : Int) + 1 ≤ n := by omega
  have w5 : (0 : Int) ≤ i := by omega
  have w6 : (i : Int) ≤ c := by omega
  have w7 : (i : Int) < n := by omega
  have w8 : (n : Int) ≤ c := by omega
  have hxl := hX.chds.1
  have hxn := hX.nil_
  have hqn : q ≤ n := by omega
  clear hL hRp hN hq hX hE
  have fin : ∀ (v3 : Value) (w5 : World), w5.ownsRow w.heap.size 192 2 v3 N (chdCells L) → Below w.heap.size w w5 → ∃ a c, v3 = .slice a N c ∧ Hid (w5.ownsRow w.heap.size 192 2 (.slice a N c) N (chdCells L)) ∧ Hid (Below w.heap.size w w5) := fun v3 w5 h hb => by
    obtain ⟨a, c', hv, _⟩ := own_shape h
    subst hv
    exact ⟨a, c', rfl, Lib.hid h, Lib.hid hb⟩
  have HFin := Lib.hid fin
  clear fin
  go_enter Tryz.func48, Tryz.ntmps48
  go_upto_region 3 with fail
  go_cut [7] (fun s wx => ∃ ao' cap', s = .slice ao' N cap' ∧ Hid (wx.ownsRow w.heap.size 192 2 (.slice ao' N cap') N (chdCells L)) ∧ Hid (Below w.heap.size w wx))
  case first =>
    have hq2 : n - (i + 1) = q := HQ.out.symm
    cases bo with
    | none =>
      obtain ⟨hm0, hd0⟩ := hxn rfl
      subst hm0 hd0
      have HX0 : Hid (xs = []) := Lib.hid (List.eq_nil_of_length_eq_zero hxl)
      clear hxl hxn
      by_cases hcc : i + 1 = c
      · have hq0 : q = 0 := by omega
        subst hq0
        go_region_law (first
          | (refine step_append_own _ (by rfl) (.const (.slice none 0 0)) (.tmp 20) 66 (by rfl) w.heap.size 192 i0 _ 2 24 Tryz.underlying66 hii hz0 hz1 hz2 (by rfl) (by omega) (.slice none 0 0) 0 [] (by simp [Act.eval]) (World.ownsRow_nil _ _ _ _) ⟨b, o, none⟩ i c (chdCells (l.take i)) (by simp [Act.eval, Act.put]) HL1.out (HS1.out _ (Below.drew (Below.refl _ _))) (chdCells_one _) (by unfold maxLen; omega) (by omega) (by simp) ?_; intro v1 u1 hown1 hg1 hat1; rw [Nat.zero_add, List.nil_append] at hown1; have HO1 := Lib.hid hown1; have HB1 := Lib.hid ((Below.drew (Below.refl w.heap.size w)).grown hg1 (by simp) (fun k hk => by cases hk)); obtain ⟨a1, c1, hv1, _⟩ := own_shape hown1; subst hv1; clear hown1 hg1 hat1)
          | (refine step_append_none (by rfl) (.tmp 21) (.tmp 22) 66 (by rfl) w.heap.size 192 i0 2 Tryz.underlying66 hii (.slice a1 i c1) i (chdCells (l.take i)) (by simp [Act.eval, Act.put]) HO1.out (by simp [Act.eval, Act.put]) ?_)
          | (refine step_append_own _ (by rfl) (.tmp 23) (.tmp 27) 66 (by rfl) w.heap.size 192 i0 _ 2 24 Tryz.underlying66 hii hz0 hz1 hz2 (by rfl) (by omega) (.slice a1 i c1) i (chdCells (l.take i)) (by simp [Act.eval, Act.put]) HO1.out ⟨b, o, none⟩ 0 0 (chdCells (l.drop (i + 1))) (by simp [Act.eval, Act.put]) HL3.out (HS3.out _ (.inl rfl) _ HB1.out) (chdCells_one _) (by unfold maxLen; omega) (by omega) HB1.out.size ?_; intro v3 u3 hown3 hg3 hat3; have HO3 := Lib.hid hown3; have HB3 := Lib.hid (HB1.out.grown hg3 HB1.out.size (fun k hk => (HO1.out.lt k hk).1)); clear hown3 hg3 hat3))
        all_goals (
          obtain ⟨a9, c9, rfl, HO9, HB9⟩ := HFin.out v3 u3 (by rw [show N = i + 0 from by have := HN.out; omega, ← HCat.out, HX0.out]; simpa [chdCells] using HO3.out) HB3.out
          go_wp2_with fail
          go_meet
          exact ⟨a9, c9, rfl, HO9, HB9⟩)
      · have hcc2 : ¬ c = i + 1 := fun h => hcc h.symm
        go_region_law (first
          | (refine step_append_own _ (by rfl) (.const (.slice none 0 0)) (.tmp 20) 66 (by rfl) w.heap.size 192 i0 _ 2 24 Tryz.underlying66 hii hz0 hz1 hz2 (by rfl) (by omega) (.slice none 0 0) 0 [] (by simp [Act.eval]) (World.ownsRow_nil _ _ _ _) ⟨b, o, none⟩ i c (chdCells (l.take i)) (by simp [Act.eval, Act.put]) HL1.out (HS1.out _ (Below.drew (Below.refl _ _))) (chdCells_one _) (by unfold maxLen; omega) (by omega) (by simp) ?_; intro v1 u1 hown1 hg1 hat1; rw [Nat.zero_add, List.nil_append] at hown1; have HO1 := Lib.hid hown1; have HB1 := Lib.hid ((Below.drew (Below.refl w.heap.size w)).grown hg1 (by simp) (fun k hk => by cases hk)); obtain ⟨a1, c1, hv1, _⟩ := own_shape hown1; subst hv1; clear hown1 hg1 hat1)
          | (refine step_append_none (by rfl) (.tmp 21) (.tmp 22) 66 (by rfl) w.heap.size 192 i0 2 Tryz.underlying66 hii (.slice a1 i c1) i (chdCells (l.take i)) (by simp [Act.eval, Act.put]) HO1.out (by simp [Act.eval, Act.put]) ?_)
          | (refine step_append_own _ (by rfl) (.tmp 23) (.tmp 27) 66 (by rfl) w.heap.size 192 i0 _ 2 24 Tryz.underlying66 hii hz0 hz1 hz2 (by rfl) (by omega) (.slice a1 i c1) i (chdCells (l.take i)) (by simp [Act.eval, Act.put]) HO1.out ⟨b, (o + (i + 1) * 2), none⟩ q (c - (i + 1)) (chdCells (l.drop (i + 1))) (by simp [Act.eval, Act.put]) HL3.out (HS3.out _ (.inr rfl) _ HB1.out) (chdCells_one _) (by unfold maxLen; omega) (by omega) HB1.out.size ?_; intro v3 u3 hown3 hg3 hat3; have HO3 := Lib.hid hown3; have HB3 := Lib.hid (HB1.out.grown hg3 HB1.out.size (fun k hk => (HO1.out.lt k hk).1)); clear hown3 hg3 hat3))
        all_goals (
          obtain ⟨a9, c9, rfl, HO9, HB9⟩ := HFin.out v3 u3 (by rw [show N = i + q from by have := HN.out; omega, ← HCat.out, HX0.out]; simpa [chdCells] using HO3.out) HB3.out
          go_wp2_with fail
          go_meet
          exact ⟨a9, c9, rfl, HO9, HB9⟩)
    | some ad =>
      have HSx := Lib.hid (chds_src HXs.out.chds)
      have HLx : Hid ((chdCells xs).length = m * 2) := Lib.hid (by rw [chdCells_len, hxl])
      clear hxl hxn
      by_cases hcc : i + 1 = c
      · have hq0 : q = 0 := by omega
        subst hq0
        go_region_law (first
          | (refine step_append_own _ (by rfl) (.const (.slice none 0 0)) (.tmp 20) 66 (by rfl) w.heap.size 192 i0 _ 2 24 Tryz.underlying66 hii hz0 hz1 hz2 (by rfl) (by omega) (.slice none 0 0) 0 [] (by simp [Act.eval]) (World.ownsRow_nil _ _ _ _) ⟨b, o, none⟩ i c (chdCells (l.take i)) (by simp [Act.eval, Act.put]) HL1.out (HS1.out _ (Below.drew (Below.refl _ _))) (chdCells_one _) (by unfold maxLen; omega) (by omega) (by simp) ?_; intro v1 u1 hown1 hg1 hat1; rw [Nat.zero_add, List.nil_append] at hown1; have HO1 := Lib.hid hown1; have HB1 := Lib.hid ((Below.drew (Below.refl w.heap.size w)).grown hg1 (by simp) (fun k hk => by cases hk)); obtain ⟨a1, c1, hv1, _⟩ := own_shape hown1; subst hv1; clear hown1 hg1 hat1)
          | (refine step_append_own _ (by rfl) (.tmp 21) (.tmp 22) 66 (by rfl) w.heap.size 192 i0 _ 2 24 Tryz.underlying66 hii hz0 hz1 hz2 (by rfl) (by omega) (.slice a1 i c1) i (chdCells (l.take i)) (by simp [Act.eval, Act.put]) HO1.out ad m d (chdCells xs) (by simp [Act.eval, Act.put]) HLx.out (HSx.out _ HB1.out) (chdCells_one _) (by unfold maxLen; omega) (by omega) HB1.out.size ?_; intro v2 u2 hown2 hg2 hat2; have HO2 := Lib.hid hown2; have HB2 := Lib.hid (HB1.out.grown hg2 HB1.out.size (fun k hk => (HO1.out.lt k hk).1)); obtain ⟨a2, c2, hv2, _⟩ := own_shape hown2; subst hv2; clear hown2 hg2 hat2)
          | (refine step_append_own _ (by rfl) (.tmp 23) (.tmp 27) 66 (by rfl) w.heap.size 192 i0 _ 2 24 Tryz.underlying66 hii hz0 hz1 hz2 (by rfl) (by omega) (.slice a2 (i + m) c2) (i + m) (chdCells (l.take i) ++ chdCells xs) (by simp [Act.eval, Act.put]) HO2.out ⟨b, o, none⟩ 0 0 (chdCells (l.drop (i + 1))) (by simp [Act.eval, Act.put]) HL3.out (HS3.out _ (.inl rfl) _ HB2.out) (chdCells_one _) (by unfold maxLen; omega) (by omega) HB2.out.size ?_; intro v3 u3 hown3 hg3 hat3; have HO3 := Lib.hid hown3; have HB3 := Lib.hid (HB2.out.grown hg3 HB2.out.size (fun k hk => (HO2.out.lt k hk).1)); clear hown3 hg3 hat3))
        all_goals (
          obtain ⟨a9, c9, rfl, HO9, HB9⟩ := HFin.out v3 u3 (by rw [HN.out, ← HCat.out]; exact HO3.out) HB3.out
          go_wp2_with fail
          go_meet
          exact ⟨a9, c9, rfl, HO9, HB9⟩)
      · have hcc2 : ¬ c = i + 1 := fun h => hcc h.symm
        go_region_law (first
          | (refine step_append_own _ (by rfl) (.const (.slice none 0 0)) (.tmp 20) 66 (by rfl) w.heap.size 192 i0 _ 2 24 Tryz.underlying66 hii hz0 hz1 hz2 (by rfl) (by omega) (.slice none 0 0) 0 [] (by simp [Act.eval]) (World.ownsRow_nil _ _ _ _) ⟨b, o, none⟩ i c (chdCells (l.take i)) (by simp [Act.eval, Act.put]) HL1.out (HS1.out _ (Below.drew (Below.refl _ _))) (chdCells_one _) (by unfold maxLen; omega) (by omega) (by simp) ?_; intro v1 u1 hown1 hg1 hat1; rw [Nat.zero_add, List.nil_append] at hown1; have HO1 := Lib.hid hown1; have HB1 := Lib.hid ((Below.drew (Below.refl w.heap.size w)).grown hg1 (by simp) (fun k hk => by cases hk)); obtain ⟨a1, c1, hv1, _⟩ := own_shape hown1; subst hv1; clear hown1 hg1 hat1)
          | (refine step_append_own _ (by rfl) (.tmp 21) (.tmp 22) 66 (by rfl) w.heap.size 192 i0 _ 2 24 Tryz.underlying66 hii hz0 hz1 hz2 (by rfl) (by omega) (.slice a1 i c1) i (chdCells (l.take i)) (by simp [Act.eval, Act.put]) HO1.out ad m d (chdCells xs) (by simp [Act.eval, Act.put]) HLx.out (HSx.out _ HB1.out) (chdCells_one _) (by unfold maxLen; omega) (by omega) HB1.out.size ?_; intro v2 u2 hown2 hg2 hat2; have HO2 := Lib.hid hown2; have HB2 := Lib.hid (HB1.out.grown hg2 HB1.out.size (fun k hk => (HO1.out.lt k hk).1)); obtain ⟨a2, c2, hv2, _⟩ := own_shape hown2; subst hv2; clear hown2 hg2 hat2)
          | (refine step_append_own _ (by rfl) (.tmp 23) (.tmp 27) 66 (by rfl) w.heap.size 192 i0 _ 2 24 Tryz.underlying66 hii hz0 hz1 hz2 (by rfl) (by omega) (.slice a2 (i + m) c2) (i + m) (chdCells (l.take i) ++ chdCells xs) (by simp [Act.eval, Act.put]) HO2.out ⟨b, (o + (i + 1) * 2), none⟩ q (c - (i + 1)) (chdCells (l.drop (i + 1))) (by simp [Act.eval, Act.put]) HL3.out (HS3.out _ (.inr rfl) _ HB2.out) (chdCells_one _) (by unfold maxLen; omega) (by omega) HB2.out.size ?_; intro v3 u3 hown3 hg3 hat3; have HO3 := Lib.hid hown3; have HB3 := Lib.hid (HB2.out.grown hg3 HB2.out.size (fun k hk => (HO2.out.lt k hk).1)); clear hown3 hg3 hat3))
        all_goals (
          obtain ⟨a9, c9, rfl, HO9, HB9⟩ := HFin.out v3 u3 (by rw [HN.out, ← HCat.out]; exact HO3.out) HB3.out
          go_wp2_with fail
          go_meet
          exact ⟨a9, c9, rfl, HO9, HB9⟩)
  case rest =>
    obtain ⟨ao', cap', rfl, HO, HB⟩ := hcut
    clear w0 w2 w3 w4 w5 w6 w7 w8 w1 w1b w1c w1p hxl hxn hqn HFin
    by_cases h0 : N = 0
    · subst h0
      have hL0 : L = [] := List.eq_nil_of_length_eq_zero HLl.out
      go_wp2_with fail
      go_ret
      exact ⟨ao', cap', rfl, by rw [HRp.out, hL0]; rw [hL0] at HO; exact HO.out, HB.out⟩
    · obtain ⟨g, cap2, hv, hgb, hglt⟩ := HO.out.form (by omega)
      injection hv with hv _ hcv
      subst hv
      subst hcv
      have hLne : L ≠ [] := fun h => by have := HLl.out; rw [h] at this; simp at this; omega
      obtain ⟨e0, hLc⟩ : ∃ e r, L = e :: r := by cases L with
        | nil => exact absurd rfl hLne
        | cons e r => exact ⟨e, r, rfl⟩
      obtain ⟨r0, hLc⟩ := hLc
      have q1 : wc.cell? ⟨g, 0, none⟩ = some (.string e0.key) := by rw [HO.out.cellAt 0 (by omega), hLc]; rfl
      have q2 : wc.frozen? ⟨g, 0, none⟩ = false := HO.out.frozenAt _
      have hd : decide (0 < N) = true := by simp; omega
      have hp : 0 < N := by omega
      have HLC := Lib.hid (And.intro hLne hLc)
      clear h0 hLne hLc
      go_wp2_with fail
      go_ret
      exact ⟨some ⟨g, 0, none⟩, cap', rfl, by
        have h2 := (HO.out.stored 0 (.string ⟨#[]⟩)).1
        rw [clear0_cells L HLC.out.1, ← HRp.out] at h2
        exact h2, HB.out.setCell hgb _⟩
end
/-! ### The walk of arboretumref7's SplitBranch, and of branch.Split of one child and of none. -/
section
open Go.RowKit
set_option linter.unusedVariables false
set_option linter.unusedSimpArgs false
/-- What both answer of less than two children. -/
def FewRes (l : List Chd) (n : Nat) (w : World) (e : Ending) (w' : World) : Prop :=
  ∃ ao ca, e = .returned (.tuple #[.slice ao n ca, .slice none 0 0]) ∧ w'.ownsRow w.heap.size 192 2 (.slice ao n ca) n (chdCells l) ∧ Below w.heap.size w w'
theorem own_none {w w' : World} {base : Nat} {e : TypeId} {size n : Nat} {v : Value} {xs : List Value} (h : w.ownsRow base e size v n xs) (hg : w.grownBy w' (Value.slice none 0 0).ownBlock) : w'.ownsRow base e size v n xs :=
  h.kept hg (by cases hv : v.ownBlock with | none => exact .inl rfl | some g => exact .inr (by intro e; cases e))
set_option maxRecDepth 20000 in
set_option maxHeartbeats 2000000 in
theorem splitC_few {w : World} {ao : Option Addr} {n c : Nat} {l : List Chd} (hE : ChSrc w w.heap.size ao n c l) (hn : n < 2) :
    Calls Tryz.prog 41 #[.slice ao n c] w (FewRes l n w) := by
  have HCl := Lib.hid (cloneC_any ao n c l w hE.chds (by omega) (fun h => (hE.nil_ h).1))
  have h1 : (n : Int) < 2 := by omega
  clear hE
  go_enter Tryz.func41, Tryz.ntmps41
  go_wp2_with fail
  refine HCl.out.mono ?_
  rintro e w1 ⟨a1, c1, rfl, ho, hb⟩
  go_wp2_with fail
  go_ret2
  exact ⟨a1, c1, rfl, ho, hb⟩
set_option maxRecDepth 20000 in
set_option maxHeartbeats 2000000 in
theorem rsplitC_few {w : World} {ao : Option Addr} {n c : Nat} {l : List Chd} (hE : ChSrc w w.heap.size ao n c l) (hn : n < 2) :
    Calls Tryz.prog 42 #[.slice ao n c] w (FewRes l n w) := by
  obtain ⟨i0, hii, hz0, hz1, hz2⟩ := info_parts chdInfoR
  have hll := hE.chds.1
  have h1 : (n : Int) < 2 := by omega
  cases ao with
  | none =>
    obtain ⟨hn0, hc0⟩ := hE.nil_ rfl
    subst hn0 hc0
    have hl0 : l = [] := List.eq_nil_of_length_eq_zero hll
    subst hl0
    clear hE hll
    go_enter Tryz.func42, Tryz.ntmps42
    go_wp2_with (at_builtin; refine wpList_append_own_none rfl (.const (.slice none 0 0)) (.tmp 11) 66 rfl w.heap.size 192 i0 2 Tryz.underlying66 hii _ 0 [] rfl (World.ownsRow_nil _ _ _ _) rfl ?_)
    go_ret2
    exact ⟨none, 0, rfl, World.ownsRow_nil _ _ _ _, Below.refl _ _⟩
  | some ad =>
    have HC := Lib.hid (chds_src hE.chds)
    have HLen : Hid ((chdCells l).length = n * 2) := Lib.hid (by rw [chdCells_len, hll])
    clear hE hll
    go_enter Tryz.func42, Tryz.ntmps42
    go_wp2_with (at_builtin; refine wpList_append_own_at _ rfl (.const (.slice none 0 0)) (.tmp 11) 66 rfl w.heap.size 192 i0 _ 2 24 Tryz.underlying66 hii hz0 hz1 hz2 rfl (by omega) _ 0 [] rfl (World.ownsRow_nil _ _ _ _) ad n c (chdCells l) rfl HLen.out (HC.out _ (Below.refl _ _)) (chdCells_one l) (by unfold maxLen; omega) (by omega) (by simp) ?_; intro v1 w8 hown8 hg8 _ _; rw [Nat.zero_add, List.nil_append] at hown8; obtain ⟨a8, c8, hv8, _⟩ := own_shape hown8; subst hv8; have HO8 := Lib.hid hown8; have HB8 := Lib.hid ((Below.refl w.heap.size w).grown hg8 (by simp) (fun k hk => by cases hk)); clear hown8 hg8)
    go_ret2
    exact ⟨a8, c8, rfl, HO8.out, HB8.out⟩
set_option maxRecDepth 100000 in
set_option maxHeartbeats 8000000 in
theorem rsplitC_any {w : World} {b o n c : Nat} {l : List Chd} (h : ChdsOk w (some ⟨b, o, none⟩) n l) (hnc : n ≤ c) (hc : c ≤ 9223372036854775807) (h2 : 2 ≤ n) (hn : n ≤ 1000000) :
    Calls Tryz.prog 42 #[.slice (some ⟨b, o, none⟩) n c] w (SplitFRes l n w) := by
  obtain ⟨i0, hii, hz0, hz1, hz2⟩ := info_parts chdInfoR
  have HSa : Hid (∀ i, i ≤ n → ∀ W, Below w.heap.size w W → Calls Tryz.prog 46 #[.slice (some ⟨b, o, none⟩) i c] W fun e w' => e = .returned (.int .i64 (layB (l.take i)).length) ∧ Below W.heap.size W w') := Lib.hid (fun i hi W hW => rsizeC_any ((h.below hW).takeC hi))
  have HSb : Hid (∀ i c2, i ≤ n → ∀ W, Below w.heap.size w W → Calls Tryz.prog 46 #[.slice (some ⟨b, o + i * 2, none⟩) (n - i) c2] W fun e w' => e = .returned (.int .i64 (layB (l.drop i)).length) ∧ Below W.heap.size W w') := Lib.hid (fun i c2 hi W hW => rsizeC_any ((h.below hW).dropC hi))
  have HTa : Hid (∀ i, i ≤ n → ∀ W, Below w.heap.size w W → ∀ j u, (chdCells (l.take i))[j]? = some u → W.cell? ((⟨b, o, none⟩ : Addr).add j) = some u) := Lib.hid (fun i hi => chds_src (h.chds.take hi))
  have HTb : Hid (∀ i, i ≤ n → ∀ W, Below w.heap.size w W → ∀ j u, (chdCells (l.drop i))[j]? = some u → W.cell? ((⟨b, o + i * 2, none⟩ : Addr).add j) = some u) := Lib.hid (fun i hi => chds_src (h.chds.drop hi))
  have HLn := Lib.hid h.len
  have HBy : Hid (∀ i, (layB (l.take i)).length ≤ 17600000000000 ∧ (layB (l.drop i)).length ≤ 17600000000000) := Lib.hid (fun i => by
    have h1 := h.bytes
    have e : layB l = layB (l.take i) ++ layB (l.drop i) := by rw [← layB_append, List.take_append_drop]
    rw [e, List.length_append] at h1
    omega)
  have h3 : ¬ (n : Int) < 2 := by omega
  clear h
  go_enter Tryz.func42, Tryz.ntmps42
  go_wp2_with fail
  go_loopw [4, 5, 6] (fun bs at_ x wr => ∃ (i best size : Nat), at_ = .int .i64 best ∧ x = .int .i64 i ∧ bs = .int .i64 size ∧ 1 ≤ i ∧ i ≤ n ∧ best < i ∧ Hid (BestF l i best) ∧ Hid (best ≠ 0 → size = partC l best) ∧ size ≤ 17600000000000 ∧ Hid (Below w.heap.size w wr)) (fun _ _ x _ => n - (intOf x).toNat)
  case atStart => exact ⟨1, 0, 0, rfl, rfl, rfl, by omega, by omega, by omega, Lib.hid (.inl ⟨rfl, rfl⟩), Lib.hid (fun h => absurd rfl h), by omega, Lib.hid (Below.refl _ _)⟩
  case round =>
    obtain ⟨i, best, size, rfl, rfl, rfl, hi1, hin, hbi, HBs, HSz, hsz, HB⟩ := hrel
    by_cases hlt : i < n
    · have x1 : (i : Int) < n := by omega
      have x2 : (0 : Int) ≤ i := by omega
      have x3 : (i : Int) ≤ c := by omega
      have x4 : ¬ i = c := by omega
      have x5 : ¬ c = i := by omega
      have x6 : (i : Int) ≤ n := by omega
      have x7 : (n : Int) ≤ c := by omega
      have HA := Lib.hid (HSa.out i hin)
      have HD := Lib.hid (HSb.out i (c - i) hin)
      have hby := HBy.out i
      obtain ⟨La, hLa⟩ : ∃ La, La = (layB (l.take i)).length := ⟨_, rfl⟩
      obtain ⟨Lb, hLb⟩ : ∃ Lb, Lb = (layB (l.drop i)).length := ⟨_, rfl⟩
      rw [← hLa] at HA hby
      rw [← hLb] at HD hby
      have HPt : Hid (partC l i = max La Lb) := Lib.hid (by unfold partC; rw [hLa, hLb])
      clear hLa hLb
      obtain ⟨hba, hbb⟩ := hby
      have hbr := HB.out
      go_wp2_with fail
      go_cut [7] from 13 to 36 (fun s wx => ∃ M : Nat, s = .int .i64 M ∧ Hid (M = partC l i) ∧ M ≤ 17600000000000 ∧ Hid (Below w.heap.size w wx))
      case first =>
        go_region_with (first
          | (go_at_call 46; ((with_reducible refine (HA.out _ (by (first | exact hbr | exact hbr.drew | exact hv5 | exact hv6))).mono ?_); rintro e5 w5 ⟨rfl, hb5⟩; have hv5 : Below w.heap.size w w5 := (by first | exact hbr.trans (hb5.mono hbr.size) | exact (hbr.drew).trans (hb5.mono hbr.size) | exact hv6.trans (hb5.mono hv6.size))))
          | (go_at_call 46; ((with_reducible refine (HD.out _ (by (first | exact hbr | exact hbr.drew | exact hv5 | exact hv6))).mono ?_); rintro e6 w6 ⟨rfl, hb6⟩; have hv6 : Below w.heap.size w w6 := (by first | exact hbr.trans (hb6.mono hbr.size) | exact (hbr.drew).trans (hb6.mono hbr.size) | exact hv5.trans (hb6.mono hv5.size)))))
        all_goals (
          have hz : Below w.heap.size w w5 ∧ Below w.heap.size w w6 := ⟨hv5, hv6⟩
          go_wp2_with fail
          all_goals (
            go_meet
            exact ⟨_, rfl, Lib.hid (by rw [HPt.out]; omega), by omega, Lib.hid (by first | exact hz.1 | exact hz.2)⟩))
      case rest =>
        obtain ⟨M, rfl, HM, hM, HBw⟩ := hcut
        clear HA HD hba hbb hbr HB
        by_cases hb0 : best = 0
        · have hi1' : i = 1 := by
            rcases HBs.out with ⟨a, _⟩ | ⟨a, _, _⟩
            · exact a
            · omega
          have d0 : ((i : Int) == 1) = true := by rw [hi1']; rfl
          have HN := Lib.hid (HBs.out.take hi1 (.inl hb0))
          clear hb0 hi1'
          go_wp2_with fail
          go_roundw
          case rel => exact ⟨i + 1, i, M, rfl, by go_num, rfl, by omega, by omega, by omega, HN, Lib.hid (fun _ => HM.out), hM, HBw⟩
          case measure => simp [intOf]; omega
        · have hi1' : i ≠ 1 := by
            rcases HBs.out with ⟨_, a⟩ | ⟨a, a2, _⟩
            · exact absurd a hb0
            · omega
          have d0 : ((i : Int) == 1) = false := by rw [beq_eq_false_iff_ne]; omega
          by_cases hMs : M < size
          · have d1 : decide (M < size) = true := by simpa using hMs
            have d1' : decide ((M : Int) < (size : Int)) = true := by simp; omega
            have HN := Lib.hid (HBs.out.take hi1 (.inr (by rw [← HM.out, ← HSz.out hb0]; exact hMs)))
            clear hb0 hi1'
            go_wp2_with fail
            go_roundw
            case rel => exact ⟨i + 1, i, M, rfl, by go_num, rfl, by omega, by omega, by omega, HN, Lib.hid (fun _ => HM.out), hM, HBw⟩
            case measure => simp [intOf]; omega
          · have d1 : decide (M < size) = false := by simpa using hMs
            have d1' : decide ((M : Int) < (size : Int)) = false := by simp; omega
            have HN := Lib.hid (HBs.out.stay hi1 hb0 (by rw [← HM.out, ← HSz.out hb0]; omega))
            clear hb0 hi1'
            go_wp2_with fail
            go_roundw
            case rel => exact ⟨i + 1, best, size, rfl, by go_num, rfl, by omega, by omega, by omega, HN, HSz, hsz, HBw⟩
            case measure => simp [intOf]; omega
    · obtain rfl : i = n := by omega
      have hok : SplitFOk l best ∧ best ≠ 0 ∧ best < i := by
        rcases HBs.out with ⟨h1, _⟩ | ⟨h1, h2', h3⟩
        · omega
        · exact ⟨⟨h1, by rw [HLn.out]; exact h2', fun j a b' => h3 j a (by rw [HLn.out] at b'; exact b')⟩, by omega, h2'⟩
      obtain ⟨hok1, hok2, hok3⟩ := hok
      have HOk := Lib.hid hok1
      have x1 : (0 : Int) ≤ best := by omega
      have x2 : (best : Int) ≤ c := by omega
      have x3 : (best : Int) ≤ i := by omega
      have x4 : ¬ best = c := by omega
      have x4' : ¬ c = best := by omega
      have x5 : (i : Int) ≤ c := by omega
      have HS1 := Lib.hid (HTa.out best (by omega))
      have HS2 := Lib.hid (HTb.out best (by omega))
      have HL1 : Hid ((chdCells (l.take best)).length = best * 2) := Lib.hid (by rw [chdCells_len, List.length_take, HLn.out, Nat.min_eq_left (by omega)])
      have HL2 : Hid ((chdCells (l.drop best)).length = (i - best) * 2) := Lib.hid (by rw [chdCells_len, List.length_drop, HLn.out])
      have hbr := HB.out
      have hbd : Hid (Below w.heap.size w wr.drew) := Lib.hid hbr.drew
      clear hok1 HSz HBs HTa HTb HSa HSb HB hbr
      go_wp2_with fail
      go_region_law (first
        | (refine step_append_own _ (by rfl) (.const (.slice none 0 0)) (.tmp 39) 66 (by rfl) w.heap.size 192 i0 _ 2 24 Tryz.underlying66 hii hz0 hz1 hz2 (by rfl) (by omega) (.slice none 0 0) 0 [] (by simp [Act.eval]) (World.ownsRow_nil _ _ _ _) ⟨b, o, none⟩ best c (chdCells (l.take best)) (by simp [Act.eval, Act.put]) HL1.out (HS1.out _ (by first | exact hbd.out | exact HB2.out)) (chdCells_one _) (by unfold maxLen; omega) (by omega) (by first | exact HB2.out.size | exact hbd.out.size) ?_; intro v1 u1 hown1 hg1 hat1; rw [Nat.zero_add, List.nil_append] at hown1; have HO1 := Lib.hid hown1; have HB1 : Hid (Below w.heap.size w u1) := Lib.hid (by first | exact HB2.out.grown hg1 HB2.out.size (fun k hk => by cases hk) | exact hbd.out.grown hg1 hbd.out.size (fun k hk => by cases hk)); obtain ⟨a1, e1, hv1, _⟩ := own_shape hown1; subst hv1; clear hat1 hown1)
        | (refine step_append_own _ (by rfl) (.const (.slice none 0 0)) (.tmp 43) 66 (by rfl) w.heap.size 192 i0 _ 2 24 Tryz.underlying66 hii hz0 hz1 hz2 (by rfl) (by omega) (.slice none 0 0) 0 [] (by simp [Act.eval]) (World.ownsRow_nil _ _ _ _) ⟨b, o + best * 2, none⟩ (i - best) (c - best) (chdCells (l.drop best)) (by simp [Act.eval, Act.put]) HL2.out (HS2.out _ (by first | exact hbd.out | exact HB1.out)) (chdCells_one _) (by unfold maxLen; omega) (by omega) (by first | exact HB1.out.size | exact hbd.out.size) ?_; intro v2 u2 hown2 hg2 hat2; rw [Nat.zero_add, List.nil_append] at hown2; have HO2 := Lib.hid hown2; have HB2 : Hid (Below w.heap.size w u2) := Lib.hid (by first | exact HB1.out.grown hg2 HB1.out.size (fun k hk => by cases hk) | exact hbd.out.grown hg2 hbd.out.size (fun k hk => by cases hk)); obtain ⟨a2, e2, hv2, _⟩ := own_shape hown2; subst hv2; clear hat2 hown2))
      all_goals (
        have HG1 := Lib.hid hg1
        have HG2 := Lib.hid hg2
        clear hg1 hg2
        go_wp2_with fail
        go_ret2
        exact ⟨best, a1, e1, a2, e2, rfl, HOk.out, (by first | exact HO1.out | exact own_none HO1.out HG2.out), (by first | exact HO2.out | exact own_none HO2.out HG1.out), by first | exact HB1.out | exact HB2.out⟩)
end
end Go.Proofs.YtmdidmllaldbaaaGreat
