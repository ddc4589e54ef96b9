/- The walks of a Book's lists of one kind: Pairs (printed by wip/gen_book.py). -/
import Derived.Test.YtmdidmllaldbaaaGreatBook
import Derived.Test.YtmdidmllaldbaaaGreatSince
import Derived.Test.YtmdidmllaldbaaaGreatChecked
import Derived.Test.YtmdidmllaldbaaaGreatPairB
import Derived.Test.YtmdidmllaldbaaaGreatBkN
import Derived.BigQuiet
import Derived.Deep.RegionLaw
import Derived.Laws.AppendOwnNone
import Derived.Deep.RegionWith
namespace Go.Proofs.YtmdidmllaldbaaaGreat
open Go.RowKit
set_option linter.unusedVariables false
set_option linter.unusedSimpArgs false
theorem bkInfoP : (Tryz.prog.info? 202).map (fun i => (i.zero, i.size, i.bytes)) = some (some (.agg #[.string ⟨#[]⟩, .string ⟨#[]⟩]), 2, 32) := by kernel_rfl
theorem bkRowP : (Tryz.prog.info? 116).map (fun i => (i.zero, i.size, i.bytes)) = some (some (.slice none 0 0), 1, 24) := by kernel_rfl
def mkP (i k : Nat) : Par := ⟨nameS i k, ⟨#[]⟩⟩
set_option maxRecDepth 20000 in
set_option maxHeartbeats 1000000 in
theorem markP_any (i fr n : Nat) (w : World) (hi1 : i ≤ 1000) (hn : fr + n ≤ 1000000) :
    Calls Tryz.prog 228 #[.int .i64 i, .int .i64 fr, .int .i64 n] w fun e w' => ∃ ao c, e = .returned (.slice ao n c) ∧ w'.ownsRow w.heap.size 202 2 (.slice ao n c) n (parCells ((List.range n).map (fun k => mkP i (fr + k)))) ∧ Below w.heap.size w w' := by
  obtain ⟨i0, hi, hz0, hz1, hz2⟩ := info_parts bkInfoP
  have HL : Hid (∀ m, (parCells ((List.range m).map (fun k => mkP i (fr + k)))) ++ [.string (nameS i (fr + m)), .string ⟨#[]⟩] = parCells ((List.range (m + 1)).map (fun k => mkP i (fr + k)))) := Lib.hid (by
    intro m
    rw [List.range_succ, List.map_append, parCells_append]
    simp [parCells, Par.cells, mkP])
  go_enter Tryz.func228, Tryz.ntmps228
  go_wp2_with fail
  go_loopw [7, 8] (fun l kk wr => ∃ (m : Nat) (ao : Option Addr) (c : Nat), m ≤ n ∧ kk = .int .i64 ((fr : Int) + m) ∧ l = .slice ao m c ∧ Hid (wr.ownsRow w.heap.size 202 2 (.slice ao m c) m (parCells ((List.range m).map (fun k => mkP i (fr + k))))) ∧ Hid (Below w.heap.size w wr)) (fun _ kk _ => fr + n - (intOf kk).toNat)
  case atStart => exact ⟨0, none, 0, Nat.zero_le _, by simp, rfl, Lib.hid (World.ownsRow_nil _ _ _ _), Lib.hid (Below.refl _ _)⟩
  case round =>
    obtain ⟨m, ao, c, hm, rfl, rfl, HO, HB⟩ := hrel
    have hsz := HB.out.size
    by_cases hlt : m < n
    · have hx1 : (fr : Int) + m < fr + n := by omega
      go_wp2_with fail
      refine (name_any i (fr + m) _ hi1 (by omega)).mono ?_
      rintro e wn ⟨rfl, hbn⟩
      have HO := Lib.hid (own_below HO.out hbn)
      have HB := Lib.hid (HB.out.trans (hbn.mono hsz))
      have hsz := HB.out.size
      clear hbn
      go_wp2_with (at_builtin; refine wpList_append_new rfl (.tmp 17) (.tmp 22) 116 rfl w.heap.size 202 i0 _ 2 32 Tryz.underlying116 hi hz0 hz1 hz2 rfl (by omega) _ m _ rfl HO.out hsz [.string (nameS i (fr + m)), .string ⟨#[]⟩] 1 rfl rfl rfl (by simp [Value.oneCell']) (by omega) (by omega) ?_; intro v1 w1 hown1 hg1 hb1 hs1 hat1; obtain ⟨g1, cap1, hv1, _⟩ := hat1; subst hv1; have HO1 := Lib.hid hown1; have HB1 := Lib.hid (hb1 w HB.out); clear hown1 hb1 hg1)
      go_roundw
      case rel => exact ⟨m + 1, some ⟨g1, 0, none⟩, cap1, by omega, by go_num, rfl, Lib.hid (by rw [← HL.out]; exact HO1.out), HB1⟩
      case measure => simp [intOf]; omega
    · obtain rfl : m = n := by omega
      go_wp2_with fail
      go_ret
      exact ⟨ao, c, rfl, HO.out, HB.out⟩
set_option maxHeartbeats 1000000 in
theorem bkSameP {w : World} {ao bo : Option Addr} {n c d : Nat} {l : List Par} (ha : Reads w (.slice ao n c) n (parCells l)) (hb : Reads w (.slice bo n d) n (parCells l)) (hl : l.length = n) (hn : n ≤ 1000000) :
    Calls Tryz.prog 198 #[.slice ao n c, .slice bo n d] w fun e w' => e = .returned (.bool true) ∧ Below w.heap.size w w' := by
  have HG : ∀ (xo : Option Addr) (q : Nat), Reads w (.slice xo n q) n (parCells l) → Hid (∀ k, k < n → ∃ g e, xo = some ⟨g, 0, none⟩ ∧ g < w.heap.size ∧ l[k]? = some e ∧ w.cell? ⟨g, k * 2, none⟩ = some (.string e.key) ∧ w.cell? ⟨g, k * 2 + 1, none⟩ = some (.string e.vl)) := fun xo q h => Lib.hid (fun k hk => by
    obtain ⟨ao', c', hv, _, _, _, h3⟩ := h
    injection hv with hv _ _
    subst hv
    obtain ⟨g, hg, hlt, hc⟩ := h3 (by omega)
    have hkl : k < l.length := by omega
    exact ⟨g, l[k], hg, hlt, List.getElem?_eq_getElem hkl, hc _ _ (by rw [show k * 2 = k * 2 + 0 from rfl, parCells_get _ k 0 (by omega), List.getElem?_eq_getElem hkl]; rfl), hc _ _ (by rw [parCells_get _ k 1 (by omega), List.getElem?_eq_getElem hkl]; rfl)⟩)
  have HA := HG _ _ ha
  have HB := HG _ _ hb
  clear ha hb HG hl
  go_enter Tryz.func198, Tryz.ntmps198
  go_wp2_with fail
  go_loopw [5] (fun i wr => ∃ k : Nat, k ≤ n ∧ i = .int .i64 k ∧ ∃ q, wr = w.drewN q) (fun i _ => n - (intOf i).toNat)
  case atStart => exact ⟨0, Nat.zero_le _, rfl, 0, rfl⟩
  case round =>
    obtain ⟨k, hk, rfl, q, rfl⟩ := hrel
    by_cases hlt : k < n
    · obtain ⟨g, e, rfl, hgB, hek, q0, q1⟩ := HA.out k hlt
      obtain ⟨g', e', rfl, hgB', hek', r0, r1⟩ := HB.out k hlt
      rw [hek] at hek'
      injection hek' with hek'
      subst hek'
      have hx1 : (0 : Int) ≤ k := by omega
      have hx2 : (k : Int) < n := by omega
      clear hek
      go_wp2_with fail
      go_quiet (fail)
      go_wp2_with fail
      go_roundw
      case rel => exact ⟨k + 1, by omega, by go_num, _, rfl⟩
      case measure => simp [intOf]; omega
    · go_wp2_with fail
      go_ret
      exact ⟨rfl, below_drewN (Below.refl _ _) _⟩
theorem bkparCells_set : ∀ (l : List Par) (k : Nat) (x : Par), k < l.length → ((parCells l).set (k * 2) (.string x.key)).set (k * 2 + 1) (.string x.vl) = parCells (l.set k x) := by
  intro l
  induction l with
  | nil => intro k x h; simp at h
  | cons y l ih =>
    intro k x h
    have e0 : ∀ (z : Par) (r : List Par), parCells (z :: r) = [.string z.key, .string z.vl] ++ parCells r := fun z r => rfl
    cases k with
    | zero => rw [e0]; simp only [List.set_cons_zero]; rw [e0]; rfl
    | succ k =>
      rw [e0]
      simp only [List.set_cons_succ]
      rw [e0, ← ih k x (by simpa using h)]
      rw [show (k + 1) * 2 + 1 = k * 2 + 1 + 1 + 1 from by omega]
      rw [show (k + 1) * 2 = k * 2 + 1 + 1 from by omega]
      simp only [List.cons_append, List.nil_append, List.set_cons_succ]
set_option maxRecDepth 20000 in
set_option maxHeartbeats 2000000 in
theorem bputP_any {w : World} {B bn : Nat} {o : Nat → Tag} {cs : Array Value} {ov wv : Value} {rows : List (KRow Par)} (hB : BookAt w B 39 o bn cs) (hc : cs[8]? = some ov) (hK : Kept w B o 4 116 202 2 parCells ov wv rows) :
    Calls Tryz.prog 149 #[.pointer (some ⟨bn, 0, none⟩)] w fun e w' => e = .returned (.tuple #[]) ∧ Turn o (fun t => t.1 = 4 ∧ t.2.1 = 2) w w' ∧ Marked w' B o 4 116 202 2 parCells mkP ov (rows.map (fun r => (r.v, r.l.length))) := by
  have HK := Lib.hid hK
  have HB := Lib.hid hB
  have hbn : o bn = (99, 0, 0) := hB.2.2.2
  have hbl : bn < w.heap.size := blk_lt hB.1
  have hbc : Hid (∀ W, Turn o (fun t => t.1 = 4 ∧ t.2.1 = 2) w W → W.cell? ⟨bn, 8, none⟩ = some ov) := Lib.hid (fun W hT => by
    rw [blk_cell ((hT.block bn hbl (by rw [hbn]; simp)).trans hB.1)]; exact hc)
  obtain ⟨oa, oc, hov, hoc, _⟩ := own_shape hK.out
  subst hov
  have hN : rows.length ≤ 1000 := hK.few
  have hout : Hid (∀ W, Turn o (fun t => t.1 = 4 ∧ t.2.1 = 2) w W → ∀ i r, rows[i]? = some r → ∃ g, oa = some ⟨g, 0, none⟩ ∧ W.cell? ⟨g, i, none⟩ = some r.v) := Lib.hid (fun W hT i r hr => by
    have hi : i < rows.length := (List.getElem?_eq_some_iff.1 hr).1
    have h := own_turn hK.out hK.tout hT (by simp)
    obtain ⟨g, c', hv, _, _⟩ := h.form (by omega)
    injection hv with hv _ _
    subst hv
    exact ⟨g, rfl, by rw [h.cellAt i (by omega), List.getElem?_map, hr]; rfl⟩)
  have hfin : Hid (∀ W, Turn o (fun t => t.1 = 4 ∧ t.2.1 = 2) w W → PutAt w B 202 2 parCells mkP rows rows.length W → Marked W B o 4 116 202 2 parCells mkP (.slice oa rows.length oc) (rows.map (fun r => (r.v, r.l.length)))) := Lib.hid (fun W hT hP =>
    ⟨by simpa using hN, by simpa using hK.short, by rw [List.map_map, List.length_map]; exact own_turn hK.out hK.tout hT (by simp), hK.tout.more hK.out _, fun i r hr => by
      rw [List.getElem?_map] at hr
      cases hq : rows[i]? with
      | none => rw [hq] at hr; cases hr
      | some q =>
        rw [hq] at hr
        injection hr with hr
        subst hr
        have h := hP i q hq
        rw [if_pos (List.getElem?_eq_some_iff.1 hq).1] at h
        exact ⟨h, (hK.row i q hq).2.2.1.more (hK.row i q hq).1 _⟩⟩)
  clear hbn hbl hc hoc hB hK
  go_enter Tryz.func149, Tryz.ntmps149
  go_wp2_with fail
  go_loopw [2] (fun x wr => ∃ i : Nat, i ≤ rows.length ∧ x = .int .i64 i ∧ Hid (Turn o (fun t => t.1 = 4 ∧ t.2.1 = 2) w wr) ∧ Hid (PutAt w B 202 2 parCells mkP rows i wr)) (fun x _ => rows.length - (intOf x).toNat)
  case atStart => exact ⟨0, Nat.zero_le _, rfl, Lib.hid (Turn.refl _ _ _), Lib.hid (fun i' r hr => (HK.out.row i' r hr).1)⟩
  case round =>
    obtain ⟨i, hi, rfl, HT, HP⟩ := hrel
    rename World => wA
    have c0 := hbc.out wA HT.out
    by_cases hlt : i < rows.length
    · obtain ⟨r, hr⟩ : ∃ r, rows[i]? = some r := ⟨_, List.getElem?_eq_getElem hlt⟩
      obtain ⟨go, rfl, c1⟩ := hout.out wA HT.out i r hr
      have hrow := HK.out.row i r hr
      have hown := HP.out i r hr
      rw [if_neg (Nat.lt_irrefl _)] at hown
      obtain ⟨ra, rc, hrv, hrc, _⟩ := own_shape hown
      have hshort : r.l.length ≤ 100000 := HK.out.short r (List.mem_of_getElem? hr)
      have HOwn := Lib.hid hown
      have HR := Lib.hid hr
      have HRow := Lib.hid hrow
      obtain ⟨n, hn⟩ : ∃ n, n = r.l.length := ⟨_, rfl⟩
      rw [hrv] at c1
      rw [← hn] at hrv hrc hshort c1
      have HRv := Lib.hid hrv
      have HN := Lib.hid hn
      have hx1 : (i : Int) < rows.length := by omega
      have hx2 : (0 : Int) ≤ i := by omega
      clear hr hrow hown hrv hn
      go_wp2_with fail
      refine (markP_any i 0 n wA (by omega) (by omega)).mono ?_
      rintro e w1 ⟨ma, mc, rfl, hm, hb1⟩
      have HT1 := Lib.hid (HT.out.below hb1)
      have c0 := hbc.out w1 HT1.out
      obtain ⟨_, e1, c1⟩ := hout.out w1 HT1.out i r HR.out
      injection e1 with e1
      injection e1 with e1
      subst e1
      rw [HRv.out] at c1
      have HM := Lib.hid hm
      have HO1 := Lib.hid (own_below HOwn.out hb1)
      have HB1 := Lib.hid hb1
      clear hb1 hm
      go_wp2_with fail
      go_loopw [4] (fun x wq => ∃ k : Nat, k ≤ n ∧ x = .int .i64 k ∧ Hid (w1.grownBy wq r.v.ownBlock) ∧ Hid (wq.ownsRow B 202 2 r.v r.l.length (parCells (mix mkP i r.l k)))) (fun x _ => n - (intOf x).toNat)
      case atStart => exact ⟨0, Nat.zero_le _, rfl, Lib.hid (grown_refl _ _), Lib.hid (by rw [mix_zero]; exact HO1.out)⟩
      case round =>
        obtain ⟨k, hk, rfl, HG, HOk⟩ := hrel
        have HT2 : Hid (Turn o (fun t => t.1 = 4 ∧ t.2.1 = 2) w wr) := Lib.hid (HT1.out.grown HG.out (fun g hg hlt => by rw [HRow.out.2.2.1 g hg hlt]; exact ⟨rfl, rfl⟩))
        have c0 := hbc.out wr HT2.out
        obtain ⟨_, e1, c1⟩ := hout.out wr HT2.out i r HR.out
        injection e1 with e1
        injection e1 with e1
        subst e1
        by_cases hkl : k < n
        · obtain ⟨g, c', hv, hBg, hglt⟩ := HOk.out.form (by rw [← HN.out]; omega)
          have hgw : g < w.heap.size := (HRow.out.1.lt g (by rw [hv]; rfl)).2
          obtain ⟨gm, cm, hmv, hmB, _⟩ := HM.out.form (by omega)
          injection hmv with hmv _ hmc
          subst hmv
          subst hmc
          have hm2 : wr.ownsRow wA.heap.size 202 2 (.slice (some ⟨gm, 0, none⟩) n mc) n (parCells ((List.range n).map (fun k => mkP i (0 + k)))) := HM.out.kept HG.out (.inr (by
            rw [hv]
            have := HT.out.size
            simp [Value.ownBlock]
            omega))
          have c20 : wr.cell? ⟨gm, k * 2, none⟩ = some (.string (mkP i k).key) := by
            rw [hm2.cellAt (k * 2) (by omega), show k * 2 = k * 2 + 0 from rfl, parCells_get _ k 0 (by omega)]
            simp [hkl, Par.cells]
          have c21 : wr.cell? ⟨gm, k * 2 + 1, none⟩ = some (.string (mkP i k).vl) := by
            rw [hm2.cellAt (k * 2 + 1) (by omega), parCells_get _ k 1 (by omega)]
            simp [hkl, Par.cells]
          have hO2 := HOk.out
          rw [hv] at hO2 c1
          have hlen : (parCells (mix mkP i r.l k)).length = n * 2 := by rw [parCells_len, mix_len _ _ _ _ (by rw [← HN.out]; omega), ← HN.out]
          obtain ⟨u30, c30⟩ : ∃ u, wr.cell? ⟨g, k * 2, none⟩ = some u := by
            rw [hO2.cellAt (k * 2) (by rw [← HN.out]; omega)]
            exact ⟨_, List.getElem?_eq_getElem (by omega)⟩
          have f30 : wr.frozen? ⟨g, k * 2, none⟩ = false := hO2.frozenAt (k * 2)
          obtain ⟨u31, c31⟩ : ∃ u, wr.cell? ⟨g, k * 2 + 1, none⟩ = some u := by
            rw [hO2.cellAt (k * 2 + 1) (by rw [← HN.out]; omega)]
            exact ⟨_, List.getElem?_eq_getElem (by omega)⟩
          have f31 : wr.frozen? ⟨g, k * 2 + 1, none⟩ = false := hO2.frozenAt (k * 2 + 1)
          have hst0 := hO2.stored (k * 2) (.string (mkP i k).key)
          have hst1 := hst0.1.stored (k * 2 + 1) (.string (mkP i k).vl)
          rw [bkparCells_set _ _ _ (by rw [mix_len _ _ _ _ (by rw [← HN.out]; omega), ← HN.out]; exact hkl), ← mix_succ mkP i r.l k (by rw [← HN.out]; exact hkl)] at hst1
          have HSt := Lib.hid hst1.1
          have HSg := Lib.hid ((hst0.2).trans hst1.2)
          rw [← HN.out] at c1
          have hx3 : (0 : Int) ≤ k := by omega
          have hx4 : (k : Int) < n := by omega
          have hx5 : (i : Int) < rows.length := by omega
          have HHv := Lib.hid hv
          clear hst0 hst1 hO2 hm2 hv hlen
          go_wp2_with fail
          go_region
          all_goals (
            go_wp2_with fail
            go_roundw
            case rel =>
              rw [HHv.out] at HG ⊢
              exact ⟨k + 1, by omega, by go_num, Lib.hid ((HG.out.trans HSg.out).trans (grown_drewN _ 1 _)), HSt.out.drew⟩
            case measure => simp [intOf]; omega)
        · obtain rfl : k = n := by omega
          go_wp2_with fail
          go_roundw
          case rel =>
            refine ⟨i + 1, by omega, by go_num, HT2, Lib.hid (fun i' r' hr' => ?_)⟩
            by_cases hii : i' = i
            · subst hii
              rw [HR.out] at hr'
              injection hr' with hr'
              subst hr'
              rw [if_pos (Nat.lt_succ_self _), ← mix_all]
              have := HOk.out
              rw [HN.out] at this
              exact this
            · have h1 := HP.out i' r' hr'
              have h2 := HK.out.row i' r' hr'
              have h3 := (own_below h1 HB1.out).kept HG.out (row_ne (N := w.heap.size) h2.1 h2.2.2.1 HRow.out.2.2.1 (Nat.le_refl _) (by simp; exact hii))
              rw [show (if i' < i + 1 then (List.range r'.l.length).map (mkP i') else r'.l) = (if i' < i then (List.range r'.l.length).map (mkP i') else r'.l) from by
                by_cases h : i' < i
                · rw [if_pos h, if_pos (by omega)]
                · rw [if_neg h, if_neg (by omega)]]
              exact h3
          case measure => simp [intOf]; omega
    · obtain rfl : i = rows.length := by omega
      go_wp2_with fail
      go_end0
      exact ⟨rfl, HT.out, hfin.out _ HT.out HP.out⟩
set_option maxRecDepth 20000 in
set_option maxHeartbeats 4000000 in
theorem growP_any {w : World} {B bn : Nat} {o : Nat → Tag} {cs : Array Value} {ov : Value} {rows : List (Value × Nat)} (hB : BookAt w B 39 o bn cs) (hBw : B ≤ w.heap.size) (hc : cs[8]? = some ov) (hK : Marked w B o 4 116 202 2 parCells mkP ov rows) :
    Calls Tryz.prog 158 #[.pointer (some ⟨bn, 0, none⟩)] w fun e w' => ∃ gv o' grown, e = .returned gv ∧ Agree o o' w.heap.size ∧ Turn o (fun t => t.1 = 4 ∧ 2 ≤ t.2.1) w w' ∧ Looks w' B o' 4 116 parCells mkP ov gv rows grown := by
  obtain ⟨i0, hi, hz0, hz1, hz2⟩ := info_parts bkInfoP
  obtain ⟨i1, hj, hj0, hj1, hj2⟩ := info_parts bkRowP
  have HK := Lib.hid hK
  have hbn : o bn = (99, 0, 0) := hB.2.2.2
  have hbl : bn < w.heap.size := blk_lt hB.1
  have hbc : Hid (∀ W, Turn o (fun t => t.1 = 4 ∧ 2 ≤ t.2.1) w W → W.cell? ⟨bn, 8, none⟩ = some ov) := Lib.hid (fun W hT => by
    rw [blk_cell ((hT.block bn hbl (by rw [hbn]; simp)).trans hB.1)]; exact hc)
  obtain ⟨oa, oc, hov, hoc, _⟩ := own_shape hK.out
  subst hov
  have hN : rows.length ≤ 1000 := hK.few
  have hout : Hid (∀ W, Turn o (fun t => t.1 = 4 ∧ 2 ≤ t.2.1) w W → ∀ i r, rows[i]? = some r → ∃ g, oa = some ⟨g, 0, none⟩ ∧ W.cell? ⟨g, i, none⟩ = some r.1) := Lib.hid (fun W hT i r hr => by
    have hi : i < rows.length := (List.getElem?_eq_some_iff.1 hr).1
    have h := own_turn hK.out hK.tout hT (by simp)
    obtain ⟨g, c', hv, _, _⟩ := h.form (by omega)
    injection hv with hv _ _
    subst hv
    exact ⟨g, rfl, by rw [h.cellAt i (by omega), List.getElem?_map, hr]; rfl⟩)
  clear hbn hbl hc hoc hB hK
  go_enter Tryz.func158, Tryz.ntmps158
  go_wp2_with fail
  go_loopw [3, 4] (fun ot x wr => ∃ (i : Nat) (done : List (Value × Nat)) (oi : Nat → Tag) (da : Option Addr) (dc : Nat), i ≤ rows.length ∧ x = .int .i64 i ∧ ot = .slice da i dc ∧ Hid (GrowAt w B o 4 116 202 2 parCells mkP rows i done oi wr ot)) (fun _ x _ => rows.length - (intOf x).toNat)
  case atStart => exact ⟨0, [], o, none, 0, Nat.zero_le _, rfl, rfl, Lib.hid (GrowAt.start HK.out)⟩
  case round =>
    obtain ⟨i, done, oi, da, dc, hi1, rfl, rfl, HA⟩ := hrel
    rename World => wA
    have hT := HA.out.turn
    have c0 := hbc.out wA hT
    have hBA : B ≤ wA.heap.size := Nat.le_trans hBw hT.size
    by_cases hlt : i < rows.length
    · obtain ⟨⟨rv, n⟩, hr⟩ : ∃ r, rows[i]? = some r := ⟨_, List.getElem?_eq_getElem hlt⟩
      obtain ⟨go, rfl, c1⟩ := hout.out wA hT i _ hr
      have hshort : n ≤ 100000 := HK.out.short _ (List.mem_of_getElem? hr)
      have HR := Lib.hid hr
      have HL0 := Lib.hid (HA.out.row hr)
      obtain ⟨ra, rc, hrv, hrc, _⟩ := own_shape HL0.out.own
      dsimp only at hrv
      rw [Nat.add_zero] at hrv hrc
      subst hrv
      have hx1 : (i : Int) < rows.length := by omega
      have hx2 : (0 : Int) ≤ i := by omega
      clear hr hT
      go_wp2_with fail
      go_loopw [5, 6] (fun l x wq => ∃ (m : Nat) (la : Option Addr) (lc : Nat), m ≤ 12 ∧ x = .int .i64 m ∧ l = .slice la (n + m) lc ∧ Hid (GrowL wA oi 4 i B 202 2 parCells mkP (.slice ra n rc) n m l wq)) (fun _ x _ => 12 - (intOf x).toNat)
      case atStart => exact ⟨0, ra, rc, by omega, rfl, rfl, HL0⟩
      case round =>
        obtain ⟨m, la, lc, hm, rfl, rfl, HL⟩ := hrel
        by_cases hml : m < 12
        · have hx3 : (m : Int) < 12 := by omega
          go_wp2_with fail
          refine (markP_any i (n + m) 1 wr (by omega) (by omega)).mono ?_
          rintro e w1 ⟨ma, mc, rfl, hmo, hb1⟩
          obtain ⟨gm, cm, hmv, _, _⟩ := hmo.form (by omega)
          injection hmv with hmv _ hmc
          subst hmv
          subst hmc
          have HO1 := Lib.hid (own_below HL.out.own hb1)
          have HMo := Lib.hid hmo
          have HMc := Lib.hid (hmo.cells (g := gm) rfl)
          have hB1 : B ≤ w1.heap.size := Nat.le_trans hBA (HL.out.turn.below hb1).size
          have HB1 := Lib.hid hb1
          clear hmo hb1
          go_wp2_with (at_builtin; refine wpList_append_own_old _ rfl (.tmp 27) (.tmp 31) 116 rfl B 202 i0 _ 2 32 Tryz.underlying116 hi hz0 hz1 hz2 rfl (by omega) _ (n + m) _ rfl HO1.out ⟨gm, 0, none⟩ 1 mc _ rfl (by rw [HMo.out.1]) HMc.out (parCells_one _) (by unfold maxLen; omega) (by omega) hB1 ?_; intro v2 w2 hown2 hg2 hat2 hold2; have HL2 := Lib.hid (HL.out.step parCells_append HB1.out hg2 hown2 hat2 hold2); obtain ⟨la2, lc2, hv2, _⟩ := own_shape hown2; subst hv2; clear hown2 hg2 hat2 hold2)
          go_roundw
          case rel => exact ⟨m + 1, la2, lc2, by omega, by go_num, rfl, HL2⟩
          case measure => simp [intOf]; omega
        · obtain rfl : m = 12 := by omega
          go_wp2_with fail
          refine (markP_any i (n + 12) 60 wr (by omega) (by omega)).mono ?_
          rintro e w1 ⟨ma, mc, rfl, hmo, hb1⟩
          obtain ⟨gm, cm, hmv, _, _⟩ := hmo.form (by omega)
          injection hmv with hmv _ hmc
          subst hmv
          subst hmc
          have HO1 := Lib.hid (own_below HL.out.own hb1)
          have HMo := Lib.hid hmo
          have HMc := Lib.hid (hmo.cells (g := gm) rfl)
          have hB1 : B ≤ w1.heap.size := Nat.le_trans hBA (HL.out.turn.below hb1).size
          have HB1 := Lib.hid hb1
          clear hmo hb1
          go_wp2_with (first | (at_builtin; refine wpList_append_own_old _ rfl (.tmp 34) (.tmp 38) 116 rfl B 202 i0 _ 2 32 Tryz.underlying116 hi hz0 hz1 hz2 rfl (by omega) _ (n + 12) _ rfl HO1.out ⟨gm, 0, none⟩ 60 mc _ rfl (by rw [HMo.out.1]) HMc.out (parCells_one _) (by unfold maxLen; omega) (by omega) hB1 ?_; intro v2 w2 hown2 hg2 hat2 hold2; have HL2 := Lib.hid (HL.out.step parCells_append HB1.out hg2 hown2 hat2 hold2); obtain ⟨la2, lc2, hv2, _⟩ := own_shape hown2; subst hv2; have hsz2 := HL2.out.turn.size; have HO2 := Lib.hid (own_turn HA.out.oown HA.out.tout HL2.out.turn (fun e => by injection e with _ e; injection e with e; cases e)); clear hown2 hg2 hat2 hold2) | (at_builtin; refine wpList_append_new rfl (.tmp 33) (.tmp 40) 31 rfl B 116 i1 _ 1 24 Tryz.underlying31 hj hj0 hj1 hj2 rfl (by omega) _ i _ rfl HO2.out (by omega) [.slice la2 (n + 12 + 60) lc2] 1 rfl rfl rfl (by simp [Value.oneCell']) (by omega) (by omega) ?_; intro v3 w3 hown3 hg3 hb3 hs3 hat3; obtain ⟨g3, c3, hv3, hat3⟩ := hat3; subst hv3; have HA3 := Lib.hid (HA.out.step (m := 72) HR.out HL2.out (by show n + 72 ≤ _; omega) hg3 hown3 (grow_hat hat3)); clear hown3 hg3 hb3 hat3))
          go_roundw
          case rel => exact ⟨i + 1, _, _, _, _, by omega, by go_num, rfl, HA3⟩
          case measure => simp [intOf]; omega
    · obtain rfl : i = rows.length := by omega
      go_wp2_with fail
      go_ret
      exact ⟨_, oi, done, rfl, HA.out.agree, HA.out.turn, HA.out.fin HK.out⟩
set_option maxRecDepth 20000 in
set_option maxHeartbeats 4000000 in
theorem markedP_any {w : World} {B N c : Nat} {ao : Option Addr} {rows : List (Value × Nat)} (hBw : B ≤ w.heap.size) (hown : w.ownsRow B 116 1 (.slice ao N c) N (rows.map (·.1))) (hN : N ≤ 1000) (hl : rows.length = N) (hsh : ∀ r ∈ rows, r.2 ≤ 200000)
    (hrow : ∀ i r, rows[i]? = some r → Reads w r.1 r.2 (parCells ((List.range r.2).map (mkP i)))) :
    Calls Tryz.prog 169 #[.slice ao N c] w fun e w' => e = .returned (.bool true) ∧ Below w.heap.size w w' := by
  have hcell : Hid (∀ W, Below w.heap.size w W → ∀ i r, rows[i]? = some r → ∃ g, ao = some ⟨g, 0, none⟩ ∧ W.cell? ⟨g, i, none⟩ = some r.1) := Lib.hid (fun W hb i r hr => by
    have hi : i < rows.length := (List.getElem?_eq_some_iff.1 hr).1
    have h := own_below hown hb
    obtain ⟨g, c', hv, _, _⟩ := h.form (by omega)
    injection hv with hv _ _
    subst hv
    exact ⟨g, rfl, by rw [h.cellAt i (by omega), List.getElem?_map, hr]; rfl⟩)
  have HRow := Lib.hid hrow
  have HSh := Lib.hid hsh
  clear hown hrow hsh
  go_enter Tryz.func169, Tryz.ntmps169
  go_wp2_with fail
  go_loopw [3] (fun x wr => ∃ i : Nat, i ≤ N ∧ x = .int .i64 i ∧ Hid (Below w.heap.size w wr)) (fun x _ => N - (intOf x).toNat)
  case atStart => exact ⟨0, Nat.zero_le _, rfl, Lib.hid (Below.refl _ _)⟩
  case round =>
    obtain ⟨i, hi1, rfl, HB⟩ := hrel
    by_cases hlt : i < N
    · obtain ⟨⟨rv, n⟩, hr⟩ : ∃ r, rows[i]? = some r := ⟨_, List.getElem?_eq_getElem (by omega)⟩
      obtain ⟨go, rfl, c1⟩ := hcell.out wr HB.out i _ hr
      have hrd := HRow.out i _ hr
      have hshort : n ≤ 200000 := HSh.out _ (List.mem_of_getElem? hr)
      obtain ⟨ra, rc, hrv, _, _, _, _⟩ := hrd
      dsimp only at hrv
      subst hrv
      have HRd : Hid (∀ W, Below w.heap.size w W → Reads W (.slice ra n rc) n (parCells ((List.range n).map (mkP i)))) := Lib.hid (fun W hb => (HRow.out i _ hr).below hb)
      have HCc : Hid (∀ W, Below w.heap.size w W → W.cell? ⟨go, i, none⟩ = some (.slice ra n rc)) := Lib.hid (fun W hb => by
        obtain ⟨_, e1, h⟩ := hcell.out W hb i _ hr
        injection e1 with e1
        injection e1 with e1
        subst e1
        exact h)
      have hx1 : (i : Int) < N := by omega
      have hx2 : (0 : Int) ≤ i := by omega
      have hsz := HB.out.size
      have HBd : Hid (Below w.heap.size w wr.drew) := Lib.hid (HB.out.drew)
      clear hr
      go_wp2_with fail
      go_region_with (first
        | (go_at_call 228; refine (markP_any i 0 n _ (by omega) (by omega)).mono ?_; rintro e w1 ⟨ma, mc, rfl, hm, hb1⟩; have HB1 := Lib.hid (HBd.out.trans (hb1.mono hsz)); have c1 := HCc.out w1 HB1.out; have HM := Lib.hid (Reads.own hm); clear hm hb1)
        | (go_at_call 198; refine (bkSameP (HRd.out _ HB1.out) (by simpa using HM.out) (by simp) (by omega)).mono ?_; rintro e w2 ⟨rfl, hb2⟩; have HB2 := Lib.hid (HB1.out.trans (hb2.mono HB1.out.size)); clear hb2))
      all_goals (
        go_wp2_with fail
        go_roundw
        case rel => exact ⟨i + 1, by omega, by go_num, HB2⟩
        case measure => simp [intOf]; omega)
    · obtain rfl : i = N := by omega
      go_wp2_with fail
      go_ret
      exact ⟨rfl, HB.out⟩
set_option maxRecDepth 20000 in
set_option maxHeartbeats 4000000 in
theorem stillP_any {w : World} {B bn : Nat} {o : Nat → Tag} {cs : Array Value} {ov wv : Value} {rows : List (KRow Par)} (hB : BookAt w B 39 o bn cs) (hc : cs[8]? = some ov) (hc2 : cs[9]? = some wv) (hK : Kept w B o 4 116 202 2 parCells ov wv rows) :
    Calls Tryz.prog 136 #[.pointer (some ⟨bn, 0, none⟩)] w fun e w' => e = .returned (.bool true) ∧ Below w.heap.size w w' := by
  obtain ⟨oa, oc, hov, _, _, _⟩ := own_shape hK.out
  obtain ⟨wa, wc, hwv, _, _, _⟩ := own_shape hK.was
  subst hov
  subst hwv
  have hN : rows.length ≤ 1000 := hK.few
  have hfacts : Hid (∀ W, Below w.heap.size w W → W.cell? ⟨bn, 8, none⟩ = some (.slice oa rows.length oc) ∧ W.cell? ⟨bn, 9, none⟩ = some (.slice wa rows.length wc)) := Lib.hid (fun W hb => by
    have hk := (hb.block bn (blk_lt hB.1)).trans hB.1
    exact ⟨by rw [blk_cell hk, hc], by rw [blk_cell hk, hc2]⟩)
  have hrows : Hid (∀ i r, rows[i]? = some r → ∃ g g', oa = some ⟨g, 0, none⟩ ∧ wa = some ⟨g', 0, none⟩ ∧ ∀ W, Below w.heap.size w W → W.cell? ⟨g, i, none⟩ = some r.v ∧ W.cell? ⟨g', i, none⟩ = some r.c) := Lib.hid (fun i r hr => by
    have hi : i < rows.length := (List.getElem?_eq_some_iff.1 hr).1
    obtain ⟨g, c', hv, _, _⟩ := hK.out.form (by omega)
    obtain ⟨g', c'', hv', _, _⟩ := hK.was.form (by omega)
    injection hv with hv _ _
    injection hv' with hv' _ _
    subst hv
    subst hv'
    exact ⟨g, g', rfl, rfl, fun W hb => ⟨by rw [(own_below hK.out hb).cellAt i (by omega), List.getElem?_map, hr]; rfl, by rw [(own_below hK.was hb).cellAt i (by omega), List.getElem?_map, hr]; rfl⟩⟩)
  have HK := Lib.hid hK
  clear hK hB hc hc2
  go_enter Tryz.func136, Tryz.ntmps136
  go_wp2_with fail
  go_loopw [3] (fun x wr => ∃ i : Nat, i ≤ rows.length ∧ x = .int .i64 i ∧ Hid (Below w.heap.size w wr)) (fun x _ => rows.length - (intOf x).toNat)
  case atStart => exact ⟨0, Nat.zero_le _, rfl, Lib.hid (Below.refl _ _)⟩
  case round =>
    obtain ⟨i, hi1, rfl, HB⟩ := hrel
    have c0 := (hfacts.out wr HB.out).1
    by_cases hlt : i < rows.length
    · obtain ⟨r, hr⟩ : ∃ r, rows[i]? = some r := ⟨_, List.getElem?_eq_getElem hlt⟩
      obtain ⟨go, gw, rfl, rfl, hcs⟩ := hrows.out i r hr
      have hrow := HK.out.row i r hr
      have hshort : r.l.length ≤ 100000 := HK.out.short r (List.mem_of_getElem? hr)
      obtain ⟨ra, rc, hrv, _, _, _⟩ := own_shape hrow.1
      obtain ⟨qa, qc, hqv, _, _, _⟩ := own_shape hrow.2.1
      obtain ⟨n, hn⟩ : ∃ n, n = r.l.length := ⟨_, rfl⟩
      have HS : Hid (∀ W, Below wr.heap.size wr W → Calls Tryz.prog 198 #[.slice ra n rc, .slice qa n qc] W fun e w' => e = .returned (.bool true) ∧ Below W.heap.size W w') := Lib.hid (fun W hb => by
        have hW := HB.out.trans (hb.mono HB.out.size)
        rw [hrv] at hrow
        rw [hqv] at hrow
        rw [hn]
        exact bkSameP (Reads.own (own_below hrow.1 hW)) (Reads.own (own_below hrow.2.1 hW)) rfl (by omega))
      rw [hrv, hqv, ← hn] at hcs
      have q : ∀ p : SinceW wr.heap.size wr, p.w.cell? ⟨bn, 8, none⟩ = some (.slice (some ⟨go, 0, none⟩) rows.length oc) ∧ p.w.cell? ⟨bn, 9, none⟩ = some (.slice (some ⟨gw, 0, none⟩) rows.length wc) ∧ p.w.cell? ⟨go, i, none⟩ = some (.slice ra n rc) ∧ p.w.cell? ⟨gw, i, none⟩ = some (.slice qa n qc) := fun p => by
        have hW := HB.out.trans (p.h.mono HB.out.size)
        exact ⟨(hfacts.out _ hW).1, (hfacts.out _ hW).2, (hcs _ hW).1, (hcs _ hW).2⟩
      have q0 := fun p => (q p).1
      have q1 := fun p => (q p).2.1
      have q2 := fun p => (q p).2.2.1
      have q3 := fun p => (q p).2.2.2
      have hx1 : (i : Int) < rows.length := by omega
      have hx2 : (0 : Int) ≤ i := by omega
      clear q hr hrow hrv hqv hn hcs
      go_wp2_with fail
      refine wp_region_since (B := wr.heap.size) (W0 := wr) (by kernel_rfl) (by kernel_rfl) (Below.refl _ _) ?_
      repeat (go_big_quiet_step ((go_at_call 198; exact since_call (Nat.le_refl _) (HS.out _ (SinceW.h _)))))
      refine wpQuiet_nil ?_
      intro _ hw'
      obtain ⟨⟨w5, hv5⟩, rfl⟩ := hw'
      have HB5 := Lib.hid (HB.out.trans (hv5.mono HB.out.size))
      clear q0 q1 q2 q3 hv5
      go_wp2_with fail
      go_roundw
      case rel => exact ⟨i + 1, by omega, by go_num, HB5⟩
      case measure => simp [intOf]; omega
    · obtain rfl : i = rows.length := by omega
      go_wp2_with fail
      go_ret
      exact ⟨rfl, HB.out⟩
set_option maxRecDepth 20000 in
set_option maxHeartbeats 1000000 in
theorem copyP_any {w : World} {ao : Option Addr} {n c : Nat} {l : List Par} (h : Reads w (.slice ao n c) n (parCells l)) (hnil : ao = none → n = 0) (hl : l.length = n) (hn : n ≤ 200000) :
    Calls Tryz.prog 236 #[.slice ao n c] w fun e w' => ∃ ao' c', e = .returned (.slice ao' n c') ∧ w'.ownsRow w.heap.size 202 2 (.slice ao' n c') n (parCells l) ∧ Below w.heap.size w w' := by
  obtain ⟨i0, hi, hz0, hz1, hz2⟩ := info_parts bkInfoP
  cases ao with
  | none =>
    have hn0 := hnil rfl
    subst hn0
    have hl0 : l = [] := List.eq_nil_of_length_eq_zero hl
    subst hl0
    clear h hnil hl
    go_enter Tryz.func236, Tryz.ntmps236
    go_wp2_with fail
    go_ret
    exact ⟨none, 0, rfl, World.ownsRow_nil _ _ _ _, Below.refl _ _⟩
  | some ad =>
    have HC := Lib.hid (reads_news (size := 2) h (by rw [parCells_len, hl]))
    have HLen : Hid ((parCells l).length = n * 2) := Lib.hid (by rw [parCells_len, hl])
    clear h hl hnil
    go_enter Tryz.func236, Tryz.ntmps236
    go_wp2_with (at_builtin; refine wpList_append_own_at _ rfl (.const (.slice none 0 0)) (.tmp 3) 116 rfl w.heap.size 202 i0 _ 2 32 Tryz.underlying116 hi hz0 hz1 hz2 rfl (by omega) _ 0 [] rfl (World.ownsRow_nil _ _ _ _) ad n c (parCells l) rfl HLen.out HC.out (parCells_one l) (by unfold maxLen; omega) (by omega) (by simp) ?_; intro v1 w8 hown8 hg8 _ _; rw [Nat.zero_add, List.nil_append] at hown8; obtain ⟨a8, c8, hv8, _⟩ := own_shape hown8; subst hv8; have HO8 := Lib.hid hown8; have HB8 := Lib.hid ((Below.refl w.heap.size w).grown hg8 (by simp) (fun k hk => by cases hk)); clear hown8 hg8)
    go_ret
    exact ⟨a8, c8, rfl, HO8.out, HB8.out⟩
set_option maxRecDepth 20000 in
set_option maxHeartbeats 4000000 in
theorem addP_any {w : World} {B bn n c : Nat} {ao : Option Addr} {o : Nat → Tag} {cs : Array Value} {ov wv : Value} {rows : List (KRow Par)} {l : List Par} (hB : BookAt w B 39 o bn cs) (hBw : B ≤ w.heap.size) (hc : cs[8]? = some ov) (hc2 : cs[9]? = some wv)
    (hK : Kept w B o 4 116 202 2 parCells ov wv rows) (hown : w.ownsRow B 202 2 (.slice ao n c) n (parCells l)) (hl : l.length = n) (hn : n ≤ 100000) (ht : Tagged o w.heap.size (4, 2, rows.length) (.slice ao n c)) :
    Calls Tryz.prog 196 #[.pointer (some ⟨bn, 0, none⟩), .slice ao n c] w fun e w' => e = .returned (.tuple #[]) ∧ AddPost w B bn 8 9 4 o 39 116 202 2 parCells cs w' := by
  obtain ⟨i1, hj, hj0, hj1, hj2⟩ := info_parts bkRowP
  have HK := Lib.hid hK
  have HB := Lib.hid hB
  have hbl : bn < w.heap.size := blk_lt hB.1
  have hsz : cs.size = 22 := hB.2.1
  obtain ⟨oa, oc, hov, _, _, _⟩ := own_shape hK.out
  obtain ⟨wa, wc, hwv, _, _, _⟩ := own_shape hK.was
  have HOv := Lib.hid hov
  have HWv := Lib.hid hwv
  have c0 : w.cell? ⟨bn, 8, none⟩ = some (.slice oa rows.length oc) := by rw [blk_cell hB.1, hc, hov]
  by_cases hN : rows.length < 250
  · have hx1 : (rows.length : Int) < 250 := by omega
    have HN := Lib.hid hN
    have HO := Lib.hid hown
    have HL := Lib.hid hl
    have HT := Lib.hid ht
    have hno : ao = none → n = 0 := by
      intro h
      subst h
      rcases hown.2 with ⟨_, h0⟩ | ⟨g, cap, cur, hv, _⟩
      · exact h0
      · cases hv
    have HNo := Lib.hid hno
    have hn1 : rows.length + 1 ≤ 250 := by omega
    have HOut := Lib.hid hK.out
    rw [hov] at HOut
    have HBl := Lib.hid hB.1
    have hne : ov.ownBlock ≠ some bn ∧ wv.ownBlock ≠ some bn := hK.apart hB (by decide)
    have HNe := Lib.hid hne
    rw [hov] at HNe
    have HCs := Lib.hid (And.intro hc hc2)
    clear hB hown hl ht hno hov hwv hK hN hne hc hc2
    go_enter Tryz.func196, Tryz.ntmps196
    go_wp2_with (at_builtin; refine wpList_append_new rfl (.tmp 14) (.tmp 16) 31 rfl B 116 i1 _ 1 24 Tryz.underlying31 hj hj0 hj1 hj2 rfl (by omega) _ rows.length _ rfl HOut.out hBw [.slice ao n c] 1 rfl rfl rfl (by simp [Value.oneCell']) (by omega) (by omega) ?_; intro v3 w3 hown3 hg3 hb3 hs3 hat3; obtain ⟨g3, c3, hv3, hat3⟩ := hat3; subst hv3; have HG3 := Lib.hid hg3; have HO3 := Lib.hid hown3; have HA3 := Lib.hid (grow_hat hat3 : (Value.slice (some ⟨g3, 0, none⟩) (rows.length + 1) c3).ownBlock = _ ∨ _); have hk3 := (hg3.block bn hbl (fun e => HNe.out.1 e.symm)).trans HBl.out; have f3 : w3.frozen? ⟨bn, 8, none⟩ = false := blk_frozen hk3 8; have cc3 : w3.cell? ⟨bn, 8, none⟩ = some (.slice oa rows.length oc) := (by rw [blk_cell hk3, HCs.out.1, HOv.out]); have HK3 := Lib.hid hk3; clear hown3 hg3 hb3 hs3 hat3 hk3)
    obtain ⟨W2, hW2⟩ : ∃ W, W = w3.setCell ⟨bn, 8, none⟩ (.slice (some ⟨g3, 0, none⟩) (rows.length + 1) c3) := ⟨_, rfl⟩
    rw [← hW2]
    have hb2 : W2.heap.size = w3.heap.size := by rw [hW2]; simp [World.setCell]
    have hT2 : Turn o (fun t => t = (99, 0, 0) ∨ t = (4, 0, 0)) w W2 := by
      rw [hW2]
      exact ((Turn.refl o _ w).grown HG3.out (fun g hg hlt => .inr (by rw [← HOv.out] at hg; exact HK.out.tout g hg hlt))).grown (grown_set w3 bn 8 _) (fun g hg hlt => .inl (by injection hg with hg; subst hg; exact HB.out.2.2.2))
    have hbk2 : W2.heap[bn]? = some (.cells (cs.setIfInBounds 8 (.slice (some ⟨g3, 0, none⟩) (rows.length + 1) c3)) 39 (0, 0)) := by rw [hW2]; exact blk_set HK3.out 8 _
    have hwas : W2.ownsRow B 116 1 (.slice wa rows.length wc) rows.length (rows.map (·.c)) := by
      rw [← HWv.out]
      exact own_turn HK.out.was HK.out.twas hT2 (by simp)
    have hrd : Reads W2 (.slice ao n c) n (parCells l) := Reads.own (own_turn HO.out HT.out hT2 (by simp))
    have c1 : W2.cell? ⟨bn, 9, none⟩ = some (.slice wa rows.length wc) := by rw [blk_cell hbk2, Array.getElem?_setIfInBounds, if_neg (by decide), HCs.out.2, HWv.out]
    have hblt : bn < W2.heap.size := Nat.lt_of_lt_of_le hbl hT2.size
    have hBW2 : B ≤ W2.heap.size := Nat.le_trans hBw hT2.size
    have HW2 := Lib.hid hW2
    have HBk2 := Lib.hid hbk2
    have HWas := Lib.hid hwas
    have HCp := Lib.hid (copyP_any (w := W2.drew) (ao := ao) (n := n) (c := c) (l := l) hrd HNo.out HL.out (by omega))
    have HNe2 : Hid (∀ g, (Value.slice wa rows.length wc).ownBlock = some g → g ≠ bn) := Lib.hid (fun g hg e => HNe.out.2 (by rw [HWv.out, hg, e]))
    clear hb2 hT2 hbk2 hwas hrd hW2
    go_region_law (first
      | (refine step_append_lies _ (by rfl) (.tmp 24) (.tmp 27) 31 (by rfl) B 116 i1 _ 1 24 Tryz.underlying31 hj hj0 hj1 hj2 (by rfl) (by omega) (.slice wa rows.length wc) rows.length _ (by rfl) ((own_below HWas.out HB4.out).alloc _) ⟨w4.heap.size, 0, none⟩ 1 1 [.slice ao4 n c4] (by rfl) (by rfl) (cell_one_new _ _ _) (by intro u hu; simp at hu; subst hu; rfl) (by omega) (by unfold maxLen; omega) (by omega) (Nat.le_trans hBW2 (Nat.le_trans HB4.out.size (by simp))) _ rfl ?_; intro g5 c5 w5 hown5 hg5 hat5 hlt5; have hk5 := (((World.grownBy_alloc w4 _ _).trans hg5).block bn (Nat.lt_of_lt_of_le hblt HB4.out.size) (fun e => HNe2.out bn e.symm rfl)).trans ((HB4.out.block bn hblt).trans HBk2.out); have f5 : w5.frozen? ⟨bn, 9, none⟩ = false := blk_frozen hk5 9; have cc5 : w5.cell? ⟨bn, 9, none⟩ = some (.slice wa rows.length wc) := (by rw [blk_cell hk5, Array.getElem?_setIfInBounds, if_neg (by decide), HCs.out.2, HWv.out]))
      | (go_simp; go_at_call 236; refine (HCp.out).mono ?_; rintro e' w4 ⟨ao4, c4, rfl, hown4, hb4⟩; have HB4 : Hid (Below W2.heap.size W2 w4) := Lib.hid (below_undrew hb4); have c1' : w4.cell? ⟨bn, 9, none⟩ = some (.slice wa rows.length wc) := (HB4.out.cell (p := ⟨bn, 9, none⟩) hblt).trans c1; have c1a : ∀ o, (w4.alloc o).cell? ⟨bn, 9, none⟩ = some (.slice wa rows.length wc) := fun o => (World.cell?_alloc_lt w4 o _ (Nat.lt_of_lt_of_le hblt HB4.out.size)).trans c1'; have HO4 := Lib.hid hown4; clear hb4 hown4))
    all_goals (
      go_wp2
      go_end0
      obtain ⟨o', q1, q2, q3, q4⟩ := Kept.add (w5 := w5.setCell ⟨bn, 9, none⟩ (.slice (some ⟨g5, 0, none⟩) (rows.length + 1) c5)) HK.out HB.out hBw (by decide) (by omega) HO.out HL.out hn HT.out (by rw [HOv.out]; exact HG3.out) HO3.out (by rw [HOv.out]; exact HA3.out) HW2.out HB4.out HO4.out (by rw [HWv.out]; exact (World.grownBy_alloc w4 _ _).trans hg5) hown5 (by rw [HWv.out]; exact grow_hat (hat5.imp id (fun h => by rw [h]; simp))) rfl
      exact ⟨rfl, o', _, _, _, q1, q2, q3, q4⟩)
  · have hx1 : ¬ (rows.length : Int) < 250 := by omega
    have hfin : (cs.setIfInBounds 8 ov).setIfInBounds 9 wv = cs := by
      apply Array.ext_getElem?
      intro i
      by_cases h2 : i = 8
      · subst h2; rw [hc]; simp [hsz]
      · by_cases h3 : i = 9
        · subst h3; rw [hc2]; simp [hsz]
        · simp [Ne.symm h2, Ne.symm h3]
    have HFin := Lib.hid hfin
    clear hB hown hl ht hov hwv hK hN hfin hc hc2
    go_enter Tryz.func196, Tryz.ntmps196
    go_wp2_with fail
    go_end0
    exact ⟨rfl, AddPost.same HB.out HK.out HFin.out⟩
end Go.Proofs.YtmdidmllaldbaaaGreat
