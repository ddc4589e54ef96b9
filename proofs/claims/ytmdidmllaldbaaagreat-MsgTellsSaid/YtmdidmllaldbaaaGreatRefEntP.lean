/- The walk of arboretumref16.Put: the document lays entries as the plain law tells. -/
import Derived.Test.YtmdidmllaldbaaaGreatRefEntM
namespace Go.Proofs.YtmdidmllaldbaaaGreat
open Go.RowKit
set_option linter.unusedVariables false
set_option maxRecDepth 20000 in
set_option maxHeartbeats 4000000 in
theorem rput16_any {ao : Option Addr} {n c : Nat} {l : List Ent} {w : World} (hE : Ents w w.heap.size ao n l) (hok : ∀ e ∈ l, EntOk e) (hn : n ≤ 1000000) (hs : (l.map (·.dt.size)).sum ≤ 17592186044416) :
    Calls Tryz.prog 22 #[.slice ao n c] w fun e w' => e = .returned (.string ⟨(putB l).toArray⟩) ∧ Below w.heap.size w w' := by
  obtain ⟨i0, hi, hz0, hz1, hz2⟩ := info_parts u8info
  have HE := Lib.hid hE
  have HL := Lib.hid hE.1
  have HOk := Lib.hid hok
  have HRoom : Hid (∀ k, (entsB (l.take k)).length ≤ 40 * n + (l.map (·.dt.size)).sum) := Lib.hid (fun k => ents_room hE k)
  have hvl := var1_len (n : Int)
  have HCv : Hid (∀ W : World, w.heap.size ≤ W.heap.size → ∃ c w', (convert 9 160 (.string ⟨(var1 (n : Int)).toArray⟩)).run Tryz.prog W = .ok (.slice (some ⟨W.heap.size, 0, none⟩) (var1 (n : Int)).length c) w' ∧ OwnB w' w.heap.size 5 (.slice (some ⟨W.heap.size, 0, none⟩) (var1 (n : Int)).length c) (var1 (n : Int)) ∧ Below W.heap.size W w') := Lib.hid (fun W hW => by
    obtain ⟨c, w', h1, h2, h3⟩ := run_bytes_own (P := Tryz.prog) W w.heap.size hW 9 160 5 ⟨(var1 (n : Int)).toArray⟩ Tryz.underlying9 Tryz.underlying160 Tryz.underlying5 (by show (var1 (n : Int)).toArray.size ≤ _; simp; omega)
    refine ⟨c, w', ?_, ?_, h3⟩
    · rw [h1]; rfl
    · exact h2)
  clear hE hok
  go_enter Tryz.func22, Tryz.ntmps22
  go_wp2_with fail
  refine (rvar1_any (n : Int) (by omega) (by omega) _).mono ?_
  rintro e w1 ⟨rfl, hb1⟩
  obtain ⟨c1, w2, hcv, ho2, hb2⟩ := HCv.out w1 hb1.size
  have HO2 := Lib.hid ho2
  have HB2 := Lib.hid (hb1.trans (hb2.mono hb1.size))
  clear ho2 hb1 hb2 HCv
  go_wp2_with fail
  go_loopw [3, 4] (fun bv i wr => ∃ (k : Nat) (P : List UInt8), k ≤ n ∧ i = .int .i64 k ∧ Hid (OwnB wr w.heap.size 5 bv P) ∧ Hid (P = var1 (n : Int) ++ entsB (l.take k)) ∧ Hid (Below w.heap.size w wr)) (fun _ i _ => n - (intOf i).toNat)
  case atStart => exact ⟨0, var1 (n : Int), Nat.zero_le _, rfl, HO2, Lib.hid (by simp [entsB]), HB2⟩
  case round =>
    obtain ⟨k, P, hk, rfl, HO, hP, HB⟩ := hrel
    have hsz := HB.out.size
    by_cases hlt : k < n
    · obtain ⟨b, o, e, rfl, hbB, hek, _⟩ := HE.out.get hlt
      have hF : ∀ W, Below w.heap.size w W → W.cell? ⟨b, o + k * 4, none⟩ = some (.int .i64 e.ix) ∧ W.cell? ⟨b, o + k * 4 + 1, none⟩ = some (.int .i64 e.tm) ∧ W.cell? ⟨b, o + k * 4 + 2, none⟩ = some (.int .i64 e.kd) ∧ W.cell? ⟨b, o + k * 4 + 3, none⟩ = some (.string e.dt) := fun W hb => by
        obtain ⟨b', o', e', hbe, _, hek', h⟩ := (HE.out.below hb).get hlt
        injection hbe with hbe
        injection hbe with h1 h2
        subst h1 h2
        rw [hek] at hek'
        injection hek' with hek'
        subst hek'
        exact h
      have HF := Lib.hid hF
      obtain ⟨⟨x1, x2⟩, ⟨x3, x4⟩, ⟨x5, x6⟩, x7⟩ := HOk.out e (List.mem_of_getElem? hek)
      have hts := entsB_take_succ l k e hek
      have hPl : P.length ≤ 10 + (40 * n + (l.map (·.dt.size)).sum) := by rw [hP.out, List.length_append]; have := HRoom.out k; omega
      have hPl2 : P.length + (entB e).length ≤ 10 + (40 * n + (l.map (·.dt.size)).sum) := by
        have h1 := HRoom.out (k + 1)
        rw [hts, List.length_append] at h1
        rw [hP.out, List.length_append]
        omega
      have hentB : entB e = var1 e.ix ++ (var1 e.tm ++ (var1 e.kd ++ textB e.dt.data.toList)) := by unfold entB; rw [vars_three]; simp [List.append_assoc]
      have hlen := congrArg List.length hentB
      simp only [List.length_append] at hlen
      have HNext : Hid (P ++ var1 e.ix ++ var1 e.tm ++ var1 e.kd ++ textB e.dt.data.toList = var1 (n : Int) ++ entsB (l.take (k + 1))) := Lib.hid (by rw [hts, hentB, hP.out]; simp [List.append_assoc])
      have hx1 : (0 : Int) ≤ k := by omega
      have hx2 : (k : Int) < n := by omega
      obtain ⟨lt, hlt'⟩ : ∃ lt, lt = (entB e).length := ⟨_, rfl⟩
      rw [← hlt'] at hPl2 hlen
      have c0 := (HF.out wr HB.out).1
      clear hF hek hts hentB hP hlt'
      go_wp2_with fail
      refine (rvar1_any e.ix x1 x2 _).mono ?_
      rintro e1 v1 ⟨rfl, hb⟩
      have HB1a := Lib.hid (HB.out.trans (hb.mono (Nat.le_trans HB.out.size (Nat.le_refl _))))
      have HO1a := Lib.hid (HO.out.below hb)
      clear hb
      go_wp2_with (at_builtin; refine wpList_append_stringB _ rfl (.tmp 15) (.tmp 21) 160 9 rfl w.heap.size 5 i0 Tryz.underlying160 Tryz.underlying9 hi hz0 hz1 hz2 _ (P) rfl HO1a.out (ByteArray.mk (var1 e.ix).toArray) rfl (by show _ + (var1 e.ix).toArray.size ≤ _; simp only [List.size_toArray]; omega) HB1a.out.size ?_; intro bv1 u1 hO hg; have HO1b : Hid (OwnB u1 w.heap.size 5 bv1 (P ++ var1 e.ix)) := Lib.hid hO; have HB1b := Lib.hid (HB1a.out.grown hg HB1a.out.size (fun k hk => (HO1a.out.lt k hk).1)); clear hO hg; have c1 := (HF.out _ HB1b.out).2.1)
      go_wp2_with fail
      refine (rvar1_any e.tm x3 x4 _).mono ?_
      rintro e2 v2 ⟨rfl, hb⟩
      have HB2a := Lib.hid (HB1b.out.trans (hb.mono (Nat.le_trans HB1b.out.size (Nat.le_refl _))))
      have HO2a := Lib.hid (HO1b.out.below hb)
      clear hb
      go_wp2_with (at_builtin; refine wpList_append_stringB _ rfl (.tmp 23) (.tmp 29) 160 9 rfl w.heap.size 5 i0 Tryz.underlying160 Tryz.underlying9 hi hz0 hz1 hz2 _ (P ++ var1 e.ix) rfl HO2a.out (ByteArray.mk (var1 e.tm).toArray) rfl (by show _ + (var1 e.tm).toArray.size ≤ _; simp only [List.size_toArray, List.length_append]; omega) HB2a.out.size ?_; intro bv2 u2 hO hg; have HO2b : Hid (OwnB u2 w.heap.size 5 bv2 (P ++ var1 e.ix ++ var1 e.tm)) := Lib.hid hO; have HB2b := Lib.hid (HB2a.out.grown hg HB2a.out.size (fun k hk => (HO2a.out.lt k hk).1)); clear hO hg; have c2 := (HF.out _ HB2b.out).2.2.1)
      go_wp2_with fail
      refine (rvar1_any e.kd x5 x6 _).mono ?_
      rintro e3 v3 ⟨rfl, hb⟩
      have HB3a := Lib.hid (HB2b.out.trans (hb.mono (Nat.le_trans HB2b.out.size (Nat.le_refl _))))
      have HO3a := Lib.hid (HO2b.out.below hb)
      clear hb
      go_wp2_with (at_builtin; refine wpList_append_stringB _ rfl (.tmp 31) (.tmp 37) 160 9 rfl w.heap.size 5 i0 Tryz.underlying160 Tryz.underlying9 hi hz0 hz1 hz2 _ (P ++ var1 e.ix ++ var1 e.tm) rfl HO3a.out (ByteArray.mk (var1 e.kd).toArray) rfl (by show _ + (var1 e.kd).toArray.size ≤ _; simp only [List.size_toArray, List.length_append]; omega) HB3a.out.size ?_; intro bv3 u3 hO hg; have HO3b : Hid (OwnB u3 w.heap.size 5 bv3 (P ++ var1 e.ix ++ var1 e.tm ++ var1 e.kd)) := Lib.hid hO; have HB3b := Lib.hid (HB3a.out.grown hg HB3a.out.size (fun k hk => (HO3a.out.lt k hk).1)); clear hO hg; have c3 := (HF.out _ HB3b.out).2.2.2)
      go_wp2_with fail
      refine (rtext_any e.dt (by omega) _).mono ?_
      rintro e4 v4 ⟨rfl, hb⟩
      have HB4a := Lib.hid (HB3b.out.trans (hb.mono (Nat.le_trans HB3b.out.size (Nat.le_refl _))))
      have HO4a := Lib.hid (HO3b.out.below hb)
      clear hb
      go_wp2_with (at_builtin; refine wpList_append_stringB _ rfl (.tmp 39) (.tmp 45) 160 9 rfl w.heap.size 5 i0 Tryz.underlying160 Tryz.underlying9 hi hz0 hz1 hz2 _ (P ++ var1 e.ix ++ var1 e.tm ++ var1 e.kd) rfl HO4a.out (ByteArray.mk (textB e.dt.data.toList).toArray) rfl (by show _ + (textB e.dt.data.toList).toArray.size ≤ _; simp only [List.size_toArray, List.length_append]; omega) HB4a.out.size ?_; intro bv4 u4 hO hg; have HO4b : Hid (OwnB u4 w.heap.size 5 bv4 (P ++ var1 e.ix ++ var1 e.tm ++ var1 e.kd ++ textB e.dt.data.toList)) := Lib.hid hO; have HB4b := Lib.hid (HB4a.out.grown hg HB4a.out.size (fun k hk => (HO4a.out.lt k hk).1)); clear hO hg)
      go_roundw
      case rel => exact ⟨k + 1, _, by omega, by go_num, HO4b, HNext, HB4b⟩
      case measure => simp [intOf]; omega
    · obtain rfl : k = n := by omega
      have hcv := run_string_ownB (P := Tryz.prog) HO.out 160 9 Tryz.underlying160 Tryz.underlying5 Tryz.underlying9
      have hfull : P = putB l := by rw [hP.out, List.take_of_length_le (by rw [HL.out]; omega)]; unfold putB; rw [HL.out]
      have HFu := Lib.hid hfull
      clear hfull hP
      go_wp2_with fail
      go_ret
      exact ⟨by rw [← HFu.out]; rfl, HB.out⟩
end Go.Proofs.YtmdidmllaldbaaaGreat
