/- The walk of arboretumlaw1.NumBack. -/
import Derived.Test.YtegiibpdkioocaaAliveN
import Derived.Test.YtegiibpdkioocaaRowsN
import Derived.Test.YtegiibpdkioocaaViewT
import Derived.Test.YtegiibpdkioocaaRdr
import Derived.Deep.RegionHeld3
namespace Go.Proofs.Ytegiibpdkioocaa
open Go.ChangeShapes Go.WideShapes Go.ChangeAt Go.RowKit
set_option linter.unusedVariables false
theorem i64_wfN {n : Int} (h : (Lit.int .i64 n).wf = true) : -9223372036854775808 ≤ n ∧ n ≤ 9223372036854775807 := by
  simpa [Lit.wf, IntKind.min, IntKind.max, IntKind.bits, IntKind.signed] using h
theorem TextsIn.at_ {w : World} {ao : Option Addr} {n c : Nat} {ss : List ByteArray} (h : TextsIn w ao n c ss) : TextsAt w ao n ss := ⟨h.len, h.cell⟩
theorem TextsAt.below {w W : World} {ao : Option Addr} {n : Nat} {ss : List ByteArray} (h : TextsAt w ao n ss) (hb : Below w.heap.size w W) : TextsAt W ao n ss :=
  ⟨h.1, fun hn => by
    obtain ⟨b, o, ha, hlt, hc⟩ := h.2 hn
    exact ⟨b, o, ha, Nat.lt_of_lt_of_le hlt hb.size, fun k v hv => (hb.cell (p := ⟨b, o + k, none⟩) hlt).trans (hc k v hv)⟩⟩
def boolB (v : Bool) : List UInt8 := if v then [1] else [0]
theorem boolB_len (v : Bool) : (boolB v).length = 1 := by cases v <;> rfl
theorem nbool_any (v : Bool) (w : World) : Calls Try.prog 32 #[.bool v] w fun e w' => e = .returned (.string ⟨(boolB v).toArray⟩) ∧ w = w' := by
  cases v with
  | false =>
    go_enter Try.func32, Try.ntmps32
    go_wp2
    go_ret
    exact ⟨rfl, rfl⟩
  | true =>
    go_enter Try.func32, Try.ntmps32
    go_wp2
    go_ret
    exact ⟨rfl, rfl⟩
theorem rBool_boolB (v : Bool) : rBool (boolB v, 0) = (v, ([], 0)) := by cases v <;> rfl
theorem rVar_vars (v : Int) (vs : List Int) (j : Nat) (T : List UInt8) (h : vs[j]? = some v) (h1 : -9223372036854775808 ≤ v) (h2 : v ≤ 9223372036854775807) : rVar (vars (vs.drop j) ++ T, 0) = (v, (vars (vs.drop (j + 1)) ++ T, 0)) := by
  have hj : j < vs.length := (List.getElem?_eq_some_iff.1 h).1
  have e : vs.drop j = v :: vs.drop (j + 1) := by
    rw [List.drop_eq_getElem_cons hj]
    congr 1
    exact (List.getElem?_eq_some_iff.1 h).2
  have e2 : vars (vs.drop j) ++ T = var1 v ++ (vars (vs.drop (j + 1)) ++ T) := by rw [e]; simp [vars]
  rw [e2, rVar_var1 v _ h1 h2]
theorem rText_texts (s : ByteArray) (ss : List ByteArray) (j : Nat) (T : List UInt8) (h : ss[j]? = some s) (hs : s.size ≤ 6000) : rText 6000 (textsB (ss.drop j) ++ T, 0) = (s.data.toList, (textsB (ss.drop (j + 1)) ++ T, 0)) := by
  have hj : j < ss.length := (List.getElem?_eq_some_iff.1 h).1
  have e : ss.drop j = s :: ss.drop (j + 1) := by
    rw [List.drop_eq_getElem_cons hj]
    congr 1
    exact (List.getElem?_eq_some_iff.1 h).2
  have e2 : textsB (ss.drop j) ++ T = textB s.data.toList ++ (textsB (ss.drop (j + 1)) ++ T) := by rw [e]; simp [textsB]
  have hl : s.data.toList.length = s.size := rfl
  rw [e2, rText_textB 6000 _ _ (by omega), if_neg (by omega)]
set_option maxRecDepth 20000 in
set_option maxHeartbeats 8000000 in
theorem walk_NumBack {w : World} (ao : Option Addr) (n c : Nat) (h0 : ∃ vs, IntsIn w ao n c vs) (bo : Option Addr) (m d : Nat) (h1 : ∃ ss, TextsIn w bo m d ss) (v : Int) (h2 : (Lit.int .i64 v).wf = true) (k : Int) (h3 : (Lit.int .i64 k).wf = true) :
    Calls Try.prog 4 #[.slice ao n c, .slice bo m d, .int .i64 v, .int .i64 k] w fun e w' => e = .returned (.bool true) ∧ Below w.heap.size w w' := by
  obtain ⟨vs, h0⟩ := h0
  obtain ⟨ss, h1⟩ := h1
  have hv := i64_wfN h2
  have hk := i64_wfN h3
  clear h2 h3
  have hnn : n ≤ 140737488351232 := by have := h0.sz; have := h0.le; omega
  have hmm : m ≤ 140737488351232 := by have := h1.sz; have := h1.le; omega
  have HI := Lib.hid h0
  have HT := Lib.hid h1
  clear h0 h1
  by_cases h300 : 300 < n
  · go_enter Try.func4, Try.ntmps4
    go_wp2_with fail
    refine (alive_any _).mono ?_
    rintro e w1 ⟨rfl, hb1⟩
    go_wp2_with fail
    go_ret
    exact ⟨rfl, hb1⟩
  have h300' : n ≤ 300 := by omega
  clear h300
  go_enter Try.func4, Try.ntmps4
  go_wp2_with fail
  refine (short_any HT.out 100 6000 (by omega) (by omega)).mono ?_
  rintro e w1 ⟨r1, rfl, hr1, hb1⟩
  cases r1 with
  | false =>
    clear hr1
    go_wp2_with fail
    refine (alive_any _).mono ?_
    rintro e w2 ⟨rfl, hb2⟩
    go_wp2_with fail
    go_ret
    exact ⟨rfl, hb1.trans (hb2.mono hb1.size)⟩
  | true =>
  obtain ⟨hm100, hsum⟩ := hr1 rfl
  have hsum' : (ss.map (·.size)).sum ≤ 6000 := by omega
  have hm100' : m ≤ 100 := by omega
  have HSum := Lib.hid hsum'
  clear hr1 hsum hm100 hsum'
  go_wp2_with fail
  refine (HI.out.var hb1 (by omega)).mono ?_
  rintro e w2 ⟨rfl, hb2⟩
  have hb12 := hb1.trans (hb2.mono hb1.size)
  clear hb1 hb2
  go_wp2_with fail
  refine (ntext_any bo m d ss w2 (HT.out.at_.below hb12) (by omega) (by have := HSum.out; omega)).mono ?_
  rintro e w3 ⟨rfl, hb3⟩
  have hb13 := hb12.trans (hb3.mono hb12.size)
  clear hb12 hb3
  have hl1 := vars_len vs
  have hl2 := textsB_len ss
  have hn' := HI.out.len
  have hm' := HT.out.len
  have hs' := HSum.out
  have hcat1 : ∀ W : World, (Op.stringOp .add ⟨(vars vs).toArray⟩ ⟨(textsB ss).toArray⟩).run Try.prog W = .ok (.string ⟨(vars vs ++ textsB ss).toArray⟩) W := fun W => cat_run _ _ W (by omega)
  obtain ⟨kb, hkb⟩ : ∃ kb : Bool, kb = decide (0 < k) := ⟨_, rfl⟩
  have hcat2 : ∀ W : World, (Op.stringOp .add ⟨(vars vs ++ textsB ss).toArray⟩ ⟨(boolB kb).toArray⟩).run Try.prog W = .ok (.string ⟨((vars vs ++ textsB ss) ++ boolB kb).toArray⟩) W := fun W => cat_run _ _ W (by rw [List.length_append, boolB_len]; omega)
  have hlen : (ByteArray.mk ((vars vs ++ textsB ss) ++ boolB kb).toArray).size ≤ 281474976710656 := by
    show ((vars vs ++ textsB ss) ++ boolB kb).toArray.size ≤ _
    rw [List.size_toArray, List.length_append, List.length_append, boolB_len]
    omega
  have HKb := Lib.hid hkb
  have hdk : decide (0 < k) = kb := hkb.symm
  have HC2 := Lib.hid hcat2
  have HLen := Lib.hid hlen
  clear hl1 hl2 hn' hm' hs' hcat2 hlen hkb
  go_wp2_with fail
  refine (nbool_any kb w3).mono ?_
  rintro e w4 ⟨rfl, rfl⟩
  have hcat2 := HC2.out w3
  go_wp2_with fail
  refine (RS.new (w0 := w) (B := w.heap.size) ⟨(vars vs ++ (textsB ss ++ boolB kb)).toArray⟩ hb13 hb13.size (by rw [← List.append_assoc]; exact HLen.out)).mono ?_
  rintro e w4 ⟨b, rfl, R4⟩
  rw [bytes_mk] at R4
  have HR4 : Hid (RS w w4 w.heap.size b (vars (vs.drop 0) ++ (textsB ss ++ boolB kb), 0)) := Lib.hid (by rw [List.drop_zero]; exact R4)
  clear R4 hcat1 hcat2 hb13
  go_wp2_with fail
  go_loopw [10] (fun i wr => ∃ j : Nat, j ≤ n ∧ i = .int .i64 j ∧ Hid (RS w wr w.heap.size b (vars (vs.drop j) ++ (textsB ss ++ boolB kb), 0))) (fun i _ => n - (intOf i).toNat)
  case atStart => exact ⟨0, Nat.zero_le _, rfl, HR4⟩
  case round =>
    obtain ⟨j, hj, rfl, HR⟩ := hrel
    by_cases hjl : j < n
    · obtain ⟨g, o, x, rfl, hgB, hx, q1⟩ := HI.out.get hjl
      have hxr := HI.out.ok x (List.mem_of_getElem? hx)
      have hrv := rVar_vars x vs j (textsB ss ++ boolB kb) hx hxr.1 hxr.2
      have hV : ∀ W, Below wr.heap.size wr W → Calls Try.prog 37 #[.pointer (some ⟨b, 0, none⟩)] W fun e w' => e = .returned (.int .i64 x) ∧ RS w w' w.heap.size b (vars (vs.drop (j + 1)) ++ (textsB ss ++ boolB kb), 0) := by
        intro W hb
        have h := (HR.out.step hb).rvar
        rw [hrv] at h
        exact h.mono fun e w' ⟨h1, h2, _⟩ => ⟨h1, h2⟩
      have HV := Lib.hid hV
      have hS : ∀ W, Below w.heap.size w W → W.cell? ⟨g, o + j, none⟩ = some (.int .i64 x) := fun W hb => (hb.cell (p := ⟨g, o + j, none⟩) hgB).trans q1
      have HS := Lib.hid hS
      have hb0 := HR.out.2.1
      have hx1 : (0 : Int) ≤ j := by omega
      have hx2 : (j : Int) < n := by omega
      have q2 := HS.out wr hb0
      clear hx hxr hrv hV hS q1
      go_wp2_with fail
      go_region_held3 (fun W => W.cell? ⟨g, o + j, none⟩ = some (.int .i64 x))
        (first | exact HS.out _ hb0 | exact HS.out _ hb0.drew | exact HS.out _ hb5)
        (first
          | (go_at_call 37; refine (HV.out _ (by first | exact Below.refl _ _ | exact (Below.refl _ _).drew)).mono ?_; rintro e5 w5 ⟨rfl, R5⟩; have hb5 := R5.2.1; have HR5 := Lib.hid R5; clear R5))
      all_goals (
        clear hb5
        go_wp2_with fail
        go_roundw
        case rel => exact ⟨j + 1, by omega, by go_num, HR5⟩
        case measure => simp [intOf] <;> omega)
    · have hR := HR.out
      rw [List.drop_eq_nil_of_le (by rw [HI.out.len]; omega)] at hR
      have HRt : Hid (RS w wr w.heap.size b (textsB (ss.drop 0) ++ boolB kb, 0)) := Lib.hid hR
      obtain ⟨wo, hwo⟩ : ∃ wo : World, wo = wr := ⟨_, rfl⟩
      subst hwo
      clear hR HR HR4
      go_wp2_with fail
      go_loopw [11] (fun i wr => ∃ j : Nat, j ≤ m ∧ i = .int .i64 j ∧ Hid (RS w wr w.heap.size b (textsB (ss.drop j) ++ boolB kb, 0))) (fun i _ => m - (intOf i).toNat)
      case atStart => exact ⟨0, Nat.zero_le _, rfl, HRt⟩
      case round =>
        obtain ⟨t, ht, rfl, HR⟩ := hrel
        by_cases htl : t < m
        · obtain ⟨g, o, s, rfl, hgB, hs, hss, q1⟩ := HT.out.get htl
          have hs6 : s.size ≤ 6000 := by
            have h := HSum.out
            have := le_sum (ss.map (·.size)) s.size (List.mem_map.2 ⟨s, List.mem_of_getElem? hs, rfl⟩)
            omega
          have hrv := rText_texts s ss t (boolB kb) hs hs6
          have hsb : (ByteArray.mk s.data.toList.toArray) = s := bytes_ext (by rw [bytes_mk])
          have hV : ∀ W, Below wr.heap.size wr W → Calls Try.prog 38 #[.pointer (some ⟨b, 0, none⟩), .int .i64 6000] W fun e w' => e = .returned (.string s) ∧ RS w w' w.heap.size b (textsB (ss.drop (t + 1)) ++ boolB kb, 0) := by
            intro W hb
            have h := (HR.out.step hb).text 6000
            rw [hrv] at h
            dsimp only at h
            rw [hsb] at h
            exact h.mono fun e w' ⟨h1, h2, _⟩ => ⟨h1, h2⟩
          have HV := Lib.hid hV
          have hS : ∀ W, Below w.heap.size w W → W.cell? ⟨g, o + t, none⟩ = some (.string s) := fun W hb => (hb.cell (p := ⟨g, o + t, none⟩) hgB).trans q1
          have HS := Lib.hid hS
          have hb0 := HR.out.2.1
          have hx1 : (0 : Int) ≤ t := by omega
          have hx2 : (t : Int) < m := by omega
          have q2 := HS.out wr hb0
          clear hs hss hrv hsb hV hS q1 hs6
          go_wp2_with fail
          go_region_held3 (fun W => W.cell? ⟨g, o + t, none⟩ = some (.string s))
            (first | exact HS.out _ hb0 | exact HS.out _ hb0.drew | exact HS.out _ hb5)
            (first
              | (go_at_call 38; refine (HV.out _ (by first | exact Below.refl _ _ | exact (Below.refl _ _).drew)).mono ?_; rintro e5 w5 ⟨rfl, R5⟩; have hb5 := R5.2.1; have HR5 := Lib.hid R5; clear R5))
          all_goals (
            clear hb5
            go_wp2_with fail
            go_roundw
            case rel => exact ⟨t + 1, by omega, by go_num, HR5⟩
            case measure => simp [intOf] <;> omega)
        · have hR := HR.out
          rw [List.drop_eq_nil_of_le (by rw [HT.out.len]; omega)] at hR
          have HB := Lib.hid (RS.bool hR)
          rw [show textsB [] ++ boolB kb = boolB kb from rfl, rBool_boolB] at HB
          clear hR HR
          go_wp2_with fail
          refine HB.out.mono ?_
          rintro e w5 ⟨rfl, R5, _⟩
          have HF := Lib.hid R5.fin
          rw [show rEnd (([], 0) : RSt) = 0 from rfl] at HF
          have hb5 := R5.2.1
          clear HB R5
          go_wp2_with fail
          refine HF.out.mono ?_
          rintro e w6 ⟨rfl, rfl⟩
          clear HF
          go_wp2_with fail
          by_cases hbad : k < 1 ∨ 7 < k ∨ v < 0
          · refine (fix_bad v k _ hbad).mono ?_
            rintro e w6 ⟨rfl, rfl⟩
            go_wp2_with fail
            refine (alive_any _).mono ?_
            rintro e w7 ⟨rfl, hb7⟩
            go_wp2_with fail
            go_ret
            exact ⟨rfl, hb5.trans (hb7.mono hb5.size)⟩
          · obtain ⟨K, rfl⟩ : ∃ K : Nat, k = K := ⟨k.toNat, by omega⟩
            obtain ⟨V, rfl⟩ : ∃ V : Nat, v = V := ⟨v.toNat, by omega⟩
            by_cases hgr : V < 256 ^ K
            · refine (fix_good V K _ (by omega) (by omega) hgr).mono ?_
              rintro e w6 ⟨rfl, hb6⟩
              have hb56 := hb5.trans (hb6.mono hb5.size)
              have hlenF := fixB_len V K
              have hun := unfix_fix V K
              rw [Nat.mod_eq_of_lt hgr] at hun
              have hu := unfix_good ⟨(fixB V K).toArray⟩ 0 K w6 (by show (fixB V K).toArray.size ≤ _; rw [List.size_toArray, hlenF]; omega) (by omega) (by omega) (by show 0 + K ≤ (fixB V K).toArray.size; rw [List.size_toArray, hlenF]; omega)
              rw [bytes_mk, List.drop_zero, List.take_of_length_le (by omega), hun] at hu
              have HU : Hid (Calls Try.prog 18 #[.string ⟨(fixB V K).toArray⟩, .int .i64 0, .int .i64 K] w6 fun e w' => e = .returned (.tuple #[.int .i64 V, .int .i64 0]) ∧ w6 = w') := Lib.hid hu
              have hsz : (fixB V K).length = K := hlenF
              clear hu hlenF hun hb6
              go_wp2_with fail
              refine HU.out.mono ?_
              rintro e w7 ⟨rfl, rfl⟩
              go_wp2_with fail
              refine (alive_any _).mono ?_
              rintro e w8 ⟨rfl, hb8⟩
              go_wp2_with fail
              go_ret
              exact ⟨rfl, hb56.trans (hb8.mono hb56.size)⟩
            · refine (fix_great V K _ (by omega) (by omega) hgr).mono ?_
              rintro e w6 ⟨rfl, rfl⟩
              go_wp2_with fail
              refine (alive_any _).mono ?_
              rintro e w7 ⟨rfl, hb7⟩
              go_wp2_with fail
              go_ret
              exact ⟨rfl, hb5.trans (hb7.mono hb5.size)⟩
end Go.Proofs.Ytegiibpdkioocaa
