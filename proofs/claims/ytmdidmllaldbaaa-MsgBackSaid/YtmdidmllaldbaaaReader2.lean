/- The walks of num.Reader's Count, Text and Bool. -/
import Derived.Test.YtmdidmllaldbaaaReader
namespace Go.Proofs.Ytmdidmllaldbaaa
open Go.RowKit
theorem rCount_pos (m : Int) (st : RSt) (_h : (rCount m st).2.2 = 0) : 0 ≤ (rCount m st).1 := by
  have h := _h
  unfold rCount at h ⊢
  split
  · exact Int.le_refl _
  · rename_i h1
    rw [if_neg h1] at h
    split
    · exact Int.le_refl _
    · rename_i h2
      split
      · exact Int.le_refl _
      · omega
/-- The error's place behind the store of an error. -/
theorem rdr_err {w : World} {b : Nat} {st : RSt} (h : Rdr w b st) (e : Int) : Rdr (w.setCell ⟨b, 1, none⟩ (.int .i64 e)) b (st.1, e) := by
  obtain ⟨s, hs, hz, hb⟩ := h
  exact ⟨s, hs, hz, blk_set hb 1 _⟩
theorem rdr_facts {w : World} {b : Nat} {st : RSt} (h : Rdr w b st) : ∃ s : ByteArray, s.data.toList = st.1 ∧ s.size ≤ 9223372036854775807 ∧ w.cell? ⟨b, 0, none⟩ = some (.string s) ∧
    w.cell? ⟨b, 1, none⟩ = some (.int .i64 st.2) ∧ w.frozen? ⟨b, 0, none⟩ = false ∧ w.frozen? ⟨b, 1, none⟩ = false := by
  obtain ⟨s, hs, hz, hb⟩ := h
  exact ⟨s, hs, hz, by rw [blk_cell hb]; rfl, by rw [blk_cell hb]; rfl, blk_frozen hb _, blk_frozen hb _⟩
theorem rdr_rest {w : World} {b : Nat} {st : RSt} (h : Rdr w b st) (r : ByteArray) (hr : r.size ≤ 9223372036854775807) : Rdr (w.setCell ⟨b, 0, none⟩ (.string r)) b (r.data.toList, st.2) := by
  obtain ⟨s, hs, hz, hb⟩ := h
  exact ⟨r, rfl, hr, blk_set hb 0 _⟩
set_option maxHeartbeats 400000 in
theorem count_any {w : World} {b : Nat} {st : RSt} (h : Rdr w b st) (m : Int) :
    Calls Try.prog 33 #[.pointer (some ⟨b, 0, none⟩), .int .i64 m] w fun e w' => e = .returned (.int .i64 (rCount m st).1) ∧ Rdr w' b (rCount m st).2 ∧ w.grownBy w' (some b) := by
  have HV := Lib.hid (rvar_any h)
  clear h
  by_cases h0 : (rVar st).2.2 = 0
  · by_cases h1 : (rVar st).1 < 0
    · have hr : rCount m st = (0, ((rVar st).2.1, 4)) := by unfold rCount; rw [if_neg (by simpa using h0), if_pos h1]
      have HR := Lib.hid hr
      have H0 := Lib.hid h0
      clear hr h0
      go_enter Try.func33, Try.ntmps33
      go_wp2_with (first | (go_at_call 30; refine (HV.out).mono ?_; rintro e w1 ⟨rfl, hr1, hg1⟩; obtain ⟨s, hs, hz, c0, c1, f0, f1⟩ := rdr_facts hr1; have HS := Lib.hid hs; clear hs) | (go_at_call 46; refine (off_no hr1 H0.out).mono ?_; rintro e w' ⟨rfl, rfl⟩))
      go_ret
      exact ⟨by rw [HR.out]; rfl, by rw [HR.out]; exact rdr_err hr1 4, hg1.trans (grown_set _ _ _ _)⟩
    · by_cases h2 : m < (rVar st).1
      · have hr : rCount m st = (0, ((rVar st).2.1, 2)) := by unfold rCount; rw [if_neg (by simpa using h0), if_neg h1, if_pos h2]
        have HR := Lib.hid hr
        have H0 := Lib.hid h0
        clear hr h0
        go_enter Try.func33, Try.ntmps33
        go_wp2_with (first | (go_at_call 30; refine (HV.out).mono ?_; rintro e w1 ⟨rfl, hr1, hg1⟩; obtain ⟨s, hs, hz, c0, c1, f0, f1⟩ := rdr_facts hr1; have HS := Lib.hid hs; clear hs) | (go_at_call 46; refine (off_no hr1 H0.out).mono ?_; rintro e w' ⟨rfl, rfl⟩))
        go_ret
        exact ⟨by rw [HR.out]; rfl, by rw [HR.out]; exact rdr_err hr1 2, hg1.trans (grown_set _ _ _ _)⟩
      · have hr : rCount m st = rVar st := by unfold rCount; rw [if_neg (by simpa using h0), if_neg h1, if_neg h2]
        have HR := Lib.hid hr
        have H0 := Lib.hid h0
        clear hr h0
        go_enter Try.func33, Try.ntmps33
        go_wp2_with (first | (go_at_call 30; refine (HV.out).mono ?_; rintro e w1 ⟨rfl, hr1, hg1⟩) | (go_at_call 46; refine (off_no hr1 H0.out).mono ?_; rintro e w' ⟨rfl, rfl⟩))
        go_ret
        exact ⟨by rw [HR.out]; rfl, by rw [HR.out]; exact hr1, hg1⟩
  · have hr : rCount m st = (0, (rVar st).2) := by unfold rCount; rw [if_pos (by simpa using h0)]
    have HR := Lib.hid hr
    have H0 := Lib.hid h0
    clear hr h0
    go_enter Try.func33, Try.ntmps33
    go_wp2_with (first | (go_at_call 30; refine (HV.out).mono ?_; rintro e w1 ⟨rfl, hr1, hg1⟩) | (go_at_call 46; refine (off_yes hr1 H0.out).mono ?_; rintro e w' ⟨rfl, rfl⟩))
    go_ret
    exact ⟨by rw [HR.out]; rfl, by rw [HR.out]; exact hr1, hg1⟩
theorem count_nil (w : World) (m : Int) :
    Calls Try.prog 33 #[.pointer none, .int .i64 m] w fun e w' => e = .returned (.int .i64 0) ∧ w = w' := by
  go_enter Try.func33, Try.ntmps33
  go_wp2_with (first | (go_at_call 30; refine (rvar_nil _).mono ?_; rintro e w' ⟨rfl, rfl⟩) | (go_at_call 46; refine (off_nil _).mono ?_; rintro e w' ⟨rfl, rfl⟩))
  go_ret
  exact ⟨rfl, rfl⟩
/-- What num.Reader.Text answers. -/
def TextRes (st : RSt) (m : Int) (b : Nat) (w : World) (e : Ending) (w' : World) : Prop :=
  ∃ r : ByteArray, r.data.toList = (rText m st).1 ∧ e = .returned (.string r) ∧ Rdr w' b (rText m st).2 ∧ w.grownBy w' (some b)
set_option maxHeartbeats 400000 in
theorem text_any {w : World} {b : Nat} {st : RSt} (h : Rdr w b st) (m : Int) :
    Calls Try.prog 34 #[.pointer (some ⟨b, 0, none⟩), .int .i64 m] w (TextRes st m b w) := by
  have HC := Lib.hid (count_any h m)
  clear h
  by_cases h0 : (rCount m st).2.2 = 0
  · have hn : 0 ≤ (rCount m st).1 := rCount_pos m st h0
    by_cases h1 : ((rCount m st).2.1.length : Int) < (rCount m st).1
    · have hr : rText m st = ([], ((rCount m st).2.1, 5)) := by unfold rText; rw [if_neg (by simpa using h0), if_pos h1]
      have HR := Lib.hid hr
      have H0 := Lib.hid h0
      clear hr h0
      go_enter Try.func34, Try.ntmps34
      go_wp2_with (first | (go_at_call 33; refine (HC.out).mono ?_; rintro e w1 ⟨rfl, hr1, hg1⟩; obtain ⟨s, hs, hz, c0, c1, f0, f1⟩ := rdr_facts hr1; have h2 : (s.size : Int) < (rCount m st).1 := (by have : s.data.toList.length = s.size := rfl; rw [hs] at this; omega); have HS := Lib.hid hs; clear hs) | (go_at_call 46; refine (off_no hr1 H0.out).mono ?_; rintro e w' ⟨rfl, rfl⟩))
      go_ret
      exact ⟨⟨#[]⟩, by rw [HR.out], rfl, by rw [HR.out]; exact rdr_err hr1 5, hg1.trans (grown_set _ _ _ _)⟩
    · obtain ⟨n, hn2⟩ := Int.eq_ofNat_of_zero_le hn
      have hr : rText m st = ((rCount m st).2.1.take n, ((rCount m st).2.1.drop n, 0)) := by unfold rText; rw [if_neg (by simpa using h0), if_neg h1, hn2]; rfl
      rw [hn2] at HC h1
      have HR := Lib.hid hr
      have H0 := Lib.hid h0
      clear hr h0 hn hn2
      go_enter Try.func34, Try.ntmps34
      go_wp2_with (first | (go_at_call 33; refine (HC.out).mono ?_; rintro e w1 ⟨rfl, hr1, hg1⟩; obtain ⟨s, hs, hz, c0, c1, f0, f1⟩ := rdr_facts hr1; have h2 : n ≤ s.size := (by have : s.data.toList.length = s.size := rfl; rw [hs] at this; omega); have HS := Lib.hid hs; clear hs) | (go_at_call 46; refine (off_no hr1 H0.out).mono ?_; rintro e w' ⟨rfl, rfl⟩))
      go_ret
      have hsz : s.data.toList.length = s.size := rfl
      have hd : (s.extract n s.size).data.toList = (rCount m st).2.1.drop n := by rw [Lib.extract_to_end, HS.out]
      have hdz : (s.extract n s.size).size ≤ s.size := by
        have := congrArg List.length (Lib.extract_to_end s n)
        rw [List.length_drop] at this
        have h1 : (s.extract n s.size).data.toList.length = (s.extract n s.size).size := rfl
        omega
      refine ⟨s.extract 0 n, by rw [HR.out, Lib.extract_data, HS.out]; rfl, rfl, ?_, hg1.trans (grown_set _ _ _ _)⟩
      have := rdr_rest hr1 (s.extract n s.size) (by omega)
      rw [HR.out]
      rw [hd, H0.out] at this
      exact this
  · have hr : rText m st = ([], (rCount m st).2) := by unfold rText; rw [if_pos (by simpa using h0)]
    have HR := Lib.hid hr
    have H0 := Lib.hid h0
    clear hr h0
    go_enter Try.func34, Try.ntmps34
    go_wp2_with (first | (go_at_call 33; refine (HC.out).mono ?_; rintro e w1 ⟨rfl, hr1, hg1⟩) | (go_at_call 46; refine (off_yes hr1 H0.out).mono ?_; rintro e w' ⟨rfl, rfl⟩))
    go_ret
    exact ⟨⟨#[]⟩, by rw [HR.out], rfl, by rw [HR.out]; exact hr1, hg1⟩
theorem text_nil (w : World) (m : Int) :
    Calls Try.prog 34 #[.pointer none, .int .i64 m] w fun e w' => e = .returned (.string ⟨#[]⟩) ∧ w = w' := by
  go_enter Try.func34, Try.ntmps34
  go_wp2_with (first | (go_at_call 33; refine (count_nil _ _).mono ?_; rintro e w' ⟨rfl, rfl⟩) | (go_at_call 46; refine (off_nil _).mono ?_; rintro e w' ⟨rfl, rfl⟩))
  go_ret
  exact ⟨rfl, rfl⟩
set_option maxHeartbeats 400000 in
theorem bool_any {w : World} {b : Nat} {st : RSt} (h : Rdr w b st) :
    Calls Try.prog 31 #[.pointer (some ⟨b, 0, none⟩)] w fun e w' => e = .returned (.bool (rBool st).1) ∧ Rdr w' b (rBool st).2 ∧ w.grownBy w' (some b) := by
  by_cases h0 : st.2 = 0
  · have HO := Lib.hid (off_no h h0)
    obtain ⟨s, hs, hz, c0, c1, f0, f1⟩ := rdr_facts h
    have H := Lib.hid h
    cases hl : st.1 with
    | nil =>
      have hr : rBool st = (false, ([], 5)) := by unfold rBool; rw [if_neg (by simpa using h0), hl]
      have hse : s.toList.isEmpty = true := by rw [ByteArray.toList_eq, hs, hl]; rfl
      have hse2 : s.toList = [] := by rw [ByteArray.toList_eq, hs, hl]
      have HR := Lib.hid hr
      have HL := Lib.hid hl
      clear hr hl hs h0 h
      go_enter Try.func31, Try.ntmps31
      go_wp2_with (go_at_call 46; refine (HO.out).mono ?_; rintro e w' ⟨rfl, rfl⟩)
      go_ret
      refine ⟨by rw [HR.out]; rfl, ?_, grown_set _ _ _ _⟩
      have := rdr_err H.out 5
      rw [HL.out] at this
      rw [HR.out]
      exact this
    | cons c r =>
      have hpos : 0 < s.size := by have e : s.data.toList.length = s.size := rfl; rw [hs, hl] at e; simp at e; omega
      have hc : s[0] = c := by
        have e1 : s.data.toList[0]? = some s[0] := by rw [List.getElem?_eq_getElem (by have e : s.data.toList.length = s.size := rfl; omega)]; rfl
        rw [hs, hl] at e1
        simpa using e1.symm
      have hse : s.toList.isEmpty = false := by rw [ByteArray.toList_eq, hs, hl]; rfl
      have hse2 : ¬ s.toList = [] := by rw [ByteArray.toList_eq, hs, hl]; simp
      by_cases h1 : 1 < c.toNat
      · have hr : rBool st = (false, (c :: r, 4)) := by unfold rBool; rw [if_neg (by simpa using h0), hl]; simp only; rw [if_pos h1]
        have h1' : (1 : Int) < s[0].toNat := by rw [hc]; omega
        have HR := Lib.hid hr
        have HL := Lib.hid hl
        clear hr hl hs h0 h hc
        go_enter Try.func31, Try.ntmps31
        go_wp2_with (go_at_call 46; refine (HO.out).mono ?_; rintro e w' ⟨rfl, rfl⟩)
        go_ret
        refine ⟨by rw [HR.out]; rfl, ?_, grown_set _ _ _ _⟩
        have := rdr_err H.out 4
        rw [HL.out] at this
        rw [HR.out]
        exact this
      · have hr : rBool st = (c.toNat == 1, (r, 0)) := by unfold rBool; rw [if_neg (by simpa using h0), hl]; simp only; rw [if_neg h1]
        have h1' : ¬ (1 : Int) < s[0].toNat := by rw [hc]; omega
        have hb1 : ((s[0].toNat : Int) == 1) = (c.toNat == 1) := by
          rw [hc, Bool.eq_iff_iff]; simp; omega
        have hd : (s.extract 1 s.size).data.toList = r := by rw [Lib.extract_to_end, hs, hl]; rfl
        have hdz : (s.extract 1 s.size).size ≤ 9223372036854775807 := by
          have h1 : (s.extract 1 s.size).data.toList.length = (s.extract 1 s.size).size := rfl
          have e : s.data.toList.length = s.size := rfl
          rw [hd] at h1; rw [hs, hl] at e; simp at e; omega
        obtain ⟨bb, hbb⟩ : ∃ bb, bb = (c.toNat == 1) := ⟨_, rfl⟩
        rw [← hbb] at hb1 hr
        have HR := Lib.hid hr
        have HL := Lib.hid hl
        have HD := Lib.hid hd
        have H0 := Lib.hid h0
        clear hr hl hs h0 h hc hd hbb
        go_enter Try.func31, Try.ntmps31
        go_wp2_with (go_at_call 46; refine (HO.out).mono ?_; rintro e w' ⟨rfl, rfl⟩)
        go_ret
        refine ⟨by rw [HR.out]; rfl, ?_, grown_set _ _ _ _⟩
        have := rdr_rest H.out (s.extract 1 s.size) hdz
        rw [HD.out, H0.out] at this
        rw [HR.out]
        exact this
  · have HO := Lib.hid (off_yes h h0)
    have hr : rBool st = (false, st) := by unfold rBool; rw [if_pos (by simpa using h0)]
    have HR := Lib.hid hr
    have H := Lib.hid h
    clear h h0 hr
    go_enter Try.func31, Try.ntmps31
    go_wp2_with (go_at_call 46; refine (HO.out).mono ?_; rintro e w' ⟨rfl, rfl⟩)
    go_ret
    exact ⟨by rw [HR.out]; rfl, by rw [HR.out]; exact H.out, grown_refl _ _⟩
theorem bool_nil (w : World) :
    Calls Try.prog 31 #[.pointer none] w fun e w' => e = .returned (.bool false) ∧ w = w' := by
  go_enter Try.func31, Try.ntmps31
  go_wp2_with (go_at_call 46; refine (off_nil _).mono ?_; rintro e w' ⟨rfl, rfl⟩)
  go_ret
  exact ⟨rfl, rfl⟩
end Go.Proofs.Ytmdidmllaldbaaa
