/- The walks of num.Reader's Count, Text and Bool. -/
import Derived.Test.YticlkfdcocdmaaaReader
namespace Go.Proofs.Yticlkfdcocdmaaa
open Go.RowKit
theorem rCount_pos (m : Int) (st : RSt) (_h : (rCount m st).2.2 = 0) : 0 ≤ (rCount m st).1 := by
  have h := _h
  unfold rCount at h ⊢
  split
  · exact Int.le_refl _
  · rename_i h1
    rw [if_neg h1] at h
    split
    · exact Int.le_refl _
    · rename_i h2
      split
      · exact Int.le_refl _
      · omega
/-- The error's place behind the store of an error. -/
theorem rdr_err {w : World} {b : Nat} {st : RSt} (h : Rdr w b st) (e : Int) : Rdr (w.setCell ⟨b, 1, none⟩ (.int .i64 e)) b (st.1, e) := by
  obtain ⟨s, hs, hz, hb⟩ := h
  exact ⟨s, hs, hz, blk_set hb 1 _⟩
theorem rdr_facts {w : World} {b : Nat} {st : RSt} (h : Rdr w b st) : ∃ s : ByteArray, s.data.toList = st.1 ∧ s.size ≤ 9223372036854775807 ∧ w.cell? ⟨b, 0, none⟩ = some (.string s) ∧
    w.cell? ⟨b, 1, none⟩ = some (.int .i64 st.2) ∧ w.frozen? ⟨b, 0, none⟩ = false ∧ w.frozen? ⟨b, 1, none⟩ = false := by
  obtain ⟨s, hs, hz, hb⟩ := h
  exact ⟨s, hs, hz, by rw [blk_cell hb]; rfl, by rw [blk_cell hb]; rfl, blk_frozen hb _, blk_frozen hb _⟩
theorem rdr_rest {w : World} {b : Nat} {st : RSt} (h : Rdr w b st) (r : ByteArray) (hr : r.size ≤ 9223372036854775807) : Rdr (w.setCell ⟨b, 0, none⟩ (.string r)) b (r.data.toList, st.2) := by
  obtain ⟨s, hs, hz, hb⟩ := h
  exact ⟨r, rfl, hr, blk_set hb 0 _⟩
set_option maxHeartbeats 400000 in
theorem count_any {w : World} {b : Nat} {st : RSt} (h : Rdr w b st) (m : Int) :
    Calls Try.prog 36 #[.pointer (some ⟨b, 0, none⟩), .int .i64 m] w fun e w' => e = .returned (.int .i64 (rCount m st).1) ∧ Rdr w' b (rCount m st).2 ∧ w.grownBy w' (some b) := by
  have HV := Lib.hid (rvar_any h)
  clear h
  by_cases h0 : (rVar st).2.2 = 0
  · by_cases h1 : (rVar st).1 < 0
    · have hr : rCount m st = (0, ((rVar st).2.1, 4)) := by unfold rCount; rw [if_neg (by simpa using h0), if_pos h1]
      have HR := Lib.hid hr
      have H0 := Lib.hid h0
      clear hr h0
      go_enter Try.func36, Try.ntmps36
      go_wp2_with (first | (go_at_call 37; refine (HV.out).mono ?_; rintro e w1 ⟨rfl, hr1, hg1⟩; obtain ⟨s, hs, hz, c0, c1, f0, f1⟩ := rdr_facts hr1; have HS := Lib.hid hs; clear hs) | (go_at_call 41; refine (off_no hr1 H0.out).mono ?_; rintro e w' ⟨rfl, rfl⟩))
      go_ret
      exact ⟨by rw [HR.out]; rfl, by rw [HR.out]; exact rdr_err hr1 4, hg1.trans (grown_set _ _ _ _)⟩
    · by_cases h2 : m < (rVar st).1
      · have hr : rCount m st = (0, ((rVar st).2.1, 2)) := by unfold rCount; rw [if_neg (by simpa using h0), if_neg h1, if_pos h2]
        have HR := Lib.hid hr
        have H0 := Lib.hid h0
        clear hr h0
        go_enter Try.func36, Try.ntmps36
        go_wp2_with (first | (go_at_call 37; refine (HV.out).mono ?_; rintro e w1 ⟨rfl, hr1, hg1⟩; obtain ⟨s, hs, hz, c0, c1, f0, f1⟩ := rdr_facts hr1; have HS := Lib.hid hs; clear hs) | (go_at_call 41; refine (off_no hr1 H0.out).mono ?_; rintro e w' ⟨rfl, rfl⟩))
        go_ret
        exact ⟨by rw [HR.out]; rfl, by rw [HR.out]; exact rdr_err hr1 2, hg1.trans (grown_set _ _ _ _)⟩
      · have hr : rCount m st = rVar st := by unfold rCount; rw [if_neg (by simpa using h0), if_neg h1, if_neg h2]
        have HR := Lib.hid hr
        have H0 := Lib.hid h0
        clear hr h0
        go_enter Try.func36, Try.ntmps36
        go_wp2_with (first | (go_at_call 37; refine (HV.out).mono ?_; rintro e w1 ⟨rfl, hr1, hg1⟩) | (go_at_call 41; refine (off_no hr1 H0.out).mono ?_; rintro e w' ⟨rfl, rfl⟩))
        go_ret
        exact ⟨by rw [HR.out]; rfl, by rw [HR.out]; exact hr1, hg1⟩
  · have hr : rCount m st = (0, (rVar st).2) := by unfold rCount; rw [if_pos (by simpa using h0)]
    have HR := Lib.hid hr
    have H0 := Lib.hid h0
    clear hr h0
    go_enter Try.func36, Try.ntmps36
    go_wp2_with (first | (go_at_call 37; refine (HV.out).mono ?_; rintro e w1 ⟨rfl, hr1, hg1⟩) | (go_at_call 41; refine (off_yes hr1 H0.out).mono ?_; rintro e w' ⟨rfl, rfl⟩))
    go_ret
    exact ⟨by rw [HR.out]; rfl, by rw [HR.out]; exact hr1, hg1⟩
theorem count_nil (w : World) (m : Int) :
    Calls Try.prog 36 #[.pointer none, .int .i64 m] w fun e w' => e = .returned (.int .i64 0) ∧ w = w' := by
  go_enter Try.func36, Try.ntmps36
  go_wp2_with (first | (go_at_call 37; refine (rvar_nil _).mono ?_; rintro e w' ⟨rfl, rfl⟩) | (go_at_call 41; refine (off_nil _).mono ?_; rintro e w' ⟨rfl, rfl⟩))
  go_ret
  exact ⟨rfl, rfl⟩
/-- What num.Reader.Text answers. -/
def TextRes (st : RSt) (m : Int) (b : Nat) (w : World) (e : Ending) (w' : World) : Prop :=
  ∃ r : ByteArray, r.data.toList = (rText m st).1 ∧ e = .returned (.string r) ∧ Rdr w' b (rText m st).2 ∧ w.grownBy w' (some b)
end Go.Proofs.Yticlkfdcocdmaaa
