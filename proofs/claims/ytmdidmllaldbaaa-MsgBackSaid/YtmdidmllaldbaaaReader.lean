/- The walks of num.Reader's methods: each answers and leaves what the plain reader tells. -/
import Derived.Test.YtmdidmllaldbaaaNumber
import Derived.Test.YtmdidmllaldbaaaClone
import Derived.Test.YtmdidmllaldbaaaReaderP
namespace Go.Proofs.Ytmdidmllaldbaaa
open Go.RowKit
/-- A reader stands at block b: the bytes that are left, and its error. -/
def Rdr (w : World) (b : Nat) (st : RSt) : Prop :=
  ∃ s : ByteArray, s.data.toList = st.1 ∧ s.size ≤ 9223372036854775807 ∧ w.heap[b]? = some (.cells #[.string s, .int .i64 st.2] 72 (0, 0))
theorem Rdr.lt {w : World} {b : Nat} {st : RSt} (h : Rdr w b st) : b < w.heap.size := by obtain ⟨s, _, _, hb⟩ := h; exact blk_lt hb
theorem off_no {w : World} {b : Nat} {st : RSt} (h : Rdr w b st) (h0 : st.2 = 0) :
    Calls Try.prog 46 #[.pointer (some ⟨b, 0, none⟩)] w fun e w' => e = .returned (.bool false) ∧ w = w' := by
  obtain ⟨s, hs, hz, hb⟩ := h
  have h1 := blk_cell hb 1
  rw [h0] at h1
  clear hb hs
  simp at h1
  go_enter Try.func46, Try.ntmps46
  go_wp2
  go_ret
  exact ⟨rfl, rfl⟩
theorem off_yes {w : World} {b : Nat} {st : RSt} (h : Rdr w b st) (h0 : st.2 ≠ 0) :
    Calls Try.prog 46 #[.pointer (some ⟨b, 0, none⟩)] w fun e w' => e = .returned (.bool true) ∧ w = w' := by
  obtain ⟨s, hs, hz, hb⟩ := h
  have h1 := blk_cell hb 1
  have hne : (st.2 != 0) = true := by simpa using h0
  clear hb hs h0
  simp at h1
  go_enter Try.func46, Try.ntmps46
  go_wp2
  go_ret
  exact ⟨rfl, rfl⟩
theorem off_nil (w : World) :
    Calls Try.prog 46 #[.pointer none] w fun e w' => e = .returned (.bool true) ∧ w = w' := by
  go_enter Try.func46, Try.ntmps46
  go_wp2
  go_ret
  exact ⟨rfl, rfl⟩
theorem err_any {w : World} {b : Nat} {st : RSt} (h : Rdr w b st) :
    Calls Try.prog 35 #[.pointer (some ⟨b, 0, none⟩)] w fun e w' => e = .returned (.int .i64 st.2) ∧ w = w' := by
  obtain ⟨s, hs, hz, hb⟩ := h
  have h1 := blk_cell hb 1
  clear hb hs
  simp at h1
  go_enter Try.func35, Try.ntmps35
  go_wp2
  go_ret
  exact ⟨rfl, rfl⟩
theorem err_nil (w : World) :
    Calls Try.prog 35 #[.pointer none] w fun e w' => e = .returned (.int .i64 1) ∧ w = w' := by
  go_enter Try.func35, Try.ntmps35
  go_wp2
  go_ret
  exact ⟨rfl, rfl⟩
theorem end_any {w : World} {b : Nat} {st : RSt} (h : Rdr w b st) :
    Calls Try.prog 25 #[.pointer (some ⟨b, 0, none⟩)] w fun e w' => e = .returned (.int .i64 (rEnd st)) ∧ w = w' := by
  have he := err_any h
  have HE := Lib.hid he
  clear he
  obtain ⟨s, hs, hz, hb⟩ := h
  have h0 := blk_cell hb 0
  clear hb
  simp at h0
  by_cases hst : st.2 = 0
  · have hne : (st.2 != 0) = false := by simpa using hst
    by_cases hl : st.1 = []
    · have hse : s = ⟨#[]⟩ := by
        rcases s with ⟨⟨l⟩⟩
        have : l = [] := by rw [← hl, ← hs]
        subst this; rfl
      have hr : rEnd st = 0 := by unfold rEnd; rw [if_neg (by simpa using hst), if_neg (by simpa using hl)]
      subst hse
      have HR := Lib.hid hr
      clear hs hl hr hst
      go_enter Try.func25, Try.ntmps25
      go_wp2_with (go_at_call 35; refine (HE.out).mono ?_; rintro e w' ⟨rfl, rfl⟩)
      go_ret
      exact ⟨by rw [HR.out]; rfl, rfl⟩
    · have hse : (!s.toList.isEmpty) = true := by
        rw [ByteArray.toList_eq, hs]
        cases h : st.1 with
        | nil => exact absurd h hl
        | cons a l => rfl
      have hr : rEnd st = 4 := by unfold rEnd; rw [if_neg (by simpa using hst), if_pos (by simpa using hl)]
      have HR := Lib.hid hr
      clear hs hl hr hst
      go_enter Try.func25, Try.ntmps25
      go_wp2_with (go_at_call 35; refine (HE.out).mono ?_; rintro e w' ⟨rfl, rfl⟩)
      go_ret
      exact ⟨by rw [HR.out]; rfl, rfl⟩
  · have hne : (st.2 != 0) = true := by simpa using hst
    have hr : rEnd st = st.2 := by unfold rEnd; rw [if_pos (by simpa using hst)]
    have HR := Lib.hid hr
    clear hs hr hst
    go_enter Try.func25, Try.ntmps25
    go_wp2_with (go_at_call 35; refine (HE.out).mono ?_; rintro e w' ⟨rfl, rfl⟩)
    go_ret
    exact ⟨by rw [HR.out]; rfl, rfl⟩
theorem end_nil (w : World) :
    Calls Try.prog 25 #[.pointer none] w fun e w' => e = .returned (.int .i64 1) ∧ w = w' := by
  go_enter Try.func25, Try.ntmps25
  go_wp2_with (go_at_call 35; refine (err_nil _).mono ?_; rintro e w' ⟨rfl, rfl⟩)
  go_ret
  exact ⟨rfl, rfl⟩

set_option maxHeartbeats 400000 in
theorem rvar_any {w : World} {b : Nat} {st : RSt} (h : Rdr w b st) :
    Calls Try.prog 30 #[.pointer (some ⟨b, 0, none⟩)] w fun e w' => e = .returned (.int .i64 (rVar st).1) ∧ Rdr w' b (rVar st).2 ∧ w.grownBy w' (some b) := by
  by_cases h0 : st.2 = 0
  · have HO := Lib.hid (off_no h h0)
    obtain ⟨s, hs, hz, hb⟩ := h
    have c0 := blk_cell hb 0
    have c1 := blk_cell hb 1
    have f0 := blk_frozen hb 0
    have f1 := blk_frozen hb 1
    have HB := Lib.hid hb
    have hst : st = (s.data.toList, 0) := by rw [hs, ← h0]
    simp at c0 c1
    have hnb := number_any s w hz
    have HN := Lib.hid hnb
    clear hb hs h0 hnb
    subst hst
    by_cases he : (numb 0 0 s.data.toList).2.2 = 0
    · have hr : rVar (s.data.toList, 0) = ((numb 0 0 s.data.toList).1, ((numb 0 0 s.data.toList).2.1, 0)) := by
        unfold rVar; rw [if_neg (by simp), if_neg (by simpa using he)]
      have HR := Lib.hid hr
      have HE := Lib.hid he
      clear hr he
      go_enter Try.func30, Try.ntmps30
      go_wp2_with (first | (go_at_call 46; refine (HO.out).mono ?_; rintro e w' ⟨rfl, rfl⟩) | (go_at_call 47; refine (HN.out).mono ?_; rintro e w' ⟨r, hrz, hrd, rfl, n, rfl⟩; rw [HE.out]; have HD := Lib.hid hrd; clear hrd))
      go_ret
      refine ⟨by rw [HR.out]; rfl, ⟨r, by rw [HR.out]; exact HD.out, by omega, ?_⟩, (grown_drewN w n _).trans (grown_set _ _ _ _)⟩
      have := blk_set (w := w.drewN n) (g := b) HB.out 0 (.string r)
      rw [HR.out]
      exact this
    · have hr : rVar (s.data.toList, 0) = (0, (s.data.toList, (numb 0 0 s.data.toList).2.2)) := by
        unfold rVar; rw [if_neg (by simp), if_pos (by simpa using he)]
      have hne : ((numb 0 0 s.data.toList).2.2 != 0) = true := by simpa using he
      have HR := Lib.hid hr
      clear hr he
      go_enter Try.func30, Try.ntmps30
      go_wp2_with (first | (go_at_call 46; refine (HO.out).mono ?_; rintro e w' ⟨rfl, rfl⟩) | (go_at_call 47; refine (HN.out).mono ?_; rintro e w' ⟨r, hrz, hrd, rfl, n, rfl⟩; have HD := Lib.hid hrd; clear hrd))
      go_ret
      refine ⟨by rw [HR.out]; rfl, ⟨s, by rw [HR.out], by omega, ?_⟩, (grown_drewN w n _).trans (grown_set _ _ _ _)⟩
      have := blk_set (w := w.drewN n) (g := b) HB.out 1 (.int .i64 (numb 0 0 s.data.toList).2.2)
      rw [HR.out]
      exact this
  · have HO := Lib.hid (off_yes h h0)
    have HR := Lib.hid (rVar_off h0)
    have H := Lib.hid h
    clear h h0
    go_enter Try.func30, Try.ntmps30
    go_wp2_with (go_at_call 46; refine (HO.out).mono ?_; rintro e w' ⟨rfl, rfl⟩)
    go_ret
    exact ⟨by rw [HR.out]; rfl, by rw [HR.out]; exact H.out, grown_refl _ _⟩
theorem rvar_nil (w : World) :
    Calls Try.prog 30 #[.pointer none] w fun e w' => e = .returned (.int .i64 0) ∧ w = w' := by
  go_enter Try.func30, Try.ntmps30
  go_wp2_with (go_at_call 46; refine (off_nil _).mono ?_; rintro e w' ⟨rfl, rfl⟩)
  go_ret
  exact ⟨rfl, rfl⟩
end Go.Proofs.Ytmdidmllaldbaaa
