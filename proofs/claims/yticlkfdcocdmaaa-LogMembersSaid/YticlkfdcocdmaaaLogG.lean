/- The walks of New, where entries do not follow, and of a log's Slice. -/
import Derived.Test.YticlkfdcocdmaaaLogF
namespace Go.Proofs.Yticlkfdcocdmaaa
open Go.RowKit
set_option linter.unusedVariables false
set_option maxHeartbeats 400000 in
theorem new_bad (base term : Int) (ao : Option Addr) (n c : Nat) (l : List Ent) (w : World) (hl : Ents w w.heap.size ao n l) (hn : n ≤ 9223372036854775807)
    (hb : 0 ≤ base) (ht : 0 ≤ term) (hf : folB base term l = false) :
    Calls Try.prog 11 #[.int .i64 base, .int .i64 term, .slice ao n c] w fun e w' => e = .returned (.tuple #[.pointer none, .int .i64 1]) ∧ Below w.heap.size w w' := by
  have HF := Lib.hid (follow_any base term ao n c l w hl hn)
  rw [hf] at HF
  clear hl hf
  have hd1 : decide (base < 0) = false := by simpa using hb
  have hd2 : decide (term < 0) = false := by simpa using ht
  go_enter Try.func11, Try.ntmps11
  go_wp2_with (go_at_call 29; refine (HF.out).mono ?_; rintro e w1 ⟨rfl, hb1⟩)
  go_ret2
  exact ⟨rfl, hb1⟩
/-- What Slice answers. -/
def sliceV (x : LogV) (f m : Int) : List Ent := if f ≤ x.base ∨ x.l.length < f - x.base ∨ m < 1 then [] else (x.l.drop (f - x.base - 1).toNat).take m.toNat
/-- A new slice of entries. -/
def SliceRes (l : List Ent) (w : World) (e : Ending) (w' : World) : Prop :=
  ∃ ao n c, e = .returned (.slice ao n c) ∧ w'.ownsRow w.heap.size 32 4 (.slice ao n c) n (entCells l) ∧ l.length = n ∧ Below w.heap.size w w'
set_option maxHeartbeats 400000 in
theorem slice_no {w : World} {B b : Nat} {x : LogV} (h : LogAt w B b x) (f m : Int) (hb0 : 0 ≤ x.base) (hb9 : x.base ≤ 9223372036854775807) (hf : f ≤ 9223372036854775807) (hno : f ≤ x.base ∨ x.l.length < f - x.base ∨ m < 1) :
    Calls Try.prog 19 #[.pointer (some ⟨b, 0, none⟩), .int .i64 f, .int .i64 m] w (SliceRes [] w) := by
  obtain ⟨ao, cap, c0, c1, c2, ho, hlt, hn⟩ := h.facts
  obtain ⟨n, hne⟩ : ∃ n, n = x.l.length := ⟨_, rfl⟩
  rw [← hne] at c2 hn hno
  obtain ⟨base, hbe⟩ : ∃ base, base = x.base := ⟨_, rfl⟩
  rw [← hbe] at c0 hb0 hb9 hno
  clear ho h hne hbe
  by_cases h1 : f ≤ base
  · have hd1 : decide (f ≤ base) = true := by simpa using h1
    go_enter Try.func19, Try.ntmps19
    go_wp2_with fail
    go_quiet (fail)
    go_wp2_with fail
    go_ret
    exact ⟨none, 0, 0, rfl, World.ownsRow_nil _ _ _ _, rfl, below_drewN (Below.refl _ _) _⟩
  · have hd1 : decide (f ≤ base) = false := by simpa using h1
    have hw : IntKind.i64.wrap (f - base) = f - base := IntWalk.i64_in _ (by omega)
    by_cases h2 : (n : Int) < f - base
    · have hd2 : decide ((n : Int) < f - base) = true := by simpa using h2
      go_enter Try.func19, Try.ntmps19
      go_wp2_with fail
      go_quiet (fail)
      go_wp2_with fail
      go_ret
      exact ⟨none, 0, 0, rfl, World.ownsRow_nil _ _ _ _, rfl, below_drewN (Below.refl _ _) _⟩
    · have hd2 : decide ((n : Int) < f - base) = false := by simpa using h2
      have h3 : m < 1 := by omega
      have hd3 : decide (m < 1) = true := by simpa using h3
      go_enter Try.func19, Try.ntmps19
      go_wp2_with fail
      go_quiet (fail)
      go_wp2_with fail
      go_ret
      exact ⟨none, 0, 0, rfl, World.ownsRow_nil _ _ _ _, rfl, below_drewN (Below.refl _ _) _⟩
/-- The slice from place k on, and of it r entries, with the capacities as they come. -/
theorem sliceE_l1 (w : World) (g o n c k : Nat) (h1 : k < n) (h2 : n ≤ c) :
    (Instr.sliceAt 22 (.slice (some ⟨g, o, none⟩) n c) (some (.int .i64 (k : Int))) none none).run Try.prog w = .ok (.slice (some ⟨g, o + k * 4, none⟩) (n - k) (c - k)) w := sliceE_l w g o n c k (by omega) (by omega)
theorem sliceE_h (w : World) (ao : Option Addr) (n c k : Nat) (h2 : k ≤ c) :
    (Instr.sliceAt 22 (.slice ao n c) none (some (.int .i64 (k : Int))) none).run Try.prog w = .ok (.slice ao k c) w := by
  have hun : Try.prog.underlying 22 = some (.slice (Try.prog.elem 22)) := by kernel_rfl
  have hs : (sizeOf (Try.prog.elem 22)).run Try.prog w = .ok 4 w := by kernel_rfl
  rw [run_sliceAt_slice _ _ _ _ _ _ hun, run_slice_h w _ _ _ _ hun .i64 (k : Int) (by omega) (by omega), hs]
  cases ao <;> simp [sliced, Addr.add]
theorem ents_cut {W : World} {B : Nat} {ao : Option Addr} {n r : Nat} {l : List Ent} (h : Ents W B ao n l) (hr : r ≤ n) : Ents W B ao r (l.take r) :=
  ⟨by rw [List.length_take, h.1]; omega, fun hp => by
    obtain ⟨b, o, ha, hb, hc⟩ := h.2 (by omega)
    exact ⟨b, o, ha, hb, fun k e hk => hc k e (by
      have hkr : k < r := by have := (List.getElem?_eq_some_iff.1 hk).1; rw [List.length_take] at this; omega
      rw [List.getElem?_take, if_pos hkr] at hk; exact hk)⟩⟩
set_option maxHeartbeats 1000000 in
theorem slice_yes {w : World} {B b : Nat} {x : LogV} (h : LogAt w B b x) (k r : Nat) (f m : Int) (hb0 : 0 ≤ x.base) (hf : f ≤ 9223372036854775807) (hfk : f = x.base + k + 1) (hk : k < x.l.length) (hm : 1 ≤ m) (hmr : (r : Int) = min m ((x.l.length : Int) - k)) (hn : x.l.length * 40 ≤ 140737488355328) :
    Calls Try.prog 19 #[.pointer (some ⟨b, 0, none⟩), .int .i64 f, .int .i64 m] w (SliceRes ((x.l.drop k).take r) w) := by
  obtain ⟨ao, cap, c0, c1, c2, ho, hlt, _⟩ := h.facts
  have hE := ents_own ho
  obtain ⟨g, o, e, rfl, hg, _, _⟩ := hE.get hk
  obtain ⟨ao1, cap1, hv, hc, _, _⟩ := own_shape ho
  injection hv with hv1 _ hv'
  subst hv'
  subst hv1
  have hD := ents_cut (hE.drop hk) (r := r) (by omega)
  have hlen : ((x.l.drop k).take r).length = r := by rw [List.length_take, List.length_drop]; omega
  have HL := Lib.hid hlen
  obtain ⟨n, hne⟩ : ∃ n, n = x.l.length := ⟨_, rfl⟩
  rw [← hne] at c2 hn hk hmr hc
  obtain ⟨base, hbe⟩ : ∃ base, base = x.base := ⟨_, rfl⟩
  rw [← hbe] at c0 hb0 hfk
  have HD := Lib.hid hD
  clear ho h hbe hE hD hlen hne
  have hrn : r ≤ n - k := by omega
  have hd1 : decide (f ≤ base) = false := by simp; omega
  have hw : IntKind.i64.wrap (f - base) = (k : Int) + 1 := by rw [IntWalk.i64_in _ (by omega)]; omega
  have hw2 : IntKind.i64.wrap ((k : Int) + 1 - 1) = (k : Int) := by rw [IntWalk.i64_in _ (by omega)]; omega
  have hd2 : decide ((n : Int) < (k : Int) + 1) = false := by simp; omega
  have hd3 : decide (m < 1) = false := by simpa using hm
  have hx1 : (0 : Int) ≤ k := by omega
  have hx2 : (k : Int) < n := by omega
  have hww : f - base = (k : Int) + 1 := by omega
  have hcl : ∀ W : World, Below w.heap.size w W → Hid (Calls Try.prog 32 #[.slice (some ⟨g, o + k * 4, none⟩) r (cap - k)] W (OwnsEnts W.heap.size r ((x.l.drop k).take r) W)) := fun W hb =>
    Lib.hid (cloneE_any _ r (cap - k) _ W (((HD.out.below hb)).mono hb.size) (by omega) (by simp))
  have HCl := Lib.hid hcl
  clear hcl hfk
  by_cases hmn : m ≤ ((n - k : Nat) : Int)
  · obtain rfl : m = (r : Int) := by omega
    clear hmr
    go_enter Try.func19, Try.ntmps19
    go_wp2_with fail
    go_quiet (fail)
    go_wp2_with fail
    go_quiet (fail)
    go_wp2_with fail
    refine ((HCl.out _ (below_drewN (Below.refl _ _) _)).out).mono ?_
    rintro e1 w1 ⟨ao2, cap2, rfl, ho2, hb2⟩
    go_wp2_with fail
    go_ret
    exact ⟨ao2, r, cap2, rfl, ho2, HL.out, (below_drewN (Below.refl _ _) _).trans hb2⟩
  · obtain rfl : r = n - k := by omega
    clear hmr
    go_enter Try.func19, Try.ntmps19
    go_wp2_with fail
    go_quiet (fail)
    go_wp2_with fail
    go_quiet (fail)
    go_wp2_with fail
    refine ((HCl.out _ (below_drewN (Below.refl _ _) _)).out).mono ?_
    rintro e1 w1 ⟨ao2, cap2, rfl, ho2, hb2⟩
    go_wp2_with fail
    go_ret
    exact ⟨ao2, n - k, cap2, rfl, ho2, HL.out, (below_drewN (Below.refl _ _) _).trans hb2⟩
theorem slice_any {w : World} {B b : Nat} {x : LogV} (h : LogAt w B b x) (f m : Int) (hb0 : 0 ≤ x.base) (hb9 : x.base ≤ 9223372036854775807) (hf : f ≤ 9223372036854775807) (hn : x.l.length * 40 ≤ 140737488355328) :
    Calls Try.prog 19 #[.pointer (some ⟨b, 0, none⟩), .int .i64 f, .int .i64 m] w (SliceRes (sliceV x f m) w) := by
  by_cases hno : f ≤ x.base ∨ x.l.length < f - x.base ∨ m < 1
  · have e : sliceV x f m = [] := by unfold sliceV; rw [if_pos hno]
    rw [e]
    exact slice_no h f m hb0 hb9 hf hno
  · obtain ⟨k, hk⟩ : ∃ k : Nat, f - x.base - 1 = k := ⟨(f - x.base - 1).toNat, by omega⟩
    obtain ⟨r, hr⟩ : ∃ r : Nat, (r : Int) = min m ((x.l.length : Int) - k) := ⟨(min m ((x.l.length : Int) - k)).toNat, by omega⟩
    have e : sliceV x f m = (x.l.drop k).take r := by
      unfold sliceV
      rw [if_neg hno, hk, Int.toNat_natCast]
      by_cases hmn : m ≤ (x.l.length : Int) - k
      · rw [show r = m.toNat from by omega]
      · rw [List.take_of_length_le (by rw [List.length_drop]; omega), List.take_of_length_le (by rw [List.length_drop]; omega)]
    rw [e]
    exact slice_yes h k r f m hb0 hf (by omega) (by omega) (by omega) hr hn
end Go.Proofs.Yticlkfdcocdmaaa
