/- The walk of arboretumlaw29.CliNone. -/
import Derived.Test.YtfogoebflfkknaaCliL
import Derived.Test.YtfogoebflfkknaaLightL
namespace Go.Proofs.Ytfogoebflfkknaa
open Go.RowKit
set_option linter.unusedVariables false
set_option maxRecDepth 20000 in
set_option maxHeartbeats 2000000 in
theorem take_nil {w : World} {p : Option Addr} (h : NoCli w p) (d : ByteArray) : Calls Try.prog 39 #[.pointer p, .agg #[.int .i64 0, .int .i64 0, .string d]] w fun e w' => e = .returned (.slice none 0 0) ∧ Below w.heap.size w w' := by
  have hA : Below w.heap.size w (w.alloc (.cells #[.int .i64 0, .int .i64 0, .string d] 65)) := (Below.refl _ _).alloc (Nat.le_refl _) _
  have h1 := h.below hA
  have HA := Lib.hid hA
  clear h hA
  go_enter Try.func39, Try.ntmps39
  go_wp2_with fail
  generalize w.alloc (.cells #[.int .i64 0, .int .i64 0, .string d] 65) = W1 at h1 HA ⊢
  have HN := Lib.hid (fun p' : SinceW W1.heap.size W1 => none_no (h1.below p'.h))
  clear h1
  refine wp_region_since (B := W1.heap.size) (W0 := W1) (by kernel_rfl) (by kernel_rfl) (Below.refl _ _) ?_
  repeat (go_big_quiet_step ((go_at_call 73; exact since_same (HN.out _))))
  refine wpQuiet_nil ?_
  intro w5 hw'
  have hv5 : Below W1.heap.size W1 w5 := by obtain ⟨p, rfl⟩ := hw'; exact p.h
  have HB := Lib.hid (HA.out.trans (hv5.mono HA.out.size))
  clear hw' hv5 HN HA
  go_wp2_with fail
  go_ret
  exact ⟨rfl, HB.out⟩
theorem LOps.one {w : World} {g : Nat} (o : LOp) {t : TypeId} (h : w.heap[g]? = some (.cells o.cells.toArray t (0, 0))) : LOps w w.heap.size (some ⟨g, 0, none⟩) 1 [o] := by
  refine ⟨rfl, fun _ => ⟨g, 0, rfl, blk_lt h, fun k e hk j v hj => ?_⟩⟩
  rcases k with _ | k
  · have : o = e := by simpa using hk
    subst this
    rw [blk_cell h]
    simpa using hj
  · simp at hk
set_option maxRecDepth 20000 in
set_option maxHeartbeats 4000000 in
theorem walk_CliNone (o : LOp) (hok : LOpOk o) (w : World) : Calls Try.prog 8 #[.agg o.cells.toArray] w fun e w' => e = .returned (.bool true) ∧ Below w.heap.size w w' := by
  obtain ⟨kd, a, b, key, val, old, ⟨er, nm, vl⟩, dt⟩ := o
  have hL := fun (W : World) (g : Nat) (h : W.heap[g]? = some (.cells #[.int .i64 kd, .int .i64 a, .int .i64 b, .string key, .string val, .string old, .int .i64 er, .string vl, .int .i64 nm, .string dt] 71 (0, 0))) => light_any (c := 1) (LOps.one ⟨kd, a, b, key, val, old, ⟨er, nm, vl⟩, dt⟩ h) (by omega)
  have HL := Lib.hid hL
  unfold LOp.cells
  clear hL hok
  go_enter Try.func8, Try.ntmps8
  go_wp2_with fail
  refine (HL.out _ _ (new_at _ _ _ (by simp))).mono ?_
  rintro e w1 ⟨x, rfl, -, rfl⟩
  have HB1 := Lib.hid (((Below.refl w.heap.size w).alloc (Nat.le_refl _) (.cells #[.int .i64 kd, .int .i64 a, .int .i64 b, .string key, .string val, .string old, .int .i64 er, .string vl, .int .i64 nm, .string dt] 71)).alloc (by simp) (.cells #[.int .i64 kd, .int .i64 a, .int .i64 b, .string key, .string val, .string old, .int .i64 er, .string vl, .int .i64 nm, .string dt] 71))
  cases x
  · clear HL
    go_wp2_with fail
    refine (aliveCl_any _).mono ?_
    rintro e w2 ⟨rfl, hb2⟩
    have HB2 := Lib.hid (HB1.out.trans (hb2.mono HB1.out.size))
    clear hb2 HB1
    go_wp2_with fail
    go_ret
    exact ⟨rfl, HB2.out⟩
  · clear HL
    go_wp2_with fail
    have hB3 : Below w.heap.size w (((w.alloc (.cells #[.int .i64 kd, .int .i64 a, .int .i64 b, .string key, .string val, .string old, .int .i64 er, .string vl, .int .i64 nm, .string dt] 71)).alloc (.cells #[.int .i64 kd, .int .i64 a, .int .i64 b, .string key, .string val, .string old, .int .i64 er, .string vl, .int .i64 nm, .string dt] 71)).alloc (.cells #[.int .i64 0, .slice none 0 0, .int .i64 0, .int .i64 0, .int .i64 0, .int .i64 0, .bool false, .int .i64 0, .int .i64 0, .int .i64 0, .string ⟨#[]⟩, .string ⟨#[]⟩, .string ⟨#[]⟩, .int .i64 0, .bool false, .int .i64 0, .int .i64 0, .int .i64 0, .string ⟨#[]⟩, .string ⟨#[]⟩, .string ⟨#[]⟩, .int .i64 0, .bool false, .chan none] 77)) := HB1.out.alloc (by simp; omega) _
    have hz : (((w.alloc (.cells #[.int .i64 kd, .int .i64 a, .int .i64 b, .string key, .string val, .string old, .int .i64 er, .string vl, .int .i64 nm, .string dt] 71)).alloc (.cells #[.int .i64 kd, .int .i64 a, .int .i64 b, .string key, .string val, .string old, .int .i64 er, .string vl, .int .i64 nm, .string dt] 71)).alloc (.cells #[.int .i64 0, .slice none 0 0, .int .i64 0, .int .i64 0, .int .i64 0, .int .i64 0, .bool false, .int .i64 0, .int .i64 0, .int .i64 0, .string ⟨#[]⟩, .string ⟨#[]⟩, .string ⟨#[]⟩, .int .i64 0, .bool false, .int .i64 0, .int .i64 0, .int .i64 0, .string ⟨#[]⟩, .string ⟨#[]⟩, .string ⟨#[]⟩, .int .i64 0, .bool false, .chan none] 77)).heap[w.heap.size + 1 + 1]? = some (.cells #[.int .i64 0, .slice none 0 0, .int .i64 0, .int .i64 0, .int .i64 0, .int .i64 0, .bool false, .int .i64 0, .int .i64 0, .int .i64 0, .string ⟨#[]⟩, .string ⟨#[]⟩, .string ⟨#[]⟩, .int .i64 0, .bool false, .int .i64 0, .int .i64 0, .int .i64 0, .string ⟨#[]⟩, .string ⟨#[]⟩, .string ⟨#[]⟩, .int .i64 0, .bool false, .chan none] 77 (0, 0)) := new_at _ _ _ (by simp)
    have hc : (((w.alloc (.cells #[.int .i64 kd, .int .i64 a, .int .i64 b, .string key, .string val, .string old, .int .i64 er, .string vl, .int .i64 nm, .string dt] 71)).alloc (.cells #[.int .i64 kd, .int .i64 a, .int .i64 b, .string key, .string val, .string old, .int .i64 er, .string vl, .int .i64 nm, .string dt] 71)).alloc (.cells #[.int .i64 0, .slice none 0 0, .int .i64 0, .int .i64 0, .int .i64 0, .int .i64 0, .bool false, .int .i64 0, .int .i64 0, .int .i64 0, .string ⟨#[]⟩, .string ⟨#[]⟩, .string ⟨#[]⟩, .int .i64 0, .bool false, .int .i64 0, .int .i64 0, .int .i64 0, .string ⟨#[]⟩, .string ⟨#[]⟩, .string ⟨#[]⟩, .int .i64 0, .bool false, .chan none] 77)).heap[w.heap.size]? = some (.cells #[.int .i64 kd, .int .i64 a, .int .i64 b, .string key, .string val, .string old, .int .i64 er, .string vl, .int .i64 nm, .string dt] 71 (0, 0)) := old_at _ _ _ _ (old_at _ _ _ _ (heap_alloc_new w _))
    generalize ((w.alloc (.cells #[.int .i64 kd, .int .i64 a, .int .i64 b, .string key, .string val, .string old, .int .i64 er, .string vl, .int .i64 nm, .string dt] 71)).alloc (.cells #[.int .i64 kd, .int .i64 a, .int .i64 b, .string key, .string val, .string old, .int .i64 er, .string vl, .int .i64 nm, .string dt] 71)).alloc (.cells #[.int .i64 0, .slice none 0 0, .int .i64 0, .int .i64 0, .int .i64 0, .int .i64 0, .bool false, .int .i64 0, .int .i64 0, .int .i64 0, .string ⟨#[]⟩, .string ⟨#[]⟩, .string ⟨#[]⟩, .int .i64 0, .bool false, .int .i64 0, .int .i64 0, .int .i64 0, .string ⟨#[]⟩, .string ⟨#[]⟩, .string ⟨#[]⟩, .int .i64 0, .bool false, .chan none] 77) = W3 at hB3 hz hc ⊢
    have HX := Lib.hid (And.intro hB3 (And.intro hz hc))
    generalize w.heap.size + 1 + 1 = zb at hz HX ⊢
    have HZ : Hid (NoCli W3 (some ⟨zb, 0, none⟩)) := Lib.hid (.inr ⟨zb, rfl, blk_lt hz, blk_cell hz 1⟩)
    have HK : Hid (NoCli W3 none) := Lib.hid (.inl rfl)
    clear hB3 hz hc HB1
    refine (ask_none HK.out _ _ _ _).mono ?_
    rintro e w2 ⟨rfl, rfl⟩
    go_wp2_with fail
    refine (ask_none HZ.out _ _ _ _).mono ?_
    rintro e w2 ⟨rfl, rfl⟩
    go_wp2_with fail
    refine (result_nil HK.out).mono ?_
    rintro e w4 ⟨rfl, hb4⟩
    have hb4' := hb4.alloc hb4.size (.cells #[.int .i64 0, .string ⟨#[]⟩, .int .i64 0] 26)
    have HX4 := Lib.hid (And.intro (HX.out.1.trans (hb4'.mono HX.out.1.size)) (And.intro (HZ.out.below hb4') ((hb4'.block _ (blk_lt HX.out.2.2)).trans HX.out.2.2)))
    clear hb4 hb4' HX HZ HK
    go_wp2_with fail
    generalize w4.alloc (.cells #[.int .i64 0, .string ⟨#[]⟩, .int .i64 0] 26) = W5 at HX4 ⊢
    refine (result_nil HX4.out.2.1).mono ?_
    rintro e w4 ⟨rfl, hb4⟩
    have hb4' := hb4.alloc hb4.size (.cells #[.int .i64 0, .string ⟨#[]⟩, .int .i64 0] 26)
    have HX6 := Lib.hid (And.intro (HX4.out.1.trans (hb4'.mono HX4.out.1.size)) (And.intro (HX4.out.2.1.below hb4') ((hb4'.block _ (blk_lt HX4.out.2.2)).trans HX4.out.2.2)))
    clear hb4 hb4' HX4
    go_wp2_with fail
    generalize w4.alloc (.cells #[.int .i64 0, .string ⟨#[]⟩, .int .i64 0] 26) = W6 at HX6 ⊢
    refine (drop_none (w := W6) (.inl rfl)).mono ?_
    rintro e w2 ⟨rfl, rfl⟩
    go_wp2_with fail
    refine (drop_none HX6.out.2.1).mono ?_
    rintro e w2 ⟨rfl, rfl⟩
    go_wp2_with fail
    refine (session_none (w := W6) (.inl rfl)).mono ?_
    rintro e w2 ⟨rfl, rfl⟩
    go_wp2_with fail
    have hq : ∀ p : SinceW W6.heap.size W6, NoCli p.w (some ⟨zb, 0, none⟩) ∧ p.w.cell? ⟨w.heap.size, 9, none⟩ = some (.string dt) := fun p => ⟨HX6.out.2.1.below p.h, blk_cell ((p.h.block _ (blk_lt HX6.out.2.2)).trans HX6.out.2.2) 9⟩
    have x9 := fun p => (hq p).2
    have HT0 := Lib.hid (fun p => take_nil (p := none) (w := (p : SinceW W6.heap.size W6).w) (.inl rfl) dt)
    have HT1 := Lib.hid (fun p => take_nil (hq p).1 dt)
    have HK0 := Lib.hid (fun p => tick_none (p := none) (w := (p : SinceW W6.heap.size W6).w) (.inl rfl))
    have HK1 := Lib.hid (fun p => tick_none (hq p).1)
    have HZ0 := Lib.hid (fun p => busy_none (p := none) (w := (p : SinceW W6.heap.size W6).w) (.inl rfl))
    have HZ1 := Lib.hid (fun p => busy_none (hq p).1)
    clear hq
    refine wp_region_since (B := W6.heap.size) (W0 := W6) (by kernel_rfl) (by kernel_rfl) (Below.refl _ _) ?_
    repeat (go_big_quiet_step (first
      | (go_at_call 35; exact since_call (Nat.le_refl _) (aliveCl_any _))
      | (go_at_call 38; with_reducible exact since_same (HK0.out _))
      | (go_at_call 38; with_reducible exact since_same (HK1.out _))
      | (go_at_call 39; with_reducible exact since_call (Nat.le_refl _) (HT0.out _))
      | (go_at_call 39; with_reducible exact since_call (Nat.le_refl _) (HT1.out _))
      | (go_at_call 40; with_reducible exact since_same (HZ0.out _))
      | (go_at_call 40; with_reducible exact since_same (HZ1.out _))))
    refine wpQuiet_nil ?_
    intro w7 hw'
    have hv7 : Below W6.heap.size W6 w7 := by obtain ⟨p, rfl⟩ := hw'; exact p.h
    have HB7 := Lib.hid (HX6.out.1.trans (hv7.mono HX6.out.1.size))
    clear hw' hv7 x9 HX6 HT0 HT1 HK0 HK1 HZ0 HZ1
    go_wp2_with fail
    go_ret
    exact ⟨rfl, HB7.out⟩
end Go.Proofs.Ytfogoebflfkknaa
