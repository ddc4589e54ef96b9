/- The walks of ent.Put, ent.Get and ent.One. -/
import Derived.Test.YtmdidmllaldbaaaGreatEntM
import Derived.Deep.RegionHeld3
namespace Go.Proofs.YtmdidmllaldbaaaGreat
open Go.RowKit
set_option linter.unusedVariables false
theorem entInfoE : (Tryz.prog.info? 51).map (fun i => (i.zero, i.size, i.bytes)) = some (some (.agg #[.int .i64 0, .int .i64 0, .int .i64 0, .string ⟨#[]⟩]), 4, 40) := by kernel_rfl
theorem entsB_len (l : List Ent) : (entsB l).length ≤ 40 * l.length + (l.map (·.dt.size)).sum := by
  induction l with
  | nil => simp [entsB]
  | cons e r ih =>
    have h1 : (entB e).length ≤ 40 + e.dt.size := by
      unfold entB textB
      rw [List.length_append, List.length_append]
      have := vars_len [e.ix, e.tm, e.kd]
      have := var1_len (e.dt.data.toList.length : Int)
      have h : e.dt.data.toList.length = e.dt.size := rfl
      simp at *
      omega
    rw [entsB_cons, List.length_append, List.length_cons, List.map_cons, List.sum_cons]
    omega
/-- Entries along a walk. -/
theorem ents_room {w : World} {B : Nat} {ao : Option Addr} {n : Nat} {l : List Ent} (h : Ents w B ao n l) (k : Nat) : (entsB (l.take k)).length ≤ 40 * n + (l.map (·.dt.size)).sum := by
  have h1 := entsB_len (l.take k)
  have h2 : (l.take k).length ≤ n := by rw [List.length_take, h.1]; omega
  have h3 : ((l.take k).map (·.dt.size)).sum ≤ (l.map (·.dt.size)).sum := by
    have e : (l.map (·.dt.size)).sum = ((l.take k).map (·.dt.size)).sum + ((l.drop k).map (·.dt.size)).sum := by
      rw [← List.sum_append_nat, ← List.map_append, List.take_append_drop]
    omega
  omega
theorem entsB_take_succ (l : List Ent) (k : Nat) (e : Ent) (h : l[k]? = some e) : entsB (l.take (k + 1)) = entsB (l.take k) ++ entB e := by
  have : l.take (k + 1) = l.take k ++ [e] := by rw [List.take_add_one, h]; rfl
  rw [this]
  simp [entsB]
set_option maxRecDepth 20000 in
set_option maxHeartbeats 4000000 in
theorem put_any {ao : Option Addr} {n c : Nat} {l : List Ent} {w : World} (hE : Ents w w.heap.size ao n l) (hok : ∀ e ∈ l, EntOk e) (hn : n ≤ 1000000) (hs : (l.map (·.dt.size)).sum ≤ 17592186044416) :
    Calls Tryz.prog 21 #[.slice ao n c] w fun e w' => e = .returned (.string ⟨(putB l).toArray⟩) ∧ Below w.heap.size w w' := by
  have HE := Lib.hid hE
  have HOk := Lib.hid hok
  have HS := Lib.hid hs
  have HLn : Hid (l.length = n) := Lib.hid hE.1
  have hall := fun k => ents_room hE k
  have HAll := Lib.hid hall
  clear hE hok hs hall
  obtain ⟨B, hB⟩ : ∃ B, B = w.heap.size := ⟨_, rfl⟩
  have hBle : B ≤ w.heap.size := Nat.le_of_eq hB
  have hbb := Bld.fresh w B hBle
  have hbw : Below B w (w.alloc (.cells #[.pointer none, .slice none 0 0] 162)) := (Below.refl _ _).alloc hBle _
  have HBB := Lib.hid hbb
  have HBW := Lib.hid hbw
  have HB := Lib.hid hB
  rw [← hB]
  clear hB hbb hbw
  go_enter Tryz.func21, Tryz.ntmps21
  go_wp2_with fail
  refine (var_row [(n : Int)] 1 (new_at _ _ _ (by simp)) rfl rfl (by omega) (by simp; omega)).mono ?_
  rw [vars_one]
  rintro e w1 ⟨rfl, hb1⟩
  have hb1 := ((Below.refl _ (w.alloc (.cells #[.pointer none, .slice none 0 0] 162))).alloc (Nat.le_refl _) _).trans (hb1.mono (by simp))
  have HBd1 := Lib.hid (HBB.out.below hb1)
  have HBe1 := Lib.hid (HBW.out.trans (hb1.mono (by simp; omega)))
  have hsz1 : B ≤ w1.heap.size := by have := HBe1.out.size; omega
  clear hb1
  go_wp2_with fail
  refine (writeString_any HBd1.out ⟨(var1 (n : Int)).toArray⟩ (by have := var1_len (n : Int); show 0 + (var1 (n : Int)).toArray.size ≤ _; simp; omega) hsz1).mono ?_
  rintro e w2 ⟨rfl, hd2, hb2, hs2, _⟩
  rw [bytes_mk, List.nil_append] at hd2
  have HBd2 : Hid (Bld w2 B w.heap.size (var1 (n : Int) ++ entsB (l.take 0))) := Lib.hid (by simpa [entsB] using hd2)
  have HBe2 := Lib.hid (HBe1.out.trans hb2)
  clear hd2 hb2 hsz1
  go_wp2_with fail
  go_loopw [13] (fun i wr => ∃ k : Nat, k ≤ n ∧ i = .int .i64 k ∧ Hid (Bld wr B w.heap.size (var1 (n : Int) ++ entsB (l.take k))) ∧ Hid (Below B w wr)) (fun i _ => n - (intOf i).toNat)
  case atStart => exact ⟨0, Nat.zero_le _, rfl, HBd2, HBe2⟩
  case round =>
    obtain ⟨k, hk, rfl, HBd, HBe⟩ := hrel
    have hsz : B ≤ wr.heap.size := Nat.le_trans hBle HBe.out.size
    by_cases hlt : k < n
    · obtain ⟨g, o, e, rfl, hgB, hek, q1, q2, q3, q4⟩ := (HE.out.keep (fun b hb => HBe.out.block b (by rw [HB.out]; exact hb))).get hlt
      have hek' := Lib.hid hek
      have hx1 : (0 : Int) ≤ k := by omega
      have hx2 : (k : Int) < n := by omega
      obtain ⟨⟨i1, i2⟩, ⟨t1, t2⟩, ⟨d1, d2⟩, hds⟩ := HOk.out e (List.mem_of_getElem? hek)
      have hdsum : e.dt.size ≤ 17592186044416 := by
        have h := HS.out
        have := le_sum (l.map (·.dt.size)) e.dt.size (List.mem_map.2 ⟨e, List.mem_of_getElem? hek, rfl⟩)
        omega
      have hHC : ∀ W, Below (wr.heap.size + 1) (wr.alloc (.cells #[.int .i64 e.ix, .int .i64 e.tm, .int .i64 e.kd, .string e.dt] 51)) W → W.cell? ⟨wr.heap.size, 0, none⟩ = some (.int .i64 e.ix) ∧ W.cell? ⟨wr.heap.size, 1, none⟩ = some (.int .i64 e.tm) ∧ W.cell? ⟨wr.heap.size, 2, none⟩ = some (.int .i64 e.kd) ∧ W.cell? ⟨wr.heap.size, 3, none⟩ = some (.string e.dt) := by
        intro W hb
        have hc := heap_alloc_new wr (.cells #[.int .i64 e.ix, .int .i64 e.tm, .int .i64 e.kd, .string e.dt] 51)
        have hk : W.heap[wr.heap.size]? = _ := (hb.block wr.heap.size (by omega)).trans hc
        refine ⟨?_, ?_, ?_, ?_⟩ <;> rw [blk_cell hk] <;> rfl
      have hCF : ∀ W W', Below (wr.heap.size + 1) (wr.alloc (.cells #[.int .i64 e.ix, .int .i64 e.tm, .int .i64 e.kd, .string e.dt] 51)) W → Far w.heap.size W W' → W'.cell? ⟨wr.heap.size, 0, none⟩ = some (.int .i64 e.ix) ∧ W'.cell? ⟨wr.heap.size, 1, none⟩ = some (.int .i64 e.tm) ∧ W'.cell? ⟨wr.heap.size, 2, none⟩ = some (.int .i64 e.kd) ∧ W'.cell? ⟨wr.heap.size, 3, none⟩ = some (.string e.dt) := by
        intro W W' hb hf
        have hc := heap_alloc_new wr (.cells #[.int .i64 e.ix, .int .i64 e.tm, .int .i64 e.kd, .string e.dt] 51)
        have hk : W.heap[wr.heap.size]? = _ := (hb.block wr.heap.size (by omega)).trans hc
        have hlt := HBd.out.lt
        have hk' := (hf _ _ _ hk (by omega) (by decide)).trans hk
        refine ⟨?_, ?_, ?_, ?_⟩ <;> rw [blk_cell hk'] <;> rfl
      have HC := Lib.hid hHC
      have HCF := Lib.hid hCF
      have hHB : ∀ W, Below (wr.heap.size + 1) (wr.alloc (.cells #[.int .i64 e.ix, .int .i64 e.tm, .int .i64 e.kd, .string e.dt] 51)) W → Below wr.heap.size wr W := fun W hb => ((Below.refl _ _).alloc (Nat.le_refl _) _).trans (hb.mono (by omega))
      have HBX := Lib.hid hHB
      have hcat : ∀ W : World, (Op.stringOp .add ⟨(vars [e.ix, e.tm, e.kd]).toArray⟩ ⟨(textsB [e.dt]).toArray⟩).run Tryz.prog W = .ok (.string ⟨(entB e).toArray⟩) W := fun W => by
        have h1 := vars_len [e.ix, e.tm, e.kd]
        have h2 := textsB_len [e.dt]
        rw [cat_run _ _ W (by simp at h1 h2; omega), textsB_one]
        rfl
      have hlen : (var1 (n : Int) ++ entsB (l.take k)).length + (ByteArray.mk (entB e).toArray).size ≤ 140737488355328 := by
        have h0 := var1_len (n : Int)
        have h1 := HAll.out (k + 1)
        have h2 := HS.out
        rw [entsB_take_succ l k e hek, List.length_append] at h1
        rw [List.length_append]
        show _ + (entB e).toArray.size ≤ _
        simp
        omega
      have HLen := Lib.hid hlen
      have hek' := Lib.hid hek
      have hx1 : (0 : Int) ≤ k := by omega
      have hx2 : (k : Int) < n := by omega
      clear hek hHC hCF hHB hlen
      go_wp2_with fail
      go_region_held3 (fun W => W.cell? ⟨wr.heap.size, 0, none⟩ = some (.int .i64 e.ix) ∧ W.cell? ⟨wr.heap.size, 1, none⟩ = some (.int .i64 e.tm) ∧ W.cell? ⟨wr.heap.size, 2, none⟩ = some (.int .i64 e.kd) ∧ W.cell? ⟨wr.heap.size, 3, none⟩ = some (.string e.dt))
        ((first | (refine HC.out _ ?_; (repeat (with_reducible (first | assumption | exact Below.refl _ _ | refine Below.drew ?_ | refine Below.alloc ?_ ?_ _))); all_goals (simp <;> omega)) | exact HC7))
        (first
          | (go_at_call 126; ((refine (var_row [e.ix, e.tm, e.kd] 3 (by first | exact new_at _ _ _ (by simp) | exact old_at _ _ _ _ (new_at _ _ _ (by simp))) rfl rfl (by omega) (by simp; omega)).mono ?_); rintro e5 w5 ⟨rfl, hb5⟩; have hv5 : Below (wr.heap.size + 1) (wr.alloc (.cells #[.int .i64 e.ix, .int .i64 e.tm, .int .i64 e.kd, .string e.dt] 51)) w5 := (by (refine Below.trans ?_ (hb5.mono ?_)); (repeat (with_reducible (first | assumption | exact Below.refl _ _ | refine Below.drew ?_ | refine Below.alloc ?_ ?_ _))); all_goals (simp <;> omega)); have hs5 : wr.heap.size + 1 ≤ w5.heap.size := (by have := hv5.size; simp at this; omega)))
          | (go_at_call 127; ((refine (text_row [e.dt] 1 (by first | exact new_at _ _ _ (by simp) | exact old_at _ _ _ _ (new_at _ _ _ (by simp)) | exact ((hb5.block _ (by simp)).trans (by first | exact new_at _ _ _ (by simp) | exact old_at _ _ _ _ (new_at _ _ _ (by simp))))) rfl rfl (by omega) (by simp; omega)).mono ?_); rintro e6 w6 ⟨rfl, hb6⟩; have hv6 : Below (wr.heap.size + 1) (wr.alloc (.cells #[.int .i64 e.ix, .int .i64 e.tm, .int .i64 e.kd, .string e.dt] 51)) w6 := (by (refine Below.trans ?_ (hb6.mono ?_)); (repeat (with_reducible (first | assumption | exact Below.refl _ _ | refine Below.drew ?_ | refine Below.alloc ?_ ?_ _))); all_goals (simp <;> omega)); have hs6 : wr.heap.size + 1 ≤ w6.heap.size := (by have := hv6.size; simp at this; omega)))
          | (go_at_call 125; ((refine (writeString_any (HBd.out.below (HBX.out w6 hv6)) ⟨(entB e).toArray⟩ HLen.out (by omega)).mono ?_); rintro e7 w7 ⟨rfl, hd7, hb7, hs7, hf7⟩; have hz7 := hb7.size; have HC7 : w7.cell? ⟨wr.heap.size, 0, none⟩ = some (.int .i64 e.ix) ∧ w7.cell? ⟨wr.heap.size, 1, none⟩ = some (.int .i64 e.tm) ∧ w7.cell? ⟨wr.heap.size, 2, none⟩ = some (.int .i64 e.kd) ∧ w7.cell? ⟨wr.heap.size, 3, none⟩ = some (.string e.dt) := HCF.out w6 w7 hv6 hf7; clear hf7)))
      all_goals (
        rw [List.append_assoc, ← entsB_take_succ l k e hek'.out] at hd7
        have HBd7 := Lib.hid hd7
        have HBe7 := Lib.hid ((HBe.out.trans ((HBX.out w6 hv6).mono hsz)).trans hb7)
        clear hd7 hb7 hz7
        go_wp2_with fail
        go_roundw
        case rel => exact ⟨k + 1, by omega, by go_num, HBd7, HBe7⟩
        case measure => simp [intOf]; omega)
    · have hd := HBd.out
      rw [List.take_of_length_le (by rw [HLn.out]; omega)] at hd
      have hlen := HAll.out n
      rw [List.take_of_length_le (by rw [HLn.out]; omega)] at hlen
      have h0 := HS.out
      have h1 := var1_len (n : Int)
      have HD := Lib.hid (string_any hd hsz (by rw [List.length_append]; omega))
      clear hd h0 h1 hlen
      go_wp2_with fail
      refine (HD.out).mono ?_
      rintro e w1 ⟨rfl, hb1⟩
      go_wp2_with fail
      go_ret
      exact ⟨by unfold putB; rw [HLn.out]; rfl, HBe.out.trans hb1⟩
end Go.Proofs.YtmdidmllaldbaaaGreat
