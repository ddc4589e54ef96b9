/- The walk of branch.lay. -/
import Derived.Test.YtmdidmllaldbaaaGreatRightC
import Derived.Test.YtmdidmllaldbaaaGreatRowsN
import Derived.Test.YtmdidmllaldbaaaGreatBuild
import Derived.Deep.RegionHeld3
namespace Go.Proofs.YtmdidmllaldbaaaGreat
open Go.RowKit
set_option linter.unusedVariables false
def chdB (e : Chd) : List UInt8 := textB e.key.data.toList ++ var1 e.pg
def layB (l : List Chd) : List UInt8 := (l.map chdB).flatten
theorem layB_cons (e : Chd) (l : List Chd) : layB (e :: l) = chdB e ++ layB l := by simp [layB]
theorem layB_append (a b : List Chd) : layB (a ++ b) = layB a ++ layB b := by simp [layB]
theorem chdB_len (e : Chd) : (chdB e).length ≤ 20 + e.key.size := by
  unfold chdB textB
  rw [List.length_append, List.length_append]
  have := var1_len e.pg
  have := var1_len (e.key.data.toList.length : Int)
  have h : e.key.data.toList.length = e.key.size := rfl
  omega
theorem layB_len (l : List Chd) : (layB l).length ≤ 20 * l.length + (l.map (·.key.size)).sum := by
  induction l with
  | nil => simp [layB]
  | cons e r ih =>
    have h1 := chdB_len e
    rw [layB_cons, List.length_append, List.length_cons, List.map_cons, List.sum_cons]
    omega
/-- Children along a walk. -/
theorem chds_room {w : World} {B : Nat} {ao : Option Addr} {n : Nat} {l : List Chd} (h : Chds w B ao n l) (k : Nat) : (layB (l.take k)).length ≤ 20 * n + (l.map (·.key.size)).sum := by
  have h1 := layB_len (l.take k)
  have h2 : (l.take k).length ≤ n := by rw [List.length_take, h.1]; omega
  have h3 : ((l.take k).map (·.key.size)).sum ≤ (l.map (·.key.size)).sum := by
    have e : (l.map (·.key.size)).sum = ((l.take k).map (·.key.size)).sum + ((l.drop k).map (·.key.size)).sum := by
      rw [← List.sum_append_nat, ← List.map_append, List.take_append_drop]
    omega
  omega
theorem layB_take_succ (l : List Chd) (k : Nat) (e : Chd) (h : l[k]? = some e) : layB (l.take (k + 1)) = layB (l.take k) ++ chdB e := by
  have : l.take (k + 1) = l.take k ++ [e] := by rw [List.take_add_one, h]; rfl
  rw [this]
  simp [layB]
set_option maxRecDepth 20000 in
set_option maxHeartbeats 4000000 in
theorem lay_any {ao : Option Addr} {n c : Nat} {l : List Chd} {w : World} (hE : Chds w w.heap.size ao n l) (hok : ∀ e ∈ l, ChdOk e) (hn : n ≤ 2000000) (hs : (l.map (·.key.size)).sum ≤ 17592186044416) :
    Calls Tryz.prog 177 #[.slice ao n c] w fun e w' => e = .returned (.string ⟨(layB l).toArray⟩) ∧ Below w.heap.size w w' := by
  have HE := Lib.hid hE
  have HOk := Lib.hid hok
  have HS := Lib.hid hs
  have HLn : Hid (l.length = n) := Lib.hid hE.1
  have hall := fun k => chds_room hE k
  have HAll := Lib.hid hall
  clear hE hok hs hall
  obtain ⟨B, hB⟩ : ∃ B, B = w.heap.size := ⟨_, rfl⟩
  have hBle : B ≤ w.heap.size := Nat.le_of_eq hB
  have hbb := Bld.fresh w B hBle
  have hbw : Below B w (w.alloc (.cells #[.pointer none, .slice none 0 0] 162)) := (Below.refl _ _).alloc hBle _
  have HBB : Hid (Bld (w.alloc (.cells #[.pointer none, .slice none 0 0] 162)) B w.heap.size (layB (l.take 0))) := Lib.hid (by simpa [layB] using hbb)
  have HBW := Lib.hid hbw
  have HB := Lib.hid hB
  rw [← hB]
  clear hB hbb hbw
  go_enter Tryz.func177, Tryz.ntmps177
  go_wp2_with fail
  go_loopw [8] (fun i wr => ∃ k : Nat, k ≤ n ∧ i = .int .i64 k ∧ Hid (Bld wr B w.heap.size (layB (l.take k))) ∧ Hid (Below B w wr)) (fun i _ => n - (intOf i).toNat)
  case atStart => exact ⟨0, Nat.zero_le _, rfl, HBB, HBW⟩
  case round =>
    obtain ⟨k, hk, rfl, HBd, HBe⟩ := hrel
    have hsz : B ≤ wr.heap.size := Nat.le_trans hBle HBe.out.size
    by_cases hlt : k < n
    · obtain ⟨g, o, e, rfl, hgB, hek, q1, q2⟩ := (HE.out.keep (fun b hb => HBe.out.block b (by rw [HB.out]; exact hb))).get hlt
      have hek' := Lib.hid hek
      have hx1 : (0 : Int) ≤ k := by omega
      have hx2 : (k : Int) < n := by omega
      obtain ⟨⟨i1, i2⟩, hds⟩ := HOk.out e (List.mem_of_getElem? hek)
      have hdsum : e.key.size ≤ 17592186044416 := by
        have h := HS.out
        have := le_sum (l.map (·.key.size)) e.key.size (List.mem_map.2 ⟨e, List.mem_of_getElem? hek, rfl⟩)
        omega
      have hHC : ∀ W, Below (wr.heap.size + 1) (wr.alloc (.cells #[.string e.key, .int .i64 e.pg] 192)) W → W.cell? ⟨wr.heap.size, 0, none⟩ = some (.string e.key) ∧ W.cell? ⟨wr.heap.size, 1, none⟩ = some (.int .i64 e.pg) := by
        intro W hb
        have hc := heap_alloc_new wr (.cells #[.string e.key, .int .i64 e.pg] 192)
        have hk : W.heap[wr.heap.size]? = _ := (hb.block wr.heap.size (by omega)).trans hc
        refine ⟨?_, ?_⟩ <;> rw [blk_cell hk] <;> rfl
      have hCF : ∀ W W', Below (wr.heap.size + 1) (wr.alloc (.cells #[.string e.key, .int .i64 e.pg] 192)) W → Far w.heap.size W W' → W'.cell? ⟨wr.heap.size, 0, none⟩ = some (.string e.key) ∧ W'.cell? ⟨wr.heap.size, 1, none⟩ = some (.int .i64 e.pg) := by
        intro W W' hb hf
        have hc := heap_alloc_new wr (.cells #[.string e.key, .int .i64 e.pg] 192)
        have hk : W.heap[wr.heap.size]? = _ := (hb.block wr.heap.size (by omega)).trans hc
        have hlt := HBd.out.lt
        have hk' := (hf _ _ _ hk (by omega) (by decide)).trans hk
        refine ⟨?_, ?_⟩ <;> rw [blk_cell hk'] <;> rfl
      have HC := Lib.hid hHC
      have HCF := Lib.hid hCF
      have hHB : ∀ W, Below (wr.heap.size + 1) (wr.alloc (.cells #[.string e.key, .int .i64 e.pg] 192)) W → Below wr.heap.size wr W := fun W hb => ((Below.refl _ _).alloc (Nat.le_refl _) _).trans (hb.mono (by omega))
      have HBX := Lib.hid hHB
      have hcat : ∀ W : World, (Op.stringOp .add ⟨(textsB [e.key]).toArray⟩ ⟨(vars [e.pg]).toArray⟩).run Tryz.prog W = .ok (.string ⟨(chdB e).toArray⟩) W := fun W => by
        have h1 := vars_len [e.pg]
        have h2 := textsB_len [e.key]
        rw [cat_run _ _ W (by simp at h1 h2; omega), textsB_one, vars_one]
        rfl
      have hlen : (layB (l.take k)).length + (ByteArray.mk (chdB e).toArray).size ≤ 140737488355328 := by
        have h1 := HAll.out (k + 1)
        have h2 := HS.out
        rw [layB_take_succ l k e hek, List.length_append] at h1
        show _ + (chdB e).toArray.size ≤ _
        simp
        omega
      have HLen := Lib.hid hlen
      have hek' := Lib.hid hek
      have hx1 : (0 : Int) ≤ k := by omega
      have hx2 : (k : Int) < n := by omega
      clear hek hHC hCF hHB hlen
      go_wp2_with fail
      go_region_held3 (fun W => W.cell? ⟨wr.heap.size, 0, none⟩ = some (.string e.key) ∧ W.cell? ⟨wr.heap.size, 1, none⟩ = some (.int .i64 e.pg))
        ((first | (refine HC.out _ ?_; (repeat (with_reducible (first | assumption | exact Below.refl _ _ | refine Below.drew ?_ | refine Below.alloc ?_ ?_ _))); all_goals (simp <;> omega)) | exact HC7))
        (first
          | (go_at_call 127; ((refine (text_row [e.key] 1 (by first | exact new_at _ _ _ (by simp) | exact old_at _ _ _ _ (new_at _ _ _ (by simp))) rfl rfl (by omega) (by simp; omega)).mono ?_); rintro e5 w5 ⟨rfl, hb5⟩; have hv5 : Below (wr.heap.size + 1) (wr.alloc (.cells #[.string e.key, .int .i64 e.pg] 192)) w5 := (by (refine Below.trans ?_ (hb5.mono ?_)); (repeat (with_reducible (first | assumption | exact Below.refl _ _ | refine Below.drew ?_ | refine Below.alloc ?_ ?_ _))); all_goals (simp <;> omega)); have hs5 : wr.heap.size + 1 ≤ w5.heap.size := (by have := hv5.size; simp at this; omega)))
          | (go_at_call 126; ((refine (var_row [e.pg] 1 (by first | exact new_at _ _ _ (by simp) | exact old_at _ _ _ _ (new_at _ _ _ (by simp)) | exact ((hb5.block _ (by simp)).trans (by first | exact new_at _ _ _ (by simp) | exact old_at _ _ _ _ (new_at _ _ _ (by simp))))) rfl rfl (by omega) (by simp; omega)).mono ?_); rintro e6 w6 ⟨rfl, hb6⟩; have hv6 : Below (wr.heap.size + 1) (wr.alloc (.cells #[.string e.key, .int .i64 e.pg] 192)) w6 := (by (refine Below.trans ?_ (hb6.mono ?_)); (repeat (with_reducible (first | assumption | exact Below.refl _ _ | refine Below.drew ?_ | refine Below.alloc ?_ ?_ _))); all_goals (simp <;> omega)); have hs6 : wr.heap.size + 1 ≤ w6.heap.size := (by have := hv6.size; simp at this; omega)))
          | (go_at_call 125; ((refine (writeString_any (HBd.out.below (HBX.out w6 hv6)) ⟨(chdB e).toArray⟩ HLen.out (by omega)).mono ?_); rintro e7 w7 ⟨rfl, hd7, hb7, hs7, hf7⟩; have hz7 := hb7.size; have HC7 : w7.cell? ⟨wr.heap.size, 0, none⟩ = some (.string e.key) ∧ w7.cell? ⟨wr.heap.size, 1, none⟩ = some (.int .i64 e.pg) := HCF.out w6 w7 hv6 hf7; clear hf7)))
      all_goals (
        rw [← layB_take_succ l k e hek'.out] at hd7
        have HBd7 := Lib.hid hd7
        have HBe7 := Lib.hid ((HBe.out.trans ((HBX.out w6 hv6).mono hsz)).trans hb7)
        clear hd7 hb7 hz7
        go_wp2_with fail
        go_roundw
        case rel => exact ⟨k + 1, by omega, by go_num, HBd7, HBe7⟩
        case measure => simp [intOf]; omega)
    · have hd := HBd.out
      rw [List.take_of_length_le (by rw [HLn.out]; omega)] at hd
      have hlen := HAll.out n
      rw [List.take_of_length_le (by rw [HLn.out]; omega)] at hlen
      have h0 := HS.out
      have HD := Lib.hid (string_any hd hsz (by omega))
      clear hd h0 hlen
      go_wp2_with fail
      refine (HD.out).mono ?_
      rintro e w1 ⟨rfl, hb1⟩
      go_wp2_with fail
      go_ret
      exact ⟨rfl, HBe.out.trans hb1⟩
end Go.Proofs.YtmdidmllaldbaaaGreat
