/- The walk of leaf.lay. -/
import Derived.Test.YtopefaeemkemiaaRiseFI
import Derived.Test.YtopefaeemkemiaaRowsN
import Derived.Test.YtopefaeemkemiaaBuild
import Derived.Deep.RegionHeld3
namespace Go.Proofs.Ytopefaeemkemiaa
open Go.RowKit
set_option linter.unusedVariables false
def boolI (v : Bool) : List UInt8 := if v then [1] else [0]
theorem boolI_len (v : Bool) : (boolI v).length = 1 := by cases v <;> rfl
theorem nboolI_any (v : Bool) (w : World) : Calls Try.prog 39 #[.bool v] w fun e w' => e = .returned (.string ⟨(boolI v).toArray⟩) ∧ w = w' := by
  cases v with
  | false =>
    go_enter Try.func39, Try.ntmps39
    go_wp2
    go_ret
    exact ⟨rfl, rfl⟩
  | true =>
    go_enter Try.func39, Try.ntmps39
    go_wp2
    go_ret
    exact ⟨rfl, rfl⟩
/-- What stands ahead in an item's bytes, and what behind. -/
def headI (e : Itm) : List UInt8 := textB e.key.data.toList ++ boolI (e.ov != 0)
def tailI (e : Itm) : List UInt8 := if e.ov = 0 then textsB [e.vl] else vars [e.ov, e.sz]
def itmB (e : Itm) : List UInt8 := headI e ++ tailI e
def layI (l : List Itm) : List UInt8 := (l.map itmB).flatten
theorem layI_cons (e : Itm) (l : List Itm) : layI (e :: l) = itmB e ++ layI l := by simp [layI]
theorem layI_append (a b : List Itm) : layI (a ++ b) = layI a ++ layI b := by simp [layI]
theorem headI_len (e : Itm) : (headI e).length ≤ 11 + e.key.size := by
  unfold headI textB
  rw [List.length_append, List.length_append, boolI_len]
  have := var1_len (e.key.data.toList.length : Int)
  have h : e.key.data.toList.length = e.key.size := rfl
  omega
theorem tailI_len (e : Itm) : (tailI e).length ≤ 20 + e.vl.size := by
  unfold tailI
  split
  · have := textsB_len [e.vl]
    simp at this
    omega
  · have := vars_len [e.ov, e.sz]
    simp at this
    omega
theorem itmB_len (e : Itm) : (itmB e).length ≤ 40 + e.len := by
  unfold itmB
  rw [List.length_append]
  have := headI_len e
  have := tailI_len e
  have h : e.len = e.key.size + e.vl.size := rfl
  omega
theorem layI_len (l : List Itm) : (layI l).length ≤ 40 * l.length + (l.map Itm.len).sum := by
  induction l with
  | nil => simp [layI]
  | cons e r ih =>
    have h1 := itmB_len e
    rw [layI_cons, List.length_append, List.length_cons, List.map_cons, List.sum_cons]
    omega
theorem itms_room {w : World} {B : Nat} {ao : Option Addr} {n : Nat} {l : List Itm} (h : Itms w B ao n l) (k : Nat) : (layI (l.take k)).length ≤ 40 * n + (l.map Itm.len).sum := by
  have h1 := layI_len (l.take k)
  have h2 : (l.take k).length ≤ n := by rw [List.length_take, h.1]; omega
  have h3 : ((l.take k).map Itm.len).sum ≤ (l.map Itm.len).sum := by
    have e : (l.map Itm.len).sum = ((l.take k).map Itm.len).sum + ((l.drop k).map Itm.len).sum := by
      rw [← List.sum_append_nat, ← List.map_append, List.take_append_drop]
    omega
  omega
theorem layI_take_succ (l : List Itm) (k : Nat) (e : Itm) (h : l[k]? = some e) : layI (l.take (k + 1)) = layI (l.take k) ++ itmB e := by
  have : l.take (k + 1) = l.take k ++ [e] := by rw [List.take_add_one, h]; rfl
  rw [this]
  simp [layI]
set_option maxRecDepth 20000 in
set_option maxHeartbeats 8000000 in
theorem lay_anyI {ao : Option Addr} {n c : Nat} {l : List Itm} {w : World} (hE : Itms w w.heap.size ao n l) (hok : ∀ e ∈ l, ItmOk e) (hn : n ≤ 2000000) (hs : (l.map Itm.len).sum ≤ 17592186044416) :
    Calls Try.prog 25 #[.slice ao n c] w fun e w' => e = .returned (.string ⟨(layI l).toArray⟩) ∧ Below w.heap.size w w' := by
  have HE := Lib.hid hE
  have HOk := Lib.hid hok
  have HS := Lib.hid hs
  have HLn : Hid (l.length = n) := Lib.hid hE.1
  have hall := fun k => itms_room hE k
  have HAll := Lib.hid hall
  clear hE hok hs hall
  obtain ⟨B, hB⟩ : ∃ B, B = w.heap.size := ⟨_, rfl⟩
  have hBle : B ≤ w.heap.size := Nat.le_of_eq hB
  have hbb := Bld.fresh w B hBle
  have hbw : Below B w (w.alloc (.cells #[.pointer none, .slice none 0 0] 65)) := (Below.refl _ _).alloc hBle _
  have HBB : Hid (Bld (w.alloc (.cells #[.pointer none, .slice none 0 0] 65)) B w.heap.size (layI (l.take 0))) := Lib.hid (by simpa [layI] using hbb)
  have HBW := Lib.hid hbw
  have HB := Lib.hid hB
  rw [← hB]
  clear hB hbb hbw
  go_enter Try.func25, Try.ntmps25
  go_wp2_with fail
  go_loopw [8] (fun i wr => ∃ k : Nat, k ≤ n ∧ i = .int .i64 k ∧ Hid (Bld wr B w.heap.size (layI (l.take k))) ∧ Hid (Below B w wr)) (fun i _ => n - (intOf i).toNat)
  case atStart => exact ⟨0, Nat.zero_le _, rfl, HBB, HBW⟩
  case round =>
    obtain ⟨k, hk, rfl, HBd, HBe⟩ := hrel
    have hsz : B ≤ wr.heap.size := Nat.le_trans hBle HBe.out.size
    by_cases hlt : k < n
    · obtain ⟨g, o, e, rfl, hgB, hek, q1, q2, q3, q4⟩ := (HE.out.keep (fun b hb => HBe.out.block b (by rw [HB.out]; exact hb))).get hlt
      have hx1 : (0 : Int) ≤ k := by omega
      have hx2 : (k : Int) < n := by omega
      obtain ⟨⟨i1, i2⟩, ⟨i3, i4⟩, hds, hvs⟩ := HOk.out e (List.mem_of_getElem? hek)
      have hdsum : e.len ≤ 17592186044416 := by
        have h := HS.out
        have := le_sum (l.map Itm.len) e.len (List.mem_map.2 ⟨e, List.mem_of_getElem? hek, rfl⟩)
        omega
      have hel : e.len = e.key.size + e.vl.size := rfl
      have hHC : ∀ W, Below (wr.heap.size + 1) (wr.alloc (.cells #[.string e.key, .string e.vl, .int .i64 e.ov, .int .i64 e.sz] 28)) W → W.cell? ⟨wr.heap.size, 0, none⟩ = some (.string e.key) ∧ W.cell? ⟨wr.heap.size, 1, none⟩ = some (.string e.vl) ∧ W.cell? ⟨wr.heap.size, 2, none⟩ = some (.int .i64 e.ov) ∧ W.cell? ⟨wr.heap.size, 3, none⟩ = some (.int .i64 e.sz) := by
        intro W hb
        have hc := heap_alloc_new wr (.cells #[.string e.key, .string e.vl, .int .i64 e.ov, .int .i64 e.sz] 28)
        have hk : W.heap[wr.heap.size]? = _ := (hb.block wr.heap.size (by omega)).trans hc
        refine ⟨?_, ?_, ?_, ?_⟩ <;> rw [blk_cell hk] <;> rfl
      have hCF : ∀ W W', Below (wr.heap.size + 1) (wr.alloc (.cells #[.string e.key, .string e.vl, .int .i64 e.ov, .int .i64 e.sz] 28)) W → Far w.heap.size W W' → W'.cell? ⟨wr.heap.size, 0, none⟩ = some (.string e.key) ∧ W'.cell? ⟨wr.heap.size, 1, none⟩ = some (.string e.vl) ∧ W'.cell? ⟨wr.heap.size, 2, none⟩ = some (.int .i64 e.ov) ∧ W'.cell? ⟨wr.heap.size, 3, none⟩ = some (.int .i64 e.sz) := by
        intro W W' hb hf
        have hc := heap_alloc_new wr (.cells #[.string e.key, .string e.vl, .int .i64 e.ov, .int .i64 e.sz] 28)
        have hk : W.heap[wr.heap.size]? = _ := (hb.block wr.heap.size (by omega)).trans hc
        have hlt := HBd.out.lt
        have hk' := (hf _ _ _ hk (by omega) (by decide)).trans hk
        refine ⟨?_, ?_, ?_, ?_⟩ <;> rw [blk_cell hk'] <;> rfl
      have HC := Lib.hid hHC
      have HCF := Lib.hid hCF
      have hHB : ∀ W, Below (wr.heap.size + 1) (wr.alloc (.cells #[.string e.key, .string e.vl, .int .i64 e.ov, .int .i64 e.sz] 28)) W → Below wr.heap.size wr W := fun W hb => ((Below.refl _ _).alloc (Nat.le_refl _) _).trans (hb.mono (by omega))
      have HBX := Lib.hid hHB
      obtain ⟨nb, hnb⟩ : ∃ nb, (e.ov != 0) = nb := ⟨_, rfl⟩
      have hhead : headI e = textB e.key.data.toList ++ boolI nb := by unfold headI; rw [hnb]
      have hcat : ∀ W : World, (Op.stringOp .add ⟨(textsB [e.key]).toArray⟩ ⟨(boolI nb).toArray⟩).run Try.prog W = .ok (.string ⟨(headI e).toArray⟩) W := fun W => by
        have h2 := textsB_len [e.key]
        rw [cat_run _ _ W (by rw [boolI_len]; simp at h2; omega), textsB_one, hhead]
      have hlen1 : (layI (l.take k)).length + (ByteArray.mk (headI e).toArray).size ≤ 140737488355328 := by
        have h1 := HAll.out k
        have h2 := HS.out
        have h3 := headI_len e
        show _ + (headI e).toArray.size ≤ _
        simp
        omega
      have hlen2 : (layI (l.take k) ++ headI e).length + (ByteArray.mk (tailI e).toArray).size ≤ 140737488355328 := by
        have h1 := HAll.out k
        have h2 := HS.out
        have h3 := headI_len e
        have h4 := tailI_len e
        show _ + (tailI e).toArray.size ≤ _
        rw [List.length_append]
        simp
        omega
      have HL1 := Lib.hid hlen1
      have HL2 := Lib.hid hlen2
      have HNx : Hid ((layI (l.take k) ++ headI e) ++ tailI e = layI (l.take (k + 1))) := Lib.hid (by rw [layI_take_succ l k e hek, List.append_assoc]; rfl)
      have HTl : Hid (tailI e = if nb = true then vars [e.ov, e.sz] else textsB [e.vl]) := Lib.hid (by
        unfold tailI
        rw [← hnb]
        by_cases h0 : e.ov = 0
        · rw [if_pos h0, h0]; rfl
        · have : (e.ov != 0) = true := by simpa using h0
          rw [if_neg h0, this, if_pos rfl])
      clear hek hHC hCF hHB hlen1 hlen2 hhead
      go_wp2_with fail
      go_region_held3 (fun W => W.cell? ⟨wr.heap.size, 0, none⟩ = some (.string e.key) ∧ W.cell? ⟨wr.heap.size, 1, none⟩ = some (.string e.vl) ∧ W.cell? ⟨wr.heap.size, 2, none⟩ = some (.int .i64 e.ov) ∧ W.cell? ⟨wr.heap.size, 3, none⟩ = some (.int .i64 e.sz))
        ((first | (refine HC.out _ ?_; (repeat (with_reducible (first | assumption | exact Below.refl _ _ | refine Below.drew ?_ | refine Below.alloc ?_ ?_ _))); all_goals (simp <;> omega)) | exact HC7))
        (first
          | (go_at_call 38; ((refine (text_row [e.key] 1 (by first | exact new_at _ _ _ (by simp) | exact old_at _ _ _ _ (new_at _ _ _ (by simp))) rfl rfl (by omega) (by simp; omega)).mono ?_); rintro e5 w5 ⟨rfl, hb5⟩; have hv5 : Below (wr.heap.size + 1) (wr.alloc (.cells #[.string e.key, .string e.vl, .int .i64 e.ov, .int .i64 e.sz] 28)) w5 := (by (refine Below.trans ?_ (hb5.mono ?_)); (repeat (with_reducible (first | assumption | exact Below.refl _ _ | refine Below.drew ?_ | refine Below.alloc ?_ ?_ _))); all_goals (simp <;> omega)); have hs5 : wr.heap.size + 1 ≤ w5.heap.size := (by have := hv5.size; simp at this; omega)))
          | (go_at_call 39; ((refine (nboolI_any _ _).mono ?_); rintro e6 w6 ⟨rfl, rfl⟩))
          | (go_at_call 37; ((refine (writeString_any (HBd.out.below (HBX.out _ hv5)) ⟨(headI e).toArray⟩ HL1.out (by omega)).mono ?_); rintro e7 w7 ⟨rfl, hd7, hb7, hs7, hf7⟩; have hz7 := hb7.size; have HC7 : w7.cell? ⟨wr.heap.size, 0, none⟩ = some (.string e.key) ∧ w7.cell? ⟨wr.heap.size, 1, none⟩ = some (.string e.vl) ∧ w7.cell? ⟨wr.heap.size, 2, none⟩ = some (.int .i64 e.ov) ∧ w7.cell? ⟨wr.heap.size, 3, none⟩ = some (.int .i64 e.sz) := HCF.out _ w7 hv5 hf7; clear hf7)))
      all_goals (
        obtain ⟨c0, c1, c2, c3⟩ := HC7
        have HBd7 := Lib.hid hd7
        have HBe7 := Lib.hid ((HBe.out.trans ((HBX.out _ hv5).mono hsz)).trans hb7)
        clear hd7 hb7 hz7 hv5 hb5 hs5 HBd HBe HBX HC HCF
        have hnb' : (e.ov != 0) = nb := hnb
        cases nb with
        | true =>
          have hT := HTl.out
          rw [if_pos rfl] at hT
          rw [hT] at HL2 HNx
          have HNx2 := HNx
          clear hT HTl HL1
          go_wp2_with fail
          refine (var_row [e.ov, e.sz] 2 (heap_alloc_new w7 _) rfl rfl (by omega) (by simp; omega)).mono ?_
          rintro e8 w8 ⟨rfl, hb8⟩
          have hb78 : Below w7.heap.size w7 w8 := ((Below.refl _ _).alloc (Nat.le_refl _) _).trans (hb8.mono (by simp))
          have HBd8 := Lib.hid (HBd7.out.below hb78)
          have HBe8 := Lib.hid (HBe7.out.trans (hb78.mono hs7))
          have hs8 : B ≤ w8.heap.size := Nat.le_trans hs7 hb78.size
          clear hb8 hb78 c0 c1 c2 c3 HBd7 HBe7
          go_wp2_with fail
          refine (writeString_any HBd8.out ⟨(vars [e.ov, e.sz]).toArray⟩ HL2.out hs8).mono ?_
          rintro e9 w9 ⟨rfl, hd9, hb9, hs9, hf9⟩
          have hd9' : Bld w9 B w.heap.size (layI (l.take (k + 1))) := by rw [← HNx2.out]; exact hd9
          have HBd9 := Lib.hid hd9'
          have HBe9 := Lib.hid (HBe8.out.trans hb9)
          clear hd9 hd9' hb9 hf9 hs9
          go_wp2_with fail
          go_roundw
          case rel => exact ⟨k + 1, by omega, by go_num, HBd9, HBe9⟩
          case measure => simp [intOf]; omega
        | false =>
          have hT := HTl.out
          rw [if_neg (by decide)] at hT
          rw [hT] at HL2 HNx
          have HNx2 := HNx
          clear hT HTl HL1
          go_wp2_with fail
          refine (text_row [e.vl] 1 (heap_alloc_new w7 _) rfl rfl (by omega) (by simp; omega)).mono ?_
          rintro e8 w8 ⟨rfl, hb8⟩
          have hb78 : Below w7.heap.size w7 w8 := ((Below.refl _ _).alloc (Nat.le_refl _) _).trans (hb8.mono (by simp))
          have HBd8 := Lib.hid (HBd7.out.below hb78)
          have HBe8 := Lib.hid (HBe7.out.trans (hb78.mono hs7))
          have hs8 : B ≤ w8.heap.size := Nat.le_trans hs7 hb78.size
          clear hb8 hb78 c0 c1 c2 c3 HBd7 HBe7
          go_wp2_with fail
          refine (writeString_any HBd8.out ⟨(textsB [e.vl]).toArray⟩ HL2.out hs8).mono ?_
          rintro e9 w9 ⟨rfl, hd9, hb9, hs9, hf9⟩
          have hd9' : Bld w9 B w.heap.size (layI (l.take (k + 1))) := by rw [← HNx2.out]; exact hd9
          have HBd9 := Lib.hid hd9'
          have HBe9 := Lib.hid (HBe8.out.trans hb9)
          clear hd9 hd9' hb9 hf9 hs9
          go_wp2_with fail
          go_roundw
          case rel => exact ⟨k + 1, by omega, by go_num, HBd9, HBe9⟩
          case measure => simp [intOf]; omega)
    · have hd := HBd.out
      rw [List.take_of_length_le (by rw [HLn.out]; omega)] at hd
      have hlen := HAll.out n
      rw [List.take_of_length_le (by rw [HLn.out]; omega)] at hlen
      have h0 := HS.out
      have HD := Lib.hid (string_any hd hsz (by omega))
      clear hd h0 hlen
      go_wp2_with fail
      refine (HD.out).mono ?_
      rintro e w1 ⟨rfl, hb1⟩
      go_wp2_with fail
      go_ret
      exact ⟨rfl, HBe.out.trans hb1⟩
end Go.Proofs.Ytopefaeemkemiaa
