/- The walk of num.Text: it lays texts, each behind its length. -/
import Derived.Test.YtmdidmllaldbaaaGreatBuild
import Derived.Test.YtmdidmllaldbaaaGreatViewE
import Derived.Test.YtmdidmllaldbaaaGreatTextP
namespace Go.Proofs.YtmdidmllaldbaaaGreat
open Go.RowKit
set_option linter.unusedVariables false
/-- A slice of texts reads as ss. -/
def TextsAt (w : World) (ao : Option Addr) (n : Nat) (ss : List ByteArray) : Prop :=
  ss.length = n ∧ (0 < n → ∃ b o, ao = some ⟨b, o, none⟩ ∧ b < w.heap.size ∧ ∀ (k : Nat) (s : ByteArray), ss[k]? = some s → w.cell? ⟨b, o + k, none⟩ = some (.string s))
set_option maxRecDepth 20000 in
set_option maxHeartbeats 2000000 in
theorem ntext_any (ao : Option Addr) (n c : Nat) (ss : List ByteArray) (w : World) (hl : TextsAt w ao n ss) (hn : n ≤ 1099511627776) (hs : (ss.map (·.size)).sum ≤ 17592186044416) :
    Calls Tryz.prog 127 #[.slice ao n c] w fun e w' => e = .returned (.string ⟨(textsB ss).toArray⟩) ∧ Below w.heap.size w w' := by
  have HL := Lib.hid hl
  have HS := Lib.hid hs
  have hall : ∀ k, (textsB (ss.take k)).length ≤ 10 * n + (ss.map (·.size)).sum := by
    intro k
    have h1 := textsB_len (ss.take k)
    have h2 : (ss.take k).length ≤ n := by rw [List.length_take, hl.1]; omega
    have h3 : ((ss.take k).map (·.size)).sum ≤ (ss.map (·.size)).sum := by
      have e : (ss.map (·.size)).sum = ((ss.take k).map (·.size)).sum + ((ss.drop k).map (·.size)).sum := by
        rw [← List.sum_append_nat, ← List.map_append, List.take_append_drop]
      omega
    omega
  have HAll := Lib.hid hall
  clear hl hs hall
  obtain ⟨B, hB⟩ : ∃ B, B = w.heap.size := ⟨_, rfl⟩
  have hBle : B ≤ w.heap.size := Nat.le_of_eq hB
  have hbb := Bld.fresh w B hBle
  have hbw : Below B w (w.alloc (.cells #[.pointer none, .slice none 0 0] 162)) := (Below.refl _ _).alloc hBle _
  have HBB := Lib.hid hbb
  have HBW := Lib.hid hbw
  have HB := Lib.hid hB
  rw [← hB]
  clear hB hbb hbw
  go_enter Tryz.func127, Tryz.ntmps127
  go_wp2
  go_loopw [8] (fun i wr => ∃ k : Nat, k ≤ n ∧ i = .int .i64 k ∧ Hid (Bld wr B w.heap.size (textsB (ss.take k))) ∧ Hid (Below B w wr)) (fun i _ => n - (intOf i).toNat)
  case atStart => exact ⟨0, Nat.zero_le _, rfl, HBB, HBW⟩
  case round =>
    obtain ⟨k, hk, rfl, HBd, HBe⟩ := hrel
    have hsz : B ≤ wr.heap.size := Nat.le_trans hBle HBe.out.size
    by_cases hlt : k < n
    · obtain ⟨b, o, ha, hbB, hc⟩ := HL.out.2 (by omega)
      have hkl : k < ss.length := by rw [HL.out.1]; exact hlt
      obtain ⟨s, hks⟩ : ∃ s, ss[k]? = some s := ⟨_, List.getElem?_eq_getElem hkl⟩
      subst ha
      have h1 := (HBe.out.cell (p := ⟨b, o + k, none⟩) (by rw [HB.out]; exact hbB)).trans (hc k s hks)
      have hsl : s.size ≤ 17592186044416 := by
        have h := HS.out
        have h2 : s.size ∈ ss.map (·.size) := List.mem_map.2 ⟨s, List.mem_of_getElem? hks, rfl⟩
        have := le_sum _ _ h2
        omega
      have hcat : ∀ W : World, (Op.stringOp .add ⟨(var1 (s.size : Int)).toArray⟩ s).run Tryz.prog W = .ok (.string ⟨(textB s.data.toList).toArray⟩) W := by
        intro W
        have hv := var1_len (s.size : Int)
        rw [run_string_add_sum W _ _ (by show (var1 (s.size : Int)).toArray.size + _ ≤ _; simp; omega)]
        rcases s with ⟨⟨l⟩⟩
        rw [ByteArray.mk_append_mk]
        rfl
      have htk : textsB (ss.take (k + 1)) = textsB (ss.take k) ++ textB s.data.toList := by
        have : ss.take (k + 1) = ss.take k ++ [s] := by
          rw [List.take_add_one, hks]; rfl
        rw [this]
        simp [textsB]
      have HCat := Lib.hid hcat
      have hlen := HAll.out (k + 1)
      rw [htk] at hlen
      have HTk := Lib.hid htk
      have hx1 : (0 : Int) ≤ k := by omega
      have hx2 : (k : Int) < n := by omega
      clear hc hks hcat htk
      go_wp2_with fail
      refine (var_one (s.size : Int) _ _ (by omega) (by omega)).mono ?_
      rintro e w1 ⟨rfl, hb1⟩
      have HBd1 := Lib.hid (HBd.out.below hb1)
      have HBe1 := Lib.hid (HBe.out.trans (hb1.mono hsz))
      have hsz1 : B ≤ w1.heap.size := Nat.le_trans hsz hb1.size
      clear hb1
      have hcat1 := HCat.out w1
      go_wp2_with fail
      refine (writeString_any HBd1.out ⟨(textB s.data.toList).toArray⟩ (by rw [List.length_append] at hlen; have h0 := HS.out; show _ + (textB s.data.toList).toArray.size ≤ _; simp; omega) hsz1).mono ?_
      rintro e w2 ⟨rfl, hd2, hb2, hs2, _⟩
      rw [bytes_mk, ← HTk.out] at hd2
      have HBd2 := Lib.hid hd2
      have HBe2 := Lib.hid (HBe1.out.trans hb2)
      clear hd2 hb2 hcat1
      go_wp2_with fail
      go_roundw
      case rel => exact ⟨k + 1, by omega, by go_num, HBd2, HBe2⟩
      case measure => simp [intOf]; omega
    · have hd := HBd.out
      rw [List.take_of_length_le (by rw [HL.out.1]; omega)] at hd
      have hlen := HAll.out n
      rw [List.take_of_length_le (by rw [HL.out.1]; omega)] at hlen
      have h0 := HS.out
      have HD := Lib.hid (string_any hd hsz (by omega))
      clear hd h0 hlen
      go_wp2_with fail
      refine (HD.out).mono ?_
      rintro e w1 ⟨rfl, hb1⟩
      go_wp2_with fail
      go_ret
      exact ⟨rfl, HBe.out.trans hb1⟩
end Go.Proofs.YtmdidmllaldbaaaGreat
