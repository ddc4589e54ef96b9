/- num and the reference's num, pair by pair: the same answers. -/
import Derived.Test.YtegiibpdkioocaaAliveN
import Derived.Test.YtegiibpdkioocaaNum2
import Derived.Test.YtegiibpdkioocaaRefVar
import Derived.Test.YtegiibpdkioocaaRefFix
import Derived.Test.YtegiibpdkioocaaRefCrc
import Derived.Test.YtegiibpdkioocaaRefDig
import Derived.Test.YtegiibpdkioocaaRefDg2
import Derived.Test.YtegiibpdkioocaaNumBackW
import Derived.Test.YtegiibpdkioocaaLent
namespace Go.Proofs.Ytegiibpdkioocaa
open Go.RowKit
set_option linter.unusedVariables false
theorem TextsIn.below {w W : World} {ao : Option Addr} {n c : Nat} {vs : List ByteArray} (h : TextsIn w ao n c vs) (hb : Below w.heap.size w W) : TextsIn W ao n c vs :=
  ⟨h.len, h.le, h.nil_, h.sz, h.ok, fun hn => by
    obtain ⟨b, o, ha, hlt, hc⟩ := h.cell hn
    exact ⟨b, o, ha, Nat.lt_of_lt_of_le hlt hb.size, fun k v hv => (hb.cell (p := ⟨b, o + k, none⟩) hlt).trans (hc k v hv)⟩⟩
/-- What both answer, with memory of their own. -/
def BothB (f g : FuncId) (xs : Array Value) (v : Value) : Prop :=
  (∀ W, Calls Try.prog f xs W fun e w' => e = .returned v ∧ Below W.heap.size W w') ∧ (∀ W, Calls Try.prog g xs W fun e w' => e = .returned v ∧ Below W.heap.size W w')
theorem same_below {P : Program} {f : FuncId} {xs : Array Value} {W : World} {v : Value} (h : Calls P f xs W fun e w' => e = .returned v ∧ W = w') : Calls P f xs W fun e w' => e = .returned v ∧ Below W.heap.size W w' :=
  h.mono fun _ _ ⟨h1, h2⟩ => ⟨h1, h2 ▸ Below.refl _ _⟩
theorem fix_both (v n : Int) (hv : v ≤ 9223372036854775807) : ∃ (s : ByteArray) (x : Int), BothB 16 17 #[.int .i64 v, .int .i64 n] (.tuple #[.string s, .int .i64 x]) := by
  by_cases hbad : n < 1 ∨ 7 < n ∨ v < 0
  · exact ⟨⟨#[]⟩, 1, fun W => same_below (fix_bad v n W hbad), fun W => same_below (rfix_bad v n W hbad)⟩
  · obtain ⟨K, rfl⟩ : ∃ K : Nat, n = K := ⟨n.toNat, by omega⟩
    obtain ⟨V, rfl⟩ : ∃ V : Nat, v = V := ⟨v.toNat, by omega⟩
    by_cases hgr : V < 256 ^ K
    · refine ⟨⟨(fixB V K).toArray⟩, 0, fun W => fix_good V K W (by omega) (by omega) hgr, fun W => ?_⟩
      have h := rfix_any V K W (by omega) (by omega) (by omega)
      rw [rfixE, if_pos hgr] at h
      exact h
    · refine ⟨⟨#[]⟩, 1, fun W => same_below (fix_great V K W (by omega) (by omega) hgr), fun W => ?_⟩
      have h := rfix_any V K W (by omega) (by omega) (by omega)
      rw [rfixE, if_neg hgr] at h
      exact h
theorem unfix_both (b : ByteArray) (at_ n : Int) (hb : b.size ≤ 3000) : ∃ y x : Int, BothB 18 19 #[.string b, .int .i64 at_, .int .i64 n] (.tuple #[.int .i64 y, .int .i64 x]) := by
  by_cases hbad : n < 1 ∨ 7 < n ∨ at_ < 0
  · exact ⟨0, 1, fun W => same_below (unfix_bad b at_ n W hbad), fun W => same_below (runfix_bad b at_ n W hbad)⟩
  · obtain ⟨K, rfl⟩ : ∃ K : Nat, n = K := ⟨n.toNat, by omega⟩
    obtain ⟨A, rfl⟩ : ∃ A : Nat, at_ = A := ⟨at_.toNat, by omega⟩
    by_cases hs : b.size < A + K
    · exact ⟨0, 5, fun W => same_below (unfix_short b A K W (by omega) (by omega) (by omega) hs), fun W => same_below (runfix_short b A K W (by omega) (by omega) (by omega) hs)⟩
    · exact ⟨_, 0, fun W => same_below (unfix_good b A K W (by omega) (by omega) (by omega) (by omega)), fun W => same_below (runfix_good b A K W (by omega) (by omega) (by omega) (by omega))⟩
theorem num_both (b : ByteArray) (hb : b.size ≤ 3000) : ∃ y x : Int, BothB 20 21 #[.string b] (.tuple #[.int .i64 y, .int .i64 x]) :=
  ⟨_, _, fun W => same_below (num2_any b W (by omega)), fun W => same_below (rnum_any b W (by omega))⟩
theorem dig_both (v : Int) (hv : -9223372036854775808 ≤ v ∧ v ≤ 9223372036854775807) : ∃ s : ByteArray, BothB 30 31 #[.int .i64 v] (.string s) :=
  ⟨_, fun W => digits_any v W hv.1 hv.2, fun W => rdig_any v hv W⟩
theorem bool_both (v : Bool) : ∃ s : ByteArray, BothB 32 33 #[.bool v] (.string s) :=
  ⟨_, fun W => same_below (nbool_any v W), fun W => same_below (rbool_ref v W)⟩
/-- The texts side by side. -/
def joined (ss : List ByteArray) : List UInt8 := (ss.map (·.data.toList)).flatten
theorem joined_len (ss : List ByteArray) : (joined ss).length = (ss.map (·.size)).sum := by
  induction ss with
  | nil => rfl
  | cons s r ih =>
    have h : s.data.toList.length = s.size := rfl
    simp only [joined, List.map_cons, List.flatten_cons, List.length_append, List.sum_cons] at *
    omega
theorem take_more {ss : List ByteArray} {k : Nat} {s : ByteArray} (h : ss[k]? = some s) : ss.take (k + 1) = ss.take k ++ [s] := by
  have hk : k < ss.length := (List.getElem?_eq_some_iff.1 h).1
  rw [List.take_succ_eq_append_getElem hk]
  congr 2
  exact (List.getElem?_eq_some_iff.1 h).2
theorem sum_take_le (ss : List ByteArray) (k : Nat) : ((ss.take k).map (·.size)).sum ≤ (ss.map (·.size)).sum := by
  conv => rhs; rw [← List.take_append_drop k ss]
  rw [List.map_append, List.sum_append]
  omega
theorem cat_all (ss : List ByteArray) (k : Nat) (s : ByteArray) (h : ss[k]? = some s) (hn : ss.length ≤ 100) (hs : (ss.map (·.size)).sum ≤ 6000) (W : World) :
    (Op.stringOp .add ⟨(textsB (ss.take k)).toArray⟩ ⟨(textB s.data.toList).toArray⟩).run Try.prog W = .ok (.string ⟨(textsB (ss.take (k + 1))).toArray⟩) W := by
  have e : textsB (ss.take (k + 1)) = textsB (ss.take k) ++ textB s.data.toList := by rw [take_more h]; simp [textsB]
  have h1 := textsB_len (ss.take (k + 1))
  have h2 := sum_take_le ss (k + 1)
  have h3 : (ss.take (k + 1)).length ≤ ss.length := by simp; omega
  have h4 := congrArg List.length e
  rw [List.length_append] at h4
  rw [e, cat_run _ _ W (by omega)]
theorem cat_joined (ss : List ByteArray) (k : Nat) (s : ByteArray) (h : ss[k]? = some s) (hs : (ss.map (·.size)).sum ≤ 6000) (W : World) :
    (Op.stringOp .add ⟨(joined (ss.take k)).toArray⟩ s).run Try.prog W = .ok (.string ⟨(joined (ss.take (k + 1))).toArray⟩) W := by
  have e : joined (ss.take (k + 1)) = joined (ss.take k) ++ s.data.toList := by rw [take_more h]; simp [joined]
  have h1 := joined_len (ss.take (k + 1))
  have h2 := sum_take_le ss (k + 1)
  have h4 := congrArg List.length e
  rw [List.length_append] at h4
  have hc := cat_run (joined (ss.take k)) s.data.toList W (by omega)
  rw [show (ByteArray.mk s.data.toList.toArray) = s from bytes_ext (by rw [bytes_mk])] at hc
  rw [e, hc]
theorem crc_lent {W : World} {B g m d : Nat} {ss : List ByteArray} (hL : LentT W B g m d ss) (hl : ss.length = m) (hm : m ≤ 100) (hs : (ss.map (·.size)).sum ≤ 6000) :
    Calls Try.prog 28 #[.slice (some ⟨g, 0, none⟩) m d] W fun e w' => e = .returned (.int .i64 (crc (joined ss))) ∧ W = w' := by
  have h := crc_any (some ⟨g, 0, none⟩) m d ss W hl (by omega) (fun k hk => ⟨⟨g, 0, none⟩, rfl, by
    have hkl : k < ss.length := by omega
    have hc := hL.at_ hl k ss[k] (List.getElem?_eq_getElem hkl)
    rw [add_plain, hc]
    congr 2
    simp [List.getD, List.getElem?_eq_getElem hkl]⟩) (fun s h => by have := le_sum (ss.map (·.size)) s.size (List.mem_map.2 ⟨s, h, rfl⟩); omega)
  have e : (4294967295 : Int) - (crcAll 4294967295 (ss.map (·.data.toList)) : Nat) = ((crc (joined ss) : Nat) : Int) := by
    rw [crcAll_flatten]
    have hlt := crcS_lt (joined ss) 4294967295 (by omega)
    unfold crc
    show (4294967295 : Int) - (crcS 4294967295 (joined ss) : Nat) = _
    omega
  rw [e] at h
  exact h
end Go.Proofs.Ytegiibpdkioocaa
