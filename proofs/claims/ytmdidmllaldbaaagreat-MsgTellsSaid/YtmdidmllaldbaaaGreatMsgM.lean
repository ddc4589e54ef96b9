/- The plain bytes of a message, and how it is read again. -/
import Derived.Test.YtmdidmllaldbaaaGreatEntP
import Derived.Test.YtmdidmllaldbaaaGreatPairB
import Derived.Test.YtmdidmllaldbaaaGreatCrcP
import Derived.Test.YtmdidmllaldbaaaGreatViewE
import Derived.Test.YtmdidmllaldbaaaGreatEntM
import Derived.Test.YtmdidmllaldbaaaGreatEntW
import Derived.Test.YtmdidmllaldbaaaGreatCrc
import Derived.Test.YtmdidmllaldbaaaGreatBuild2
import Derived.Deep.RegionHeld3
import Derived.Deep.DeepCutAuto
import Derived.Test.YtmdidmllaldbaaaGreatEntG
import Derived.Deep.AppendLies
import Derived.Deep.RegionLaw
import Derived.Test.YtmdidmllaldbaaaGreatCutPre
import Derived.Test.YtmdidmllaldbaaaGreatRefEntM
namespace Go.Proofs.YtmdidmllaldbaaaGreat
/-! ### The plain bytes of a message, and how it is read again. -/
section
open Go.RowKit
set_option linter.unusedVariables false
structure MsgV where
  kd : Int
  frm : Int
  dst : Int
  tm : Int
  ix : Int
  lt : Int
  cm : Int
  rd : Int
  ok : Bool
  dn : Bool
  es : List Ent
  ms : List Int
  off : Int
  ps : List Par
def msg00 : MsgV := ⟨0, 0, 0, 0, 0, 0, 0, 0, false, false, [], [], 0, []⟩
def boolM (b : Bool) : List UInt8 := if b then [1] else [0]
def pairB (p : Par) : List UInt8 := textB p.key.data.toList ++ textB p.vl.data.toList
def pairsB (l : List Par) : List UInt8 := (l.map pairB).flatten
/-- What stands behind the first byte of a message, without its sum. -/
def msgT (m : MsgV) : List UInt8 :=
  var1 m.kd ++ (var1 m.frm ++ (var1 m.dst ++ (var1 m.tm ++ (var1 m.ix ++ (var1 m.lt ++ (var1 m.cm ++ (var1 m.rd ++ (boolM m.ok ++ (boolM m.dn ++ (putB m.es ++ (memB m.ms ++ (var1 m.off ++ (var1 m.ps.length ++ pairsB m.ps)))))))))))))
def msgB (m : MsgV) : List UInt8 := 109 :: msgT m
def putMsgB (m : MsgV) : List UInt8 := msgB m ++ fixB (crc (msgB m)) 4
def getPair (st : RSt) : Par × RSt := (⟨⟨(rText 41 st).1.toArray⟩, ⟨(rText 2000 (rText 41 st).2).1.toArray⟩⟩, (rText 2000 (rText 41 st).2).2)
def getPairs : Nat → RSt → List Par → List Par × RSt
  | 0, st, acc => (acc, st)
  | n + 1, st, acc => getPairs n (getPair st).2 (acc ++ [(getPair st).1])
theorem getPair_off (st : RSt) (h : st.2 ≠ 0) : (getPair st).2 = st := by
  unfold getPair
  rw [rText_stay 41 st h]
  dsimp only
  rw [rText_stay 2000 st h]
theorem getPairs_off (n : Nat) : ∀ (st : RSt) acc, st.2 ≠ 0 → (getPairs n st acc).2 = st := by
  induction n with
  | zero => intro st acc _; rfl
  | succ n ih => intro st acc h; rw [getPairs, getPair_off st h]; exact ih st _ h
theorem pair_eq (p : Par) : (⟨⟨p.key.data.toList.toArray⟩, ⟨p.vl.data.toList.toArray⟩⟩ : Par) = p := by
  rcases p with ⟨a, b⟩
  rfl
theorem getPairs_put : ∀ (l acc : List Par) (r : List UInt8), (∀ p ∈ l, p.key.size ≤ 140737488351232 ∧ p.vl.size ≤ 140737488351232) → (getPairs l.length (pairsB l ++ r, 0) acc).2.2 = 0 → getPairs l.length (pairsB l ++ r, 0) acc = (acc ++ l, (r, 0)) := by
  intro l
  induction l with
  | nil => intro acc r _ _; simp [getPairs, pairsB]
  | cons p l ih =>
    intro acc r h h0
    obtain ⟨s1, s2⟩ := h p List.mem_cons_self
    have k1 : p.key.data.toList.length = p.key.size := rfl
    have k2 : p.vl.data.toList.length = p.vl.size := rfl
    have e0 : pairsB (p :: l) ++ r = textB p.key.data.toList ++ (textB p.vl.data.toList ++ (pairsB l ++ r)) := by simp [pairsB, pairB]
    have e1 := rText_textB 41 p.key.data.toList (textB p.vl.data.toList ++ (pairsB l ++ r)) (by omega)
    have e2 := rText_textB 2000 p.vl.data.toList (pairsB l ++ r) (by omega)
    rw [List.length_cons, getPairs, e0] at h0 ⊢
    by_cases c1 : (41 : Int) < p.key.data.toList.length
    · exfalso
      rw [if_pos c1] at e1
      have hg : (getPair (textB p.key.data.toList ++ (textB p.vl.data.toList ++ (pairsB l ++ r)), 0)).2.2 = 2 := by
        unfold getPair
        rw [e1]
        dsimp only
        rw [rText_stay 2000 _ (by simp)]
      rw [getPairs_off _ _ _ (by rw [hg]; decide), hg] at h0
      exact absurd h0 (by decide)
    · rw [if_neg c1] at e1
      by_cases c2 : (2000 : Int) < p.vl.data.toList.length
      · exfalso
        rw [if_pos c2] at e2
        have hg : (getPair (textB p.key.data.toList ++ (textB p.vl.data.toList ++ (pairsB l ++ r)), 0)).2.2 = 2 := by
          unfold getPair
          rw [e1]
          dsimp only
          rw [e2]
        rw [getPairs_off _ _ _ (by rw [hg]; decide), hg] at h0
        exact absurd h0 (by decide)
      · rw [if_neg c2] at e2
        have hg : getPair (textB p.key.data.toList ++ (textB p.vl.data.toList ++ (pairsB l ++ r)), 0) = (p, (pairsB l ++ r, 0)) := by
          unfold getPair
          rw [e1]
          dsimp only
          rw [e2]
        rw [hg] at h0 ⊢
        dsimp only at h0 ⊢
        rw [ih _ _ (fun q hq => h q (List.mem_cons_of_mem _ hq)) h0]
        simp
theorem getMs_off (n : Nat) : ∀ (st : RSt) acc, st.2 ≠ 0 → (getMs n st acc).2 = st := by
  induction n with
  | zero => intro st acc _; rfl
  | succ n ih => intro st acc h; rw [getMs, rVar_off h]; exact ih st _ h
theorem rBool_offM {st : RSt} (h : st.2 ≠ 0) : rBool st = (false, st) := by unfold rBool; rw [if_pos h]
theorem rBool_boolM (v : Bool) (r : List UInt8) : rBool (boolM v ++ r, 0) = (v, (r, 0)) := by cases v <;> rfl
/-- Entries, members, the offset and the pairs. -/
def readTail (st : RSt) : (List Ent × List Int × Int × List Par) × RSt :=
  let a := getAll st
  let c := rCount 9 a.2
  let d := getMs c.1.toNat c.2 []
  let e := rVar d.2
  let f := rCount 50 e.2
  let g := getPairs f.1.toNat f.2 []
  ((a.1, d.1, e.1, g.1), g.2)
theorem readTail_put (es : List Ent) (ms : List Int) (off : Int) (ps : List Par) (he : ∀ e ∈ es, EntOk e) (hel : es.length ≤ 9223372036854775807) (hm : ∀ v ∈ ms, -9223372036854775808 ≤ v ∧ v ≤ 9223372036854775807) (hml : ms.length ≤ 9223372036854775807)
    (ho : -9223372036854775808 ≤ off ∧ off ≤ 9223372036854775807) (hp : ∀ p ∈ ps, p.key.size ≤ 140737488351232 ∧ p.vl.size ≤ 140737488351232) (hpl : ps.length ≤ 9223372036854775807)
    (h0 : (readTail (putB es ++ (memB ms ++ (var1 off ++ (var1 ps.length ++ pairsB ps))), 0)).2.2 = 0) :
    readTail (putB es ++ (memB ms ++ (var1 off ++ (var1 ps.length ++ pairsB ps))), 0) = ((es, ms, off, ps), ([], 0)) := by
  have off1 : ∀ st : RSt, st.2 ≠ 0 → (getPairs (rCount 50 (rVar (getMs (rCount 9 st).1.toNat (rCount 9 st).2 []).2).2).1.toNat (rCount 50 (rVar (getMs (rCount 9 st).1.toNat (rCount 9 st).2 []).2).2).2 []).2 = st := by
    intro st h
    rw [rCount_stay 9 st h]
    dsimp only
    rw [getMs_off _ st _ h, rVar_off h]
    dsimp only
    rw [rCount_stay 50 st h]
    dsimp only
    exact getPairs_off _ _ _ h
  by_cases hg : es.length ≤ 400 ∧ ∀ e ∈ es, e.dt.size ≤ 2200
  · have h1 := getAll_good es (memB ms ++ (var1 off ++ (var1 ps.length ++ pairsB ps))) hg.1 (fun e h => ⟨he e h, hg.2 e h⟩)
    unfold readTail at h0 ⊢
    rw [h1] at h0 ⊢
    dsimp only at h0 ⊢
    have h2 : rCount 9 (memB ms ++ (var1 off ++ (var1 ps.length ++ pairsB ps)), 0) = if 9 < (ms.length : Int) then (0, (vars ms ++ (var1 off ++ (var1 ps.length ++ pairsB ps)), 2)) else ((ms.length : Int), (vars ms ++ (var1 off ++ (var1 ps.length ++ pairsB ps)), 0)) := by
      unfold memB
      rw [List.append_assoc]
      exact rCount_var1 9 ms.length _ (by omega) (by omega)
    by_cases c1 : (9 : Int) < ms.length
    · exfalso
      rw [if_pos c1] at h2
      rw [h2] at h0
      dsimp only at h0
      rw [show (0 : Int).toNat = 0 from rfl, getMs, rVar_off (by simp)] at h0
      dsimp only at h0
      rw [rCount_stay 50 _ (by simp)] at h0
      dsimp only at h0
      rw [getPairs_off _ _ _ (by simp)] at h0
      simp at h0
    · rw [if_neg c1] at h2
      rw [h2] at h0 ⊢
      dsimp only at h0 ⊢
      rw [Int.toNat_natCast, getMs_vars ms [] _ hm] at h0 ⊢
      dsimp only at h0 ⊢
      rw [rVar_var1 off _ ho.1 ho.2] at h0 ⊢
      dsimp only at h0 ⊢
      have h3 := rCount_var1 50 ps.length (pairsB ps) (by omega) (by omega)
      by_cases c2 : (50 : Int) < ps.length
      · exfalso
        rw [if_pos c2] at h3
        rw [h3] at h0
        dsimp only at h0
        rw [getPairs_off _ _ _ (by simp)] at h0
        simp at h0
      · rw [if_neg c2] at h3
        rw [h3] at h0 ⊢
        dsimp only at h0 ⊢
        rw [Int.toNat_natCast] at h0 ⊢
        have h4 := getPairs_put ps [] [] hp
        rw [List.append_nil] at h4
        rw [h4 h0]
        simp
  · exfalso
    have hb := getAll_bad es (memB ms ++ (var1 off ++ (var1 ps.length ++ pairsB ps))) hel he (short_or es hg)
    have h2 := off1 (getAll (putB es ++ (memB ms ++ (var1 off ++ (var1 ps.length ++ pairsB ps))), 0)).2 (by rw [hb.2]; decide)
    unfold readTail at h0
    dsimp only at h0
    rw [h2, hb.2] at h0
    exact absurd h0 (by decide)
/-- The whole message behind its first byte. -/
def readMsg (st : RSt) : MsgV × RSt :=
  let a1 := rVar st
  let a2 := rVar a1.2
  let a3 := rVar a2.2
  let a4 := rVar a3.2
  let a5 := rVar a4.2
  let a6 := rVar a5.2
  let a7 := rVar a6.2
  let a8 := rVar a7.2
  let b1 := rBool a8.2
  let b2 := rBool b1.2
  let t := readTail b2.2
  (⟨a1.1, a2.1, a3.1, a4.1, a5.1, a6.1, a7.1, a8.1, b1.1, b2.1, t.1.1, t.1.2.1, t.1.2.2.1, t.1.2.2.2⟩, t.2)
def I64 (v : Int) : Prop := -9223372036854775808 ≤ v ∧ v ≤ 9223372036854775807
def MsgOk (m : MsgV) : Prop := I64 m.kd ∧ I64 m.frm ∧ I64 m.dst ∧ I64 m.tm ∧ I64 m.ix ∧ I64 m.lt ∧ I64 m.cm ∧ I64 m.rd ∧ I64 m.off ∧
  ((∀ e ∈ m.es, EntOk e) ∧ m.es.length ≤ 9223372036854775807) ∧ ((∀ v ∈ m.ms, I64 v) ∧ m.ms.length ≤ 9223372036854775807) ∧ ((∀ p ∈ m.ps, p.key.size ≤ 140737488351232 ∧ p.vl.size ≤ 140737488351232) ∧ m.ps.length ≤ 9223372036854775807)
theorem readMsg_put (m : MsgV) (h : MsgOk m) (h0 : (readMsg (msgT m, 0)).2.2 = 0) : readMsg (msgT m, 0) = (m, ([], 0)) := by
  obtain ⟨i1, i2, i3, i4, i5, i6, i7, i8, i9, ⟨e1, e2⟩, ⟨m1, m2⟩, ⟨p1, p2⟩⟩ := h
  unfold readMsg msgT at h0 ⊢
  rw [rVar_var1 m.kd _ i1.1 i1.2] at h0 ⊢
  dsimp only at h0 ⊢
  rw [rVar_var1 m.frm _ i2.1 i2.2] at h0 ⊢
  dsimp only at h0 ⊢
  rw [rVar_var1 m.dst _ i3.1 i3.2] at h0 ⊢
  dsimp only at h0 ⊢
  rw [rVar_var1 m.tm _ i4.1 i4.2] at h0 ⊢
  dsimp only at h0 ⊢
  rw [rVar_var1 m.ix _ i5.1 i5.2] at h0 ⊢
  dsimp only at h0 ⊢
  rw [rVar_var1 m.lt _ i6.1 i6.2] at h0 ⊢
  dsimp only at h0 ⊢
  rw [rVar_var1 m.cm _ i7.1 i7.2] at h0 ⊢
  dsimp only at h0 ⊢
  rw [rVar_var1 m.rd _ i8.1 i8.2] at h0 ⊢
  dsimp only at h0 ⊢
  rw [rBool_boolM] at h0 ⊢
  dsimp only at h0 ⊢
  rw [rBool_boolM] at h0 ⊢
  dsimp only at h0 ⊢
  rw [readTail_put m.es m.ms m.off m.ps e1 e2 m1 m2 i9 p1 p2 h0]
/-- What Get answers. -/
def getMsgV (l : List UInt8) : MsgV × Int :=
  if l.head? ≠ some 109 then (msg00, 4)
  else if l.length < 5 then (msg00, 5)
  else if unfixB (l.drop (l.length - 4)) ≠ crc (l.take (l.length - 4)) then (msg00, 6)
  else if rEnd (readMsg ((l.take (l.length - 4)).drop 1, 0)).2 ≠ 0 then (msg00, rEnd (readMsg ((l.take (l.length - 4)).drop 1, 0)).2)
  else ((readMsg ((l.take (l.length - 4)).drop 1, 0)).1, 0)
theorem putMsgB_parts (m : MsgV) : (putMsgB m).length = (msgB m).length + 4 ∧ (putMsgB m).take (msgB m).length = msgB m ∧ (putMsgB m).drop (msgB m).length = fixB (crc (msgB m)) 4 := by
  unfold putMsgB
  refine ⟨by rw [List.length_append, fixB_len], ?_, ?_⟩
  · rw [List.take_left']; rfl
  · rw [List.drop_left']; rfl
theorem crc_lt (l : List UInt8) : crc l < 256 ^ 4 := by unfold crc; omega
theorem getMsg_put (m : MsgV) (h : MsgOk m) (h0 : (getMsgV (putMsgB m)).2 = 0) : (getMsgV (putMsgB m)).1 = m := by
  obtain ⟨q1, q2, q3⟩ := putMsgB_parts m
  have q4 : (putMsgB m).length - 4 = (msgB m).length := by omega
  have q5 : 0 < (msgB m).length := by unfold msgB; simp
  have hh : (putMsgB m).head? = some 109 := by unfold putMsgB msgB; rfl
  unfold getMsgV at h0 ⊢
  rw [if_neg (by rw [hh]; simp), if_neg (by omega), q4, q2, q3, unfix_fix, Nat.mod_eq_of_lt (crc_lt _), if_neg (by simp)] at h0 ⊢
  have hd : (msgB m).drop 1 = msgT m := rfl
  rw [hd] at h0 ⊢
  by_cases he : rEnd (readMsg (msgT m, 0)).2 ≠ 0
  · rw [if_pos he] at h0
    exact absurd h0 he
  · rw [if_neg he]
    have h2 : (readMsg (msgT m, 0)).2.2 = 0 := by
      by_cases hx : (readMsg (msgT m, 0)).2.2 = 0
      · exact hx
      · exfalso; apply he; unfold rEnd; rw [if_pos hx]; exact hx
    rw [readMsg_put m h h2]
/-- A byte that is changed is seen. -/
theorem unfixB_changed : ∀ (l k : List UInt8) (a b : UInt8), a ≠ b → unfixB (l ++ a :: k) ≠ unfixB (l ++ b :: k) := by
  intro l k a b hab h
  rw [unfixB_append, unfixB_append] at h
  have h2 : 256 ^ l.length * unfixB (a :: k) = 256 ^ l.length * unfixB (b :: k) := by omega
  have h3 := Nat.eq_of_mul_eq_mul_left (Nat.pow_pos (by omega)) h2
  unfold unfixB at h3
  apply hab
  have ha := a.toNat_lt
  have hb := b.toNat_lt
  have : a.toNat = b.toNat := by omega
  exact UInt8.toNat_inj.1 this
theorem set_parts (l : List UInt8) (i : Nat) (b : UInt8) (h : i < l.length) : l.set i b = l.take i ++ b :: l.drop (i + 1) ∧ l = l.take i ++ l[i] :: l.drop (i + 1) := by
  refine ⟨?_, ?_⟩
  · rw [List.set_eq_take_append_cons_drop, if_pos h]
  · rw [← List.drop_eq_getElem_cons h, List.take_append_drop]
theorem getMsg_changed (m : MsgV) (i : Nat) (b : UInt8) (hi : i < (putMsgB m).length) (hb : b ≠ (putMsgB m)[i]) : (getMsgV ((putMsgB m).set i b)).2 ≠ 0 := by
  obtain ⟨q1, q2, q3⟩ := putMsgB_parts m
  have q5 : 0 < (msgB m).length := by unfold msgB; simp
  have hl : ((putMsgB m).set i b).length = (putMsgB m).length := List.length_set
  have hh : (putMsgB m).head? = some 109 := by unfold putMsgB msgB; rfl
  unfold getMsgV
  by_cases c0 : ((putMsgB m).set i b).head? ≠ some 109
  · rw [if_pos c0]; show (4 : Int) ≠ 0; decide
  · rw [if_neg c0, hl, if_neg (by omega)]
    have q4 : (putMsgB m).length - 4 = (msgB m).length := by omega
    have hi0 : 0 < i := by
      rcases Nat.eq_zero_or_pos i with h | h
      · exfalso
        subst h
        obtain ⟨s1, s2⟩ := set_parts (putMsgB m) 0 b hi
        have g1 : ((putMsgB m).set 0 b).head? = some b := by rw [s1]; rfl
        have g2 : (putMsgB m).head? = some (putMsgB m)[0] := by rw [List.head?_eq_getElem?, List.getElem?_eq_getElem hi]
        rw [hh] at g2
        injection g2 with g2
        apply c0
        rw [g1]
        intro e
        injection e with e
        exact hb (e.trans g2)
      · exact h
    rw [q4]
    have key : unfixB (((putMsgB m).set i b).drop (msgB m).length) ≠ crc (((putMsgB m).set i b).take (msgB m).length) := by
      by_cases hk : i < (msgB m).length
      · have t1 : ((putMsgB m).set i b).drop (msgB m).length = fixB (crc (msgB m)) 4 := by rw [List.drop_set_of_lt hk, q3]
        have t2 : ((putMsgB m).set i b).take (msgB m).length = (msgB m).set i b := by rw [List.take_set, q2]
        rw [t1, t2, unfix_fix, Nat.mod_eq_of_lt (crc_lt _)]
        obtain ⟨s1, s2⟩ := set_parts (msgB m) i b hk
        have hx : (putMsgB m)[i] = (msgB m)[i] := by
          have : (putMsgB m)[i]? = (msgB m)[i]? := by unfold putMsgB; rw [List.getElem?_append_left hk]
          rw [List.getElem?_eq_getElem hi, List.getElem?_eq_getElem hk] at this
          injection this
        rw [hx] at hb
        rw [s1]
        intro e
        exact crc_changed ((msgB m).take i) ((msgB m).drop (i + 1)) (msgB m)[i] b (fun h => hb h.symm) (by rw [← s2]; exact e)
      · have hk' : (msgB m).length ≤ i := by omega
        have t2 : ((putMsgB m).set i b).take (msgB m).length = msgB m := by rw [List.take_set_of_le hk', q2]
        have t1 : ((putMsgB m).set i b).drop (msgB m).length = (fixB (crc (msgB m)) 4).set (i - (msgB m).length) b := by rw [List.drop_set, if_neg (by omega), q3]
        have hj : i - (msgB m).length < (fixB (crc (msgB m)) 4).length := by rw [fixB_len]; omega
        rw [t1, t2]
        obtain ⟨s1, s2⟩ := set_parts (fixB (crc (msgB m)) 4) (i - (msgB m).length) b hj
        have hx : (putMsgB m)[i] = (fixB (crc (msgB m)) 4)[i - (msgB m).length] := by
          have : (putMsgB m)[i]? = (fixB (crc (msgB m)) 4)[i - (msgB m).length]? := by unfold putMsgB; rw [List.getElem?_append_right hk']
          rw [List.getElem?_eq_getElem hi, List.getElem?_eq_getElem hj] at this
          injection this
        rw [hx] at hb
        have hu := unfix_fix (crc (msgB m)) 4
        rw [Nat.mod_eq_of_lt (crc_lt _)] at hu
        rw [s1]
        intro e
        refine unfixB_changed _ _ _ _ hb (e.trans ?_)
        rw [← s2]
        exact hu.symm
    rw [if_pos key]
    show (6 : Int) ≠ 0
    decide
end
/-! ### A message in memory: its fields, and the lists in it; how it is carried from world to world; and as an argument that came in. -/
section
open Go.ChangeShapes Go.WideShapes Go.ChangeAt Go.RowKit Go.Deep
set_option linter.unusedVariables false
/-- A message with its lists' places. -/
structure MsgR where
  v : MsgV
  eo : Option Addr
  en : Nat
  ec : Nat
  mo : Option Addr
  mn : Nat
  mc : Nat
  po : Option Addr
  pn : Nat
  pc : Nat
def MsgR.cells (m : MsgR) : List Value := [.int .i64 m.v.kd, .int .i64 m.v.frm, .int .i64 m.v.dst, .int .i64 m.v.tm, .int .i64 m.v.ix, .int .i64 m.v.lt, .int .i64 m.v.cm, .int .i64 m.v.rd, .bool m.v.ok, .bool m.v.dn, .slice m.eo m.en m.ec, .slice m.mo m.mn m.mc, .int .i64 m.v.off, .slice m.po m.pn m.pc]
def MsgR.agg (m : MsgR) : Value := .agg #[.int .i64 m.v.kd, .int .i64 m.v.frm, .int .i64 m.v.dst, .int .i64 m.v.tm, .int .i64 m.v.ix, .int .i64 m.v.lt, .int .i64 m.v.cm, .int .i64 m.v.rd, .bool m.v.ok, .bool m.v.dn, .slice m.eo m.en m.ec, .slice m.mo m.mn m.mc, .int .i64 m.v.off, .slice m.po m.pn m.pc]
/-- The lists of a message can be read. -/
structure MsgAt (W : World) (m : MsgR) : Prop where
  es : Ents W W.heap.size m.eo m.en m.v.es
  ms : IntsOf W m.mo m.mn m.v.ms
  ps : Pars W W.heap.size m.po m.pn m.v.ps
  ec : m.en ≤ m.ec ∧ m.ec ≤ 9223372036854775807
  mc : m.mn ≤ m.mc ∧ m.mc ≤ 9223372036854775807
  pc : m.pn ≤ m.pc ∧ m.pc ≤ 9223372036854775807
theorem MsgAt.below {w W : World} {m : MsgR} (h : MsgAt w m) (hb : Below w.heap.size w W) : MsgAt W m :=
  ⟨(h.es.below hb).mono hb.size, h.ms.below hb, (h.ps.below hb).mono hb.size, h.ec, h.mc, h.pc⟩
/-- A message's lists are few and short. -/
structure MsgSm (m : MsgV) : Prop where
  el : m.es.length ≤ 1000
  ed : (m.es.map (·.dt.size)).sum ≤ 10000000
  ml : m.ms.length ≤ 1000
  pl : m.ps.length ≤ 1000
  pd : (m.ps.map (fun p => p.key.size + p.vl.size)).sum ≤ 10000000
/-- A message that came in. -/
structure MsgIn (w : World) (m : MsgR) : Prop where
  es : EntsIn w m.eo m.en m.ec m.v.es
  ms : IntsIn w m.mo m.mn m.mc m.v.ms
  ps : ParsIn w m.po m.pn m.pc m.v.ps
  i1 : I64 m.v.kd
  i2 : I64 m.v.frm
  i3 : I64 m.v.dst
  i4 : I64 m.v.tm
  i5 : I64 m.v.ix
  i6 : I64 m.v.lt
  i7 : I64 m.v.cm
  i8 : I64 m.v.rd
  i9 : I64 m.v.off
theorem MsgIn.at_ {w : World} {m : MsgR} (h : MsgIn w m) : MsgAt w m :=
  ⟨h.es.ents, h.ms.of, h.ps.pars, ⟨h.es.le, by have := h.es.sz; omega⟩, ⟨h.ms.le, by have := h.ms.sz; omega⟩, ⟨h.ps.le, by have := h.ps.sz; omega⟩⟩
theorem MsgIn.ok {w : World} {m : MsgR} (h : MsgIn w m) : MsgOk m.v := by
  have e1 := h.es.ents.1
  have e2 := h.es.le
  have e3 := h.es.sz
  have m1 := h.ms.len
  have m2 := h.ms.le
  have m3 := h.ms.sz
  have p1 := h.ps.pars.1
  have p2 := h.ps.le
  have p3 := h.ps.sz
  exact ⟨h.i1, h.i2, h.i3, h.i4, h.i5, h.i6, h.i7, h.i8, h.i9, ⟨h.es.ok, by omega⟩, ⟨h.ms.ok, by omega⟩, ⟨h.ps.ok, by omega⟩⟩
theorem i64_wfM {n : Int} (h : (Lit.int .i64 n).wf = true) : I64 n := by
  unfold I64
  simpa [Lit.wf, IntKind.min, IntKind.max, IntKind.bits, IntKind.signed] using h
theorem sized_inner {P : Program} {H : Type} {ts : List TypeId} {ds : List (DataW H)} (h : (DataW.weightsEach P ts ds).all (· ≤ reachBytes) = true) {j : Nat} {t : TypeId} {fs : Array Field} {parts : List (DataW H)} (ht : ts[j]? = some t) (hd : ds[j]? = some (.agg parts)) (he : P.underlying t = some (.struct fs)) :
    (DataW.weightsEach P (fs.toList.map (·.type)) parts).all (· ≤ reachBytes) = true := by
  rw [List.all_eq_true]
  intro q hq
  exact List.all_eq_true.1 h q (DataW.weights_mem_each ht hd _ (by rw [DataW.weights, he]; exact hq))
section
variable {H : Type} {enc : TypeId × Value → H} {w : World}
set_option maxRecDepth 20000 in
set_option maxHeartbeats 2000000 in
theorem view_msg {r : Reach} {b0 : Nat} {v : Value} {d : DataW H} {p : List MemPlace}
    {ts : List TypeId} {ds : List (DataW H)} (hsz : (DataW.weightsEach Tryz.prog ts ds).all (· ≤ reachBytes) = true) {j : Nat} (hj1 : ts[j]? = some 118) (hj2 : ds[j]? = some d)
    (hv : Value.okWide Tryz.prog w r b0 118 v) (h : DataW.Trod enc Tryz.prog w 0 (fun _ => true) true 118 v d p) : ∃ m : MsgR, v = m.agg ∧ MsgIn w m := by
  obtain ⟨f0, f1, f2, f3, f4, f5, f6, f7, f8, f9, f10, f11, f12, f13, hu, hone, u0, u1, u2, u3, u4, u5, u6, u7, u8, u9, u10, u11, u12, u13⟩ : ∃ f0 f1 f2 f3 f4 f5 f6 f7 f8 f9 f10 f11 f12 f13 : Field, Tryz.prog.underlying 118 = some (.struct #[f0, f1, f2, f3, f4, f5, f6, f7, f8, f9, f10, f11, f12, f13]) ∧ oneCellFields Tryz.prog #[f0, f1, f2, f3, f4, f5, f6, f7, f8, f9, f10, f11, f12, f13] = true ∧ Tryz.prog.underlying f0.type = some (.int .i64) ∧ Tryz.prog.underlying f1.type = some (.int .i64) ∧ Tryz.prog.underlying f2.type = some (.int .i64) ∧ Tryz.prog.underlying f3.type = some (.int .i64) ∧ Tryz.prog.underlying f4.type = some (.int .i64) ∧ Tryz.prog.underlying f5.type = some (.int .i64) ∧ Tryz.prog.underlying f6.type = some (.int .i64) ∧ Tryz.prog.underlying f7.type = some (.int .i64) ∧ Tryz.prog.underlying f8.type = some .bool ∧ Tryz.prog.underlying f9.type = some .bool ∧ f10.type = 22 ∧ f11.type = 23 ∧ Tryz.prog.underlying f12.type = some (.int .i64) ∧ f13.type = 116 :=
    ⟨_, _, _, _, _, _, _, _, _, _, _, _, _, _, Tryz.underlying118, by kernel_rfl, by kernel_rfl, by kernel_rfl, by kernel_rfl, by kernel_rfl, by kernel_rfl, by kernel_rfl, by kernel_rfl, by kernel_rfl, by kernel_rfl, by kernel_rfl, by kernel_rfl, by kernel_rfl, by kernel_rfl, by kernel_rfl⟩
  obtain ⟨cs, ys, n, rfl, hl, hd, hyl, hfs⟩ := open_struct hu hone (by kernel_rfl) hv h
  subst hd
  obtain ⟨v0, y0, c0, s0, t0⟩ := hfs 0 f0 rfl
  obtain ⟨v1, y1, c1, s1, t1⟩ := hfs 1 f1 rfl
  obtain ⟨v2, y2, c2, s2, t2⟩ := hfs 2 f2 rfl
  obtain ⟨v3, y3, c3, s3, t3⟩ := hfs 3 f3 rfl
  obtain ⟨v4, y4, c4, s4, t4⟩ := hfs 4 f4 rfl
  obtain ⟨v5, y5, c5, s5, t5⟩ := hfs 5 f5 rfl
  obtain ⟨v6, y6, c6, s6, t6⟩ := hfs 6 f6 rfl
  obtain ⟨v7, y7, c7, s7, t7⟩ := hfs 7 f7 rfl
  obtain ⟨v8, y8, c8, s8, t8⟩ := hfs 8 f8 rfl
  obtain ⟨v9, y9, c9, s9, t9⟩ := hfs 9 f9 rfl
  obtain ⟨v10, y10, c10, s10, t10⟩ := hfs 10 f10 rfl
  obtain ⟨v11, y11, c11, s11, t11⟩ := hfs 11 f11 rfl
  obtain ⟨v12, y12, c12, s12, t12⟩ := hfs 12 f12 rfl
  obtain ⟨v13, y13, c13, s13, t13⟩ := hfs 13 f13 rfl
  obtain ⟨n0, e0, x0, w0⟩ := DataW.trod_int u0 t0
  obtain ⟨n1, e1, x1, w1⟩ := DataW.trod_int u1 t1
  obtain ⟨n2, e2, x2, w2⟩ := DataW.trod_int u2 t2
  obtain ⟨n3, e3, x3, w3⟩ := DataW.trod_int u3 t3
  obtain ⟨n4, e4, x4, w4⟩ := DataW.trod_int u4 t4
  obtain ⟨n5, e5, x5, w5⟩ := DataW.trod_int u5 t5
  obtain ⟨n6, e6, x6, w6⟩ := DataW.trod_int u6 t6
  obtain ⟨n7, e7, x7, w7⟩ := DataW.trod_int u7 t7
  obtain ⟨n8, e8, x8⟩ := DataW.trod_bool u8 t8
  obtain ⟨n9, e9, x9⟩ := DataW.trod_bool u9 t9
  obtain ⟨n12, e12, x12, w12⟩ := DataW.trod_int u12 t12
  obtain rfl : v0 = .int .i64 n0 := by simpa using e0
  obtain rfl : v1 = .int .i64 n1 := by simpa using e1
  obtain rfl : v2 = .int .i64 n2 := by simpa using e2
  obtain rfl : v3 = .int .i64 n3 := by simpa using e3
  obtain rfl : v4 = .int .i64 n4 := by simpa using e4
  obtain rfl : v5 = .int .i64 n5 := by simpa using e5
  obtain rfl : v6 = .int .i64 n6 := by simpa using e6
  obtain rfl : v7 = .int .i64 n7 := by simpa using e7
  obtain rfl : v8 = .bool n8 := by simpa using e8
  obtain rfl : v9 = .bool n9 := by simpa using e9
  obtain rfl : v12 = .int .i64 n12 := by simpa using e12
  rw [u10] at t10
  rw [u11] at t11
  rw [u13] at t13
  have sl : ∀ {x : Value} {ao : Option Addr} {n c : Nat}, [x] = [Value.slice ao n c] → x = .slice ao n c := fun h => by simpa using h
  have op : ∀ {t e : TypeId} {x : Value} {d : DataW H} {p : List MemPlace} {fu : Nat}, Tryz.prog.underlying t = some (.slice e) → DataW.trod enc Tryz.prog w 0 (fun _ => true) true fu t [x] = some (d, p) → ∃ ao n c, x = .slice ao n c := by
    intro t e x d p fu ht h
    rcases open_slice ht h with ⟨h0, _⟩ | ⟨a', len', cap', m', n', D', Pl', hcs', _⟩
    · exact ⟨none, 0, 0, sl h0⟩
    · exact ⟨some a', len', cap', sl hcs'⟩
  obtain ⟨eo, en, ec, rfl⟩ := op Tryz.underlying22 t10
  obtain ⟨mo, mn, mc, rfl⟩ := op Tryz.underlying23 t11
  obtain ⟨po, pn, pc, rfl⟩ := op Tryz.underlying116 t13
  have hin := sized_inner hsz hj1 hj2 hu
  obtain ⟨es, hes⟩ := view_entries (enc := enc) (w := w) (d := y10.1) (p := y10.2) hin (j := 10) (by simp [u10]) (by rw [List.getElem?_map, s10]; rfl) ⟨n, by simpa [Value.cells] using t10⟩
  obtain ⟨ms, hms⟩ := view_ints (enc := enc) (w := w) (d := y11.1) (p := y11.2) hin (j := 11) (by simp [u11]) (by rw [List.getElem?_map, s11]; rfl) ⟨n, by simpa [Value.cells] using t11⟩
  obtain ⟨ps, hps⟩ := view_pairs (enc := enc) (w := w) (d := y13.1) (p := y13.2) hin (j := 13) (by simp [u13]) (by rw [List.getElem?_map, s13]; rfl) ⟨n, by simpa [Value.cells] using t13⟩
  have hcs : cs = [.int .i64 n0, .int .i64 n1, .int .i64 n2, .int .i64 n3, .int .i64 n4, .int .i64 n5, .int .i64 n6, .int .i64 n7, .bool n8, .bool n9, .slice eo en ec, .slice mo mn mc, .int .i64 n12, .slice po pn pc] := by
    apply List.ext_getElem?
    intro i
    rcases i with _ | _ | _ | _ | _ | _ | _ | _ | _ | _ | _ | _ | _ | _ | i
    · exact c0
    · exact c1
    · exact c2
    · exact c3
    · exact c4
    · exact c5
    · exact c6
    · exact c7
    · exact c8
    · exact c9
    · exact c10
    · exact c11
    · exact c12
    · exact c13
    · rw [List.getElem?_eq_none (by rw [hl]; show 14 ≤ _; omega), List.getElem?_eq_none (by simp)]
  exact ⟨⟨⟨n0, n1, n2, n3, n4, n5, n6, n7, n8, n9, es, ms, n12, ps⟩, eo, en, ec, mo, mn, mc, po, pn, pc⟩, by rw [hcs]; rfl, hes, hms, hps, i64_wfM w0, i64_wfM w1, i64_wfM w2, i64_wfM w3, i64_wfM w4, i64_wfM w5, i64_wfM w6, i64_wfM w7, i64_wfM w12⟩
end
end
/-! ### The walk of msg.Put. -/
section
open Go.RowKit
set_option linter.unusedVariables false
theorem nboolM_any (v : Bool) (w : World) : Calls Tryz.prog 188 #[.bool v] w fun e w' => e = .returned (.string ⟨(boolM v).toArray⟩) ∧ w = w' := by
  cases v with
  | false =>
    go_enter Tryz.func188, Tryz.ntmps188
    go_wp2
    go_ret
    exact ⟨rfl, rfl⟩
  | true =>
    go_enter Tryz.func188, Tryz.ntmps188
    go_wp2
    go_ret
    exact ⟨rfl, rfl⟩
theorem crc_row {w : World} {g : Nat} {t : TypeId} (s : ByteArray) (h : w.heap[g]? = some (.cells #[.string s] t (0, 0))) (hs : s.size ≤ 9223372036854775807) :
    Calls Tryz.prog 190 #[.slice (some ⟨g, 0, none⟩) 1 1] w fun e w' => e = .returned (.int .i64 (crc s.data.toList)) ∧ w = w' := by
  refine (crc_any (some ⟨g, 0, none⟩) 1 1 [s] w rfl (by omega) (fun k hk => ⟨⟨g, 0, none⟩, rfl, ?_⟩) (by simpa using hs)).mono ?_
  · obtain rfl : k = 0 := by omega
    rw [add_lit, blk_cell h]
    rfl
  · rintro e w' ⟨rfl, rfl⟩
    refine ⟨?_, rfl⟩
    have h2 := crcAll_flatten [s.data.toList] 4294967295
    have h3 := crcS_lt s.data.toList 4294967295 (by omega)
    simp only [List.flatten_cons, List.flatten_nil, List.append_nil] at h2
    unfold crc
    simp only [List.map_cons, List.map_nil]
    rw [h2, Int.ofNat_sub (by omega)]
    rfl
/-- The bytes of a message, part by part. -/
def mh1 (m : MsgV) : List UInt8 := [109] ++ vars [m.kd, m.frm, m.dst, m.tm, m.ix, m.lt, m.cm, m.rd]
def mh2 (m : MsgV) : List UInt8 := ((boolM m.ok ++ boolM m.dn) ++ putB m.es) ++ memB m.ms
def mh3 (m : MsgV) : List UInt8 := vars [m.off, m.ps.length]
def mhd (m : MsgV) : List UInt8 := (mh1 m ++ mh2 m) ++ mh3 m
theorem msgB_parts (m : MsgV) : msgB m = mhd m ++ pairsB m.ps := by
  unfold msgB msgT mhd mh1 mh2 mh3
  simp [vars]
theorem pairB_len (p : Par) : (pairB p).length ≤ 20 + (p.key.size + p.vl.size) := by
  have h : pairB p = textsB [p.key, p.vl] := by simp [pairB, textsB]
  rw [h]
  have := textsB_len [p.key, p.vl]
  simp at this
  omega
theorem pairsB_len (l : List Par) : (pairsB l).length ≤ 20 * l.length + (l.map (fun p => p.key.size + p.vl.size)).sum := by
  induction l with
  | nil => simp [pairsB]
  | cons p r ih =>
    have h2 : (pairsB (p :: r)).length = (pairB p).length + (pairsB r).length := by simp [pairsB]
    have := pairB_len p
    rw [h2, List.length_cons, List.map_cons, List.sum_cons]
    omega
theorem pairsB_take_succ (l : List Par) (k : Nat) (p : Par) (h : l[k]? = some p) : pairsB (l.take (k + 1)) = pairsB (l.take k) ++ pairB p := by
  have : l.take (k + 1) = l.take k ++ [p] := by rw [List.take_add_one, h]; rfl
  rw [this]
  simp [pairsB]
theorem pairsB_room (l : List Par) (k : Nat) : (pairsB (l.take k)).length ≤ 20 * l.length + (l.map (fun p => p.key.size + p.vl.size)).sum := by
  have h1 := pairsB_len (l.take k)
  have h2 : (l.take k).length ≤ l.length := by rw [List.length_take]; omega
  have h3 : ((l.take k).map (fun p => p.key.size + p.vl.size)).sum ≤ (l.map (fun p => p.key.size + p.vl.size)).sum := by
    have e : (l.map (fun p => p.key.size + p.vl.size)).sum = ((l.take k).map (fun p => p.key.size + p.vl.size)).sum + ((l.drop k).map (fun p => p.key.size + p.vl.size)).sum := by
      rw [← List.sum_append_nat, ← List.map_append, List.take_append_drop]
    omega
  omega
theorem boolM_len (v : Bool) : (boolM v).length = 1 := by cases v <;> rfl
theorem putB_room (l : List Ent) (h1 : l.length ≤ 1000) (h2 : (l.map (·.dt.size)).sum ≤ 10000000) : (putB l).length ≤ 10100000 := by
  have := entsB_len l
  have := var1_len (l.length : Int)
  unfold putB
  rw [List.length_append]
  omega
theorem memB_room (l : List Int) (h1 : l.length ≤ 1000) : (memB l).length ≤ 11000 := by
  have := vars_len l
  have := var1_len (l.length : Int)
  unfold memB
  rw [List.length_append]
  omega
theorem mhd_room {m : MsgV} (h : MsgSm m) : (mh1 m).length ≤ 100 ∧ (mh2 m).length ≤ 10200000 ∧ (mh3 m).length ≤ 100 ∧ (mhd m).length ≤ 10300000 := by
  have a := putB_room m.es h.el h.ed
  have b := memB_room m.ms h.ml
  have c := vars_len [m.kd, m.frm, m.dst, m.tm, m.ix, m.lt, m.cm, m.rd]
  have d := vars_len [m.off, (m.ps.length : Int)]
  have e := boolM_len m.ok
  have f := boolM_len m.dn
  unfold mhd mh1 mh2 mh3
  simp only [List.length_append] at *
  simp at c d ⊢
  omega
theorem msgB_room {m : MsgV} (h : MsgSm m) (k : Nat) : (mhd m ++ pairsB (m.ps.take k)).length ≤ 20400000 := by
  have h1 := (mhd_room h).2.2.2
  have h2 := pairsB_room m.ps k
  have := h.pl
  have := h.pd
  rw [List.length_append]
  omega
/-- The message's block and the builder, along Put. -/
structure PutSt (w : World) (q B : Nat) (m : MsgR) (W : World) (l : List UInt8) : Prop where
  blk : W.heap[q]? = some (.cells #[.int .i64 m.v.kd, .int .i64 m.v.frm, .int .i64 m.v.dst, .int .i64 m.v.tm, .int .i64 m.v.ix, .int .i64 m.v.lt, .int .i64 m.v.cm, .int .i64 m.v.rd, .bool m.v.ok, .bool m.v.dn, .slice m.eo m.en m.ec, .slice m.mo m.mn m.mc, .int .i64 m.v.off, .slice m.po m.pn m.pc] 118 (0, 0))
  bld : Bld W B B l
  bel : Below q w W
  qB : q < B
  wq : w.heap.size = q
theorem PutSt.sz {w : World} {q B : Nat} {m : MsgR} {W : World} {l : List UInt8} (h : PutSt w q B m W l) : B ≤ W.heap.size := Nat.le_of_lt h.bld.lt
theorem PutSt.calm {w : World} {q B : Nat} {m : MsgR} {W W' : World} {l : List UInt8} (h : PutSt w q B m W l) (hb : Below W.heap.size W W') : PutSt w q B m W' l :=
  ⟨(hb.block q (blk_lt h.blk)).trans h.blk, h.bld.below hb, h.bel.trans (hb.mono (by have := h.bel.size; have := h.wq; omega)), h.qB, h.wq⟩
theorem PutSt.write {w : World} {q B : Nat} {m : MsgR} {W : World} {l : List UInt8} (h : PutSt w q B m W l) (s : ByteArray) (hl : l.length + s.size ≤ 140737488355328) :
    Calls Tryz.prog 125 #[.pointer (some ⟨B, 0, none⟩), .string s] W fun e W' => e = .returned (.tuple #[.int .i64 s.size, .nilIface]) ∧ PutSt w q B m W' (l ++ s.data.toList) := by
  refine (writeString_any h.bld s hl h.sz).mono ?_
  rintro e W' ⟨rfl, h1, h2, _, _⟩
  exact ⟨rfl, ⟨(h2.block q h.qB).trans h.blk, h1, h.bel.trans (h2.mono (by have := h.qB; omega)), h.qB, h.wq⟩⟩
theorem PutSt.facts {w : World} {q B : Nat} {m : MsgR} {W : World} {l : List UInt8} (h : PutSt w q B m W l) :
    (W.cell? ⟨q, 0, none⟩ = some (.int .i64 m.v.kd) ∧ W.cell? ⟨q, 1, none⟩ = some (.int .i64 m.v.frm) ∧ W.cell? ⟨q, 2, none⟩ = some (.int .i64 m.v.dst) ∧ W.cell? ⟨q, 3, none⟩ = some (.int .i64 m.v.tm) ∧ W.cell? ⟨q, 4, none⟩ = some (.int .i64 m.v.ix) ∧ W.cell? ⟨q, 5, none⟩ = some (.int .i64 m.v.lt) ∧ W.cell? ⟨q, 6, none⟩ = some (.int .i64 m.v.cm) ∧ W.cell? ⟨q, 7, none⟩ = some (.int .i64 m.v.rd)) ∧
    (W.cell? ⟨q, 8, none⟩ = some (.bool m.v.ok) ∧ W.cell? ⟨q, 9, none⟩ = some (.bool m.v.dn) ∧ W.cell? ⟨q, 10, none⟩ = some (.slice m.eo m.en m.ec) ∧ W.cell? ⟨q, 11, none⟩ = some (.slice m.mo m.mn m.mc)) ∧
    W.cell? ⟨q, 12, none⟩ = some (.int .i64 m.v.off) ∧ W.cell? ⟨q, 13, none⟩ = some (.slice m.po m.pn m.pc) := by
  refine ⟨⟨?_, ?_, ?_, ?_, ?_, ?_, ?_, ?_⟩, ⟨?_, ?_, ?_, ?_⟩, ?_, ?_⟩ <;> rw [blk_cell h.blk] <;> rfl
set_option maxRecDepth 20000 in
set_option maxHeartbeats 8000000 in
theorem mput_any {m : MsgR} {w : World} (hM : MsgAt w m) (hok : MsgOk m.v) (hs : MsgSm m.v) :
    Calls Tryz.prog 83 #[m.agg] w fun e w' => e = .returned (.string ⟨(putMsgB m.v).toArray⟩) ∧ Below w.heap.size w w' := by
  obtain ⟨q, hq⟩ : ∃ q, w.heap.size = q := ⟨_, rfl⟩
  have HQ := Lib.hid hq
  have HM : Hid (∀ W, Below q w W → MsgAt W m) := Lib.hid (fun W hb => hM.below (by rw [hq]; exact hb))
  have HOk := Lib.hid hok
  have HSm := Lib.hid hs
  have HS0 : Hid (PutSt w q (q + 1) m ((w.alloc (.cells #[.int .i64 m.v.kd, .int .i64 m.v.frm, .int .i64 m.v.dst, .int .i64 m.v.tm, .int .i64 m.v.ix, .int .i64 m.v.lt, .int .i64 m.v.cm, .int .i64 m.v.rd, .bool m.v.ok, .bool m.v.dn, .slice m.eo m.en m.ec, .slice m.mo m.mn m.mc, .int .i64 m.v.off, .slice m.po m.pn m.pc] 118)).alloc (.cells #[.pointer none, .slice none 0 0] 162)) []) := Lib.hid (by
    have hz : (w.alloc (.cells #[.int .i64 m.v.kd, .int .i64 m.v.frm, .int .i64 m.v.dst, .int .i64 m.v.tm, .int .i64 m.v.ix, .int .i64 m.v.lt, .int .i64 m.v.cm, .int .i64 m.v.rd, .bool m.v.ok, .bool m.v.dn, .slice m.eo m.en m.ec, .slice m.mo m.mn m.mc, .int .i64 m.v.off, .slice m.po m.pn m.pc] 118)).heap.size = q + 1 := by simp [hq]
    have hb := Bld.fresh (w.alloc (.cells #[.int .i64 m.v.kd, .int .i64 m.v.frm, .int .i64 m.v.dst, .int .i64 m.v.tm, .int .i64 m.v.ix, .int .i64 m.v.lt, .int .i64 m.v.cm, .int .i64 m.v.rd, .bool m.v.ok, .bool m.v.dn, .slice m.eo m.en m.ec, .slice m.mo m.mn m.mc, .int .i64 m.v.off, .slice m.po m.pn m.pc] 118)) (q + 1) (by omega)
    rw [hz] at hb
    exact ⟨old_at _ _ _ _ (new_at _ _ _ hq.symm), hb, ((Below.refl _ _).alloc (by omega) _).alloc (by simp; omega) _, by omega, hq⟩)
  have henl : m.v.es.length = m.en := hM.es.1
  have hpnl : m.v.ps.length = m.pn := hM.ps.1
  have hmnl : m.v.ms.length = m.mn := hM.ms.1
  have hpc : m.pn ≤ m.pc := hM.pc.1
  have hpl : m.pn ≤ 1000 := by have := hs.pl; omega
  have hel : m.en ≤ 1000 := by have := hs.el; omega
  have hml : m.mn ≤ 1000 := by have := hs.ml; omega
  have HPn := Lib.hid hpnl
  clear hM hok hs hq henl hmnl hpnl
  unfold MsgR.agg
  go_enter Tryz.func83, Tryz.ntmps83
  go_upto_region 2 with fail
  rw [HQ.out]
  generalize ((w.alloc (.cells #[.int .i64 m.v.kd, .int .i64 m.v.frm, .int .i64 m.v.dst, .int .i64 m.v.tm, .int .i64 m.v.ix, .int .i64 m.v.lt, .int .i64 m.v.cm, .int .i64 m.v.rd, .bool m.v.ok, .bool m.v.dn, .slice m.eo m.en m.ec, .slice m.mo m.mn m.mc, .int .i64 m.v.off, .slice m.po m.pn m.pc] 118)).alloc (.cells #[.pointer none, .slice none 0 0] 162)) = W1 at HS0 ⊢
  generalize q + 1 = B at HS0 ⊢
  obtain ⟨⟨c0, c1, c2, c3, c4, c5, c6, c7⟩, -, -⟩ := HS0.out.facts
  obtain ⟨i1, i2, i3, i4, i5, i6, i7, i8, i9, -⟩ := HOk.out
  have hcat : ∀ W : World, (Op.stringOp .add ⟨#[109]⟩ ⟨(vars [m.v.kd, m.v.frm, m.v.dst, m.v.tm, m.v.ix, m.v.lt, m.v.cm, m.v.rd]).toArray⟩).run Tryz.prog W = .ok (.string ⟨(mh1 m.v).toArray⟩) W := fun W => cat_run [109] _ W (by have h := (mhd_room HSm.out).1; unfold mh1 at h; rw [List.length_append] at h; omega)
  go_wp2_with fail
  refine (var_row [m.v.kd, m.v.frm, m.v.dst, m.v.tm, m.v.ix, m.v.lt, m.v.cm, m.v.rd] 8 (new_at _ _ _ rfl) rfl rfl (by omega) (by
    intro v hv
    simp only [List.mem_cons, List.not_mem_nil, or_false] at hv
    rcases hv with rfl | rfl | rfl | rfl | rfl | rfl | rfl | rfl
    · exact i1
    · exact i2
    · exact i3
    · exact i4
    · exact i5
    · exact i6
    · exact i7
    · exact i8)).mono ?_
  rintro e w2 ⟨rfl, hb2⟩
  have HS2 := Lib.hid (HS0.out.calm (((Below.refl _ W1).alloc (Nat.le_refl _) _).trans (hb2.mono (by simp))))
  clear hb2 c0 c1 c2 c3 c4 c5 c6 c7 i1 i2 i3 i4 i5 i6 i7 i8 HS0
  go_wp2_with fail
  refine (HS2.out.write ⟨(mh1 m.v).toArray⟩ (by have h := (mhd_room HSm.out).1; show 0 + (mh1 m.v).length ≤ _; omega)).mono ?_
  rintro e w3 ⟨rfl, h3⟩
  rw [bytes_mk, List.nil_append] at h3
  have HS3 := Lib.hid h3
  clear h3 HS2 hcat
  go_upto_region 3 with fail
  go_cut [] (fun W => Hid (PutSt w q B m W (mh1 m.v ++ mh2 m.v)))
  case first =>
    obtain ⟨b1, e1⟩ : ∃ b1, b1 = boolM m.v.ok := ⟨_, rfl⟩
    obtain ⟨b2, e2⟩ : ∃ b2, b2 = boolM m.v.dn := ⟨_, rfl⟩
    obtain ⟨b3, e3⟩ : ∃ b3, b3 = boolM m.v.ok ++ boolM m.v.dn := ⟨_, rfl⟩
    obtain ⟨b4, e4⟩ : ∃ b4, b4 = putB m.v.es := ⟨_, rfl⟩
    obtain ⟨b5, e5⟩ : ∃ b5, b5 = (boolM m.v.ok ++ boolM m.v.dn) ++ putB m.v.es := ⟨_, rfl⟩
    obtain ⟨b6, e6⟩ : ∃ b6, b6 = memB m.v.ms := ⟨_, rfl⟩
    obtain ⟨b7, e7⟩ : ∃ b7, b7 = mh2 m.v := ⟨_, rfl⟩
    have hcat1 : ∀ W : World, (Op.stringOp .add ⟨b1.toArray⟩ ⟨b2.toArray⟩).run Tryz.prog W = .ok (.string ⟨b3.toArray⟩) W := fun W => by rw [e1, e2, e3]; exact cat_run _ _ W (by rw [boolM_len, boolM_len]; omega)
    have hcat2 : ∀ W : World, (Op.stringOp .add ⟨b3.toArray⟩ ⟨b4.toArray⟩).run Tryz.prog W = .ok (.string ⟨b5.toArray⟩) W := fun W => by rw [e3, e4, e5]; exact cat_run _ _ W (by have := putB_room _ HSm.out.el HSm.out.ed; rw [List.length_append, boolM_len, boolM_len]; omega)
    have hcat3 : ∀ W : World, (Op.stringOp .add ⟨b5.toArray⟩ ⟨b6.toArray⟩).run Tryz.prog W = .ok (.string ⟨b7.toArray⟩) W := fun W => by rw [e5, e6, e7]; exact cat_run _ _ W (by have h := (mhd_room HSm.out).2.1; unfold mh2 at h; rw [List.length_append] at h; omega)
    have E1 := Lib.hid e1
    have E2 := Lib.hid e2
    have E4 := Lib.hid e4
    have E6 := Lib.hid e6
    have E7 := Lib.hid e7
    clear e1 e2 e3 e4 e5 e6 e7
    have hr3 : Below w3.heap.size w3 w3 := Below.refl _ _
    have HC : Hid (∀ W, Below w3.heap.size w3 W → W.cell? ⟨q, 8, none⟩ = some (.bool m.v.ok) ∧ W.cell? ⟨q, 9, none⟩ = some (.bool m.v.dn) ∧ W.cell? ⟨q, 10, none⟩ = some (.slice m.eo m.en m.ec) ∧ W.cell? ⟨q, 11, none⟩ = some (.slice m.mo m.mn m.mc)) := Lib.hid (fun W hb => (HS3.out.calm hb).facts.2.1)
    have HB1 : Hid (∀ W, Calls Tryz.prog 188 #[.bool m.v.ok] W fun e w' => e = .returned (.string ⟨b1.toArray⟩) ∧ W = w') := Lib.hid (fun W => by rw [E1.out]; exact nboolM_any _ W)
    have HB2 : Hid (∀ W, Calls Tryz.prog 188 #[.bool m.v.dn] W fun e w' => e = .returned (.string ⟨b2.toArray⟩) ∧ W = w') := Lib.hid (fun W => by rw [E2.out]; exact nboolM_any _ W)
    have HPu : Hid (∀ W, Below w3.heap.size w3 W → Calls Tryz.prog 21 #[.slice m.eo m.en m.ec] W fun e w' => e = .returned (.string ⟨b4.toArray⟩) ∧ Below W.heap.size W w') := Lib.hid (fun W hb => by rw [E4.out]; exact put_any (HM.out W (HS3.out.calm hb).bel).es HOk.out.2.2.2.2.2.2.2.2.2.1.1 (by omega) (by have := HSm.out.ed; omega))
    have HPm : Hid (∀ W, Below w3.heap.size w3 W → Calls Tryz.prog 23 #[.slice m.mo m.mn m.mc] W fun e w' => e = .returned (.string ⟨b6.toArray⟩) ∧ Below W.heap.size W w') := Lib.hid (fun W hb => by rw [E6.out]; exact putMembers_any (HM.out W (HS3.out.calm hb).bel).ms (by omega))
    have HWr : Hid (∀ W, Below w3.heap.size w3 W → Calls Tryz.prog 125 #[.pointer (some ⟨B, 0, none⟩), .string ⟨b7.toArray⟩] W fun e W' => e = .returned (.tuple #[.int .i64 (ByteArray.mk b7.toArray).size, .nilIface]) ∧ PutSt w q B m W' (mh1 m.v ++ mh2 m.v)) := Lib.hid (fun W hb => by rw [E7.out]; exact (HS3.out.calm hb).write ⟨(mh2 m.v).toArray⟩ (by have h := (mhd_room HSm.out).1; have h2 := (mhd_room HSm.out).2.1; show _ + (mh2 m.v).length ≤ _; omega))
    go_region_held3 (fun W => W.cell? ⟨q, 8, none⟩ = some (.bool m.v.ok) ∧ W.cell? ⟨q, 9, none⟩ = some (.bool m.v.dn) ∧ W.cell? ⟨q, 10, none⟩ = some (.slice m.eo m.en m.ec) ∧ W.cell? ⟨q, 11, none⟩ = some (.slice m.mo m.mn m.mc))
      ((first | exact HS9.out.facts.2.1 | (refine HC.out _ ?_; (repeat (with_reducible (first | assumption | refine Below.drew ?_))))))
      (first
        | (go_at_call 188; ((first | refine (HB1.out _).mono ?_ | refine (HB2.out _).mono ?_); rintro e6 w6 ⟨rfl, rfl⟩))
        | (go_at_call 21; ((refine (HPu.out _ (by repeat (with_reducible (first | assumption | refine Below.drew ?_)))).mono ?_); rintro e7 w7 ⟨rfl, hb7⟩; have hv7 : Below w3.heap.size w3 w7 := (by refine Below.trans (b := _) ?_ hb7; (repeat (with_reducible (first | assumption | refine Below.drew ?_)))); clear hb7))
        | (go_at_call 23; ((refine (HPm.out _ (by repeat (with_reducible (first | assumption | refine Below.drew ?_)))).mono ?_); rintro e8 w8 ⟨rfl, hb8⟩; have hv8 : Below w3.heap.size w3 w8 := (by refine Below.trans (b := _) ?_ (hb8.mono ?_); (repeat (with_reducible (first | assumption | refine Below.drew ?_))); exact hv7.size); clear hb8))
        | (go_at_call 125; ((refine (HWr.out _ (by repeat (with_reducible (first | assumption | refine Below.drew ?_)))).mono ?_); rintro e9 w9 ⟨rfl, hp9⟩; have HS9 := Lib.hid hp9; clear hp9)))
    all_goals (
      clear hcat1 hcat2 hcat3
      go_wp2_with fail
      go_meet
      exact Lib.hid (HS9.out.calm (by repeat (with_reducible (first | exact Below.refl _ _ | refine Below.drew ?_)))))
  case rest =>
    rename World => w4
    have HS4 := hcut
    obtain ⟨-, -, c12, c13⟩ := HS4.out.facts
    clear hcut HS3
    go_wp2_with fail
    refine (var_row [m.v.off, (m.pn : Int)] 2 (new_at _ _ _ rfl) rfl rfl (by omega) (by
      intro v hv
      simp only [List.mem_cons, List.not_mem_nil, or_false] at hv
      rcases hv with rfl | rfl
      · exact i9
      · omega)).mono ?_
    rintro e w5 ⟨rfl, hb5⟩
    have HS5 := Lib.hid (HS4.out.calm (((Below.refl _ w4).alloc (Nat.le_refl _) _).trans (hb5.mono (by simp))))
    clear hb5 c12 c13 HS4 i9
    go_wp2_with fail
    refine (HS5.out.write ⟨(vars [m.v.off, (m.pn : Int)]).toArray⟩ (by have h := mhd_room HSm.out; have h2 := vars_len [m.v.off, (m.pn : Int)]; rw [List.length_append]; show _ + (vars [m.v.off, (m.pn : Int)]).length ≤ _; simp at h2; omega)).mono ?_
    rintro e w6 ⟨rfl, h6⟩
    have HS6 : Hid (PutSt w q B m w6 (mhd m.v ++ pairsB (m.v.ps.take 0))) := Lib.hid (by
      rw [bytes_mk] at h6
      have e : mhd m.v ++ pairsB (m.v.ps.take 0) = mh1 m.v ++ mh2 m.v ++ vars [m.v.off, (m.pn : Int)] := by unfold mhd mh3; rw [HPn.out]; simp [pairsB]
      rw [e]; exact h6)
    obtain ⟨-, -, -, c13⟩ := HS6.out.facts
    clear h6 HS5
    go_wp2_with fail
    go_loopw [55] (fun i wr => ∃ k : Nat, k ≤ m.pn ∧ i = .int .i64 k ∧ Hid (PutSt w q B m wr (mhd m.v ++ pairsB (m.v.ps.take k)))) (fun i _ => m.pn - (intOf i).toNat)
    case atStart => exact ⟨0, Nat.zero_le _, rfl, HS6⟩
    case round =>
      obtain ⟨k, hk, rfl, HS⟩ := hrel
      by_cases hlt : k < m.pn
      · have hd1 : decide (k < m.pn) = true := by simpa using hlt
        have hd1' : decide ((k : Int) < (m.pn : Int)) = true := by simp; omega
        obtain ⟨gp, o, p, hpo, hgB, hpk, p0, p1⟩ := (HM.out wr HS.out.bel).ps.get hlt
        have HPo := Lib.hid hpo
        rw [hpo]
        have hx1 : (0 : Int) ≤ k := by omega
        have hx2 : (k : Int) < m.pn := by omega
        have hx3 : (m.pn : Int) ≤ m.pc := by omega
        have hpok := HOk.out.2.2.2.2.2.2.2.2.2.2.2.1 p (List.mem_of_getElem? hpk)
        have hlen : (mhd m.v ++ pairsB (m.v.ps.take k)).length + (textsB [p.key, p.vl]).length ≤ 140737488355328 := by
          have h1 := msgB_room HSm.out (k + 1)
          rw [pairsB_take_succ _ _ _ hpk, ← List.append_assoc, List.length_append] at h1
          have e : textsB [p.key, p.vl] = pairB p := by simp [textsB, pairB]
          rw [e]; omega
        have hsum : p.key.size + p.vl.size ≤ 17592186044416 := by
          have := le_sum (m.v.ps.map (fun p => p.key.size + p.vl.size)) (p.key.size + p.vl.size) (List.mem_map.2 ⟨p, List.mem_of_getElem? hpk, rfl⟩)
          have := HSm.out.pd
          omega
        have HPk := Lib.hid hpk
        have HLen := Lib.hid hlen
        clear hpo hpk hlen hpok
        go_wp2_with fail
        refine (text_row [p.key, p.vl] 2 (new_at _ _ _ (by simp)) rfl rfl (by omega) (by simp; omega)).mono ?_
        rintro e w7 ⟨rfl, hb7⟩
        have HS7 := Lib.hid (HS.out.calm ((((Below.refl _ wr).alloc (Nat.le_refl _) _).alloc (by simp) _).trans (hb7.mono (by simp; omega))))
        clear hb7 p0 p1
        go_wp2_with fail
        refine (HS7.out.write ⟨(textsB [p.key, p.vl]).toArray⟩ HLen.out).mono ?_
        rintro e w8 ⟨rfl, h8⟩
        have HS8 : Hid (PutSt w q B m w8 (mhd m.v ++ pairsB (m.v.ps.take (k + 1)))) := Lib.hid (by
          rw [bytes_mk] at h8
          rw [pairsB_take_succ _ _ _ HPk.out, ← List.append_assoc]
          have e : textsB [p.key, p.vl] = pairB p := by simp [textsB, pairB]
          rw [e] at h8
          exact h8)
        clear h8 HS7 HS
        go_wp2_with fail
        go_roundw
        case rel => exact ⟨k + 1, by omega, by go_num, HS8⟩
        case measure => simp [intOf] <;> omega
      · obtain rfl : k = m.pn := by omega
        have hd1 : decide (m.pn < m.pn) = false := by simp
        have hd1' : decide ((m.pn : Int) < (m.pn : Int)) = false := by simp
        have hall : mhd m.v ++ pairsB (m.v.ps.take m.pn) = msgB m.v := by rw [msgB_parts, List.take_of_length_le (by rw [HPn.out]; omega)]
        have h := HS.out
        rw [hall] at h
        have hlen := msgB_room HSm.out m.pn
        rw [hall] at hlen
        have hne : msgB m.v ≠ [] := by unfold msgB; simp
        obtain ⟨g, cap, hst, hBg⟩ := StrAt.ofBld h.bld hne
        obtain ⟨L, hL⟩ : ∃ L, L = msgB m.v := ⟨_, rfl⟩
        rw [← hL] at hst hlen hne
        have HLm := Lib.hid hL
        have HSt := Lib.hid hst
        have HBel := Lib.hid h.bel
        have hqg : q ≤ g := by have := h.qB; omega
        have HNe := Lib.hid hne
        clear h hst hne hall hL
        go_wp2_with fail
        refine (string_again (B := q) HSt.out HNe.out hqg (by omega)).mono ?_
        rintro e w7 ⟨rfl, hb7, hst7⟩
        have HB7 := Lib.hid (HBel.out.trans hb7)
        have HSt7 := Lib.hid hst7
        have hq7 : q ≤ w7.heap.size := by have := HB7.out.size; have := HQ.out; omega
        clear hb7 hst7 HSt HBel
        go_wp2_with fail
        refine (crc_row ⟨L.toArray⟩ (new_at _ _ _ rfl) (by show L.length ≤ _; omega)).mono ?_
        rintro e w8 ⟨rfl, rfl⟩
        have HB8 := Lib.hid (HB7.out.alloc hq7 (.cells #[.string ⟨L.toArray⟩] 9))
        have HSt8 := Lib.hid (HSt7.out.below ((Below.refl _ w7).alloc (Nat.le_refl _) (.cells #[.string ⟨L.toArray⟩] 9)))
        go_wp2_with fail
        refine (fix_good (crc L) 4 _ (by omega) (by omega) (crc_lt _)).mono ?_
        rintro e w9 ⟨rfl, hb9⟩
        have HB9 := Lib.hid (HB8.out.trans (hb9.mono (by simp; omega)))
        have HSt9 := Lib.hid (HSt8.out.below hb9)
        clear hb9
        go_wp2_with fail
        refine (string_again (B := q) HSt9.out HNe.out hqg (by omega)).mono ?_
        rintro e w10 ⟨rfl, hb10, -⟩
        obtain ⟨F, hF⟩ : ∃ F, F = fixB (crc L) 4 := ⟨_, rfl⟩
        have HF := Lib.hid hF
        rw [← hF]
        have hcat : ∀ W : World, (Op.stringOp .add ⟨L.toArray⟩ ⟨F.toArray⟩).run Tryz.prog W = .ok (.string ⟨(putMsgB m.v).toArray⟩) W := fun W => by rw [HF.out, HLm.out]; exact cat_run _ _ W (by have h := fixB_len (crc (msgB m.v)) 4; rw [h, ← HLm.out]; omega)
        clear hF
        go_wp2_with fail
        go_ret
        exact ⟨rfl, by rw [HQ.out]; exact HB9.out.trans hb10⟩
end
/-! ### The walk of msg.read. -/
section
open Go.RowKit
set_option linter.unusedVariables false
theorem ptrInfoM : (Tryz.prog.info? 3).map (fun i => (i.zero, i.size, i.bytes)) = some (some (.int .i64 0), 1, 8) := by kernel_rfl
theorem parInfoM : (Tryz.prog.info? 202).map (fun i => (i.zero, i.size, i.bytes)) = some (some (.agg #[.string ⟨#[]⟩, .string ⟨#[]⟩]), 2, 32) := by kernel_rfl
def msgZ : Array Value := #[.int .i64 0, .int .i64 0, .int .i64 0, .int .i64 0, .int .i64 0, .int .i64 0, .int .i64 0, .int .i64 0, .bool false, .bool false, .slice none 0 0, .slice none 0 0, .int .i64 0, .slice none 0 0]
def rdS (st : RSt) : Nat → RSt
  | 0 => st
  | k + 1 => (rVar (rdS st k)).2
def rdC (st : RSt) : Nat → Array Value
  | 0 => msgZ
  | k + 1 => (rdC st k).setIfInBounds k (.int .i64 (rVar (rdS st k)).1)
theorem rdC_size (st : RSt) (k : Nat) : (rdC st k).size = 14 := by
  induction k with
  | zero => rfl
  | succ k ih => rw [rdC, Array.size_setIfInBounds, ih]
/-- A reader, and the two messages' blocks, along read. -/
structure RdSt (w0 W : World) (B b r0 mb : Nat) (wr : World) (s : RSt) (cs : Array Value) : Prop where
  rs : RS w0 wr B b s
  gr : W.grownBy wr (some b)
  rk : wr.heap[r0]? = some (.cells msgZ 118 (0, 0))
  mbk : wr.heap[mb]? = some (.cells cs 118 (0, 0))
  h0 : W.heap.size ≤ r0
  h1 : r0 < mb
  hb : b < W.heap.size
section
variable {w0 W wr w' : World} {B b r0 mb : Nat} {s s' : RSt} {cs : Array Value}
theorem RdSt.call (h : RdSt w0 W B b r0 mb wr s cs) (hr : RS w0 w' B b s') (hg : wr.grownBy w' (some b)) : RdSt w0 W B b r0 mb w' s' cs :=
  ⟨hr, grown_then h.gr hg (fun k hk => by injection hk with hk; exact .inr hk.symm), (hg.block r0 (blk_lt h.rk) (fun e => by injection e with e; have := h.h0; have := h.hb; omega)).trans h.rk, (hg.block mb (blk_lt h.mbk) (fun e => by injection e with e; have := h.h0; have := h.h1; have := h.hb; omega)).trans h.mbk, h.h0, h.h1, h.hb⟩
theorem RdSt.grown {row : Option Nat} (h : RdSt w0 W B b r0 mb wr s cs) (hg : wr.grownBy w' row) (hrow : ∀ k, row = some k → mb < k) : RdSt w0 W B b r0 mb w' s cs := by
  have e0 := h.h0
  have e1 := h.h1
  have e2 := h.hb
  have hne : ∀ k, k ≤ mb → some k ≠ row := fun k hk e => by have := hrow k e.symm; omega
  have hgw : W.grownBy w' (some b) := grown_then h.gr hg (fun k hk => .inl (by have := hrow k hk; omega))
  exact ⟨h.rs.far hg (fun e => by have := hrow b e; omega) (h.rs.2.1.grown hg h.rs.size (fun k hk => by have := hrow k hk; have := h.rs.2.2; omega)), hgw, (hg.block r0 (blk_lt h.rk) (hne _ (by omega))).trans h.rk, (hg.block mb (blk_lt h.mbk) (hne _ (by omega))).trans h.mbk, e0, e1, e2⟩
theorem RdSt.calm (h : RdSt w0 W B b r0 mb wr s cs) (hb : Below wr.heap.size wr w') : RdSt w0 W B b r0 mb w' s cs :=
  ⟨h.rs.step hb, grown_below h.gr hb, (hb.block r0 (blk_lt h.rk)).trans h.rk, (hb.block mb (blk_lt h.mbk)).trans h.mbk, h.h0, h.h1, h.hb⟩
theorem RdSt.set (h : RdSt w0 W B b r0 mb wr s cs) (i : Nat) (v : Value) : RdSt w0 W B b r0 mb (wr.setCell ⟨mb, i, none⟩ v) s (cs.setIfInBounds i v) := by
  have e0 := h.h0
  have e1 := h.h1
  have e2 := h.hb
  have hg := grown_set wr mb i v
  refine ⟨h.rs.far hg (fun e => by injection e with e; omega) (h.rs.2.1.grown hg h.rs.size (fun k hk => by injection hk with hk; have := h.rs.2.2; omega)), grown_then h.gr hg (fun k hk => by injection hk with hk; exact .inl (by omega)), (hg.block r0 (blk_lt h.rk) (fun e => by injection e with e; omega)).trans h.rk, blk_set h.mbk i v, e0, e1, e2⟩
theorem RdSt.cell (h : RdSt w0 W B b r0 mb wr s cs) (i : Nat) {u : Value} (hu : cs[i]? = some u) : wr.cell? ⟨mb, i, none⟩ = some u := by rw [blk_cell h.mbk]; exact hu
theorem RdSt.rvar (h : RdSt w0 W B b r0 mb wr s cs) (hb : Below wr.heap.size wr w') : Calls Tryz.prog 116 #[.pointer (some ⟨b, 0, none⟩)] w' fun e w'' => e = .returned (.int .i64 (rVar s).1) ∧ RdSt w0 W B b r0 mb w'' (rVar s).2 cs ∧ w'.grownBy w'' (some b) := by
  refine (h.calm hb).rs.rvar.mono ?_
  rintro e w'' ⟨he, hr, hg⟩
  exact ⟨he, (h.calm hb).call hr hg, hg⟩
theorem RdSt.rbool (h : RdSt w0 W B b r0 mb wr s cs) : Calls Tryz.prog 203 #[.pointer (some ⟨b, 0, none⟩)] wr fun e w'' => e = .returned (.bool (rBool s).1) ∧ RdSt w0 W B b r0 mb w'' (rBool s).2 cs ∧ wr.grownBy w'' (some b) := by
  refine h.rs.bool.mono ?_
  rintro e w'' ⟨he, hr, hg⟩
  exact ⟨he, h.call hr hg, hg⟩
theorem RdSt.rcount (h : RdSt w0 W B b r0 mb wr s cs) (m : Int) : Calls Tryz.prog 115 #[.pointer (some ⟨b, 0, none⟩), .int .i64 m] wr fun e w'' => e = .returned (.int .i64 (rCount m s).1) ∧ RdSt w0 W B b r0 mb w'' (rCount m s).2 cs ∧ wr.grownBy w'' (some b) := by
  refine (h.rs.count m).mono ?_
  rintro e w'' ⟨he, hr, hg⟩
  exact ⟨he, h.call hr hg, hg⟩
theorem RdSt.rtext (h : RdSt w0 W B b r0 mb wr s cs) (hb : Below wr.heap.size wr w') (m : Int) : Calls Tryz.prog 117 #[.pointer (some ⟨b, 0, none⟩), .int .i64 m] w' fun e w'' => e = .returned (.string ⟨(rText m s).1.toArray⟩) ∧ RdSt w0 W B b r0 mb w'' (rText m s).2 cs ∧ w'.grownBy w'' (some b) := by
  refine ((h.calm hb).rs.text m).mono ?_
  rintro e w'' ⟨he, hr, hg⟩
  exact ⟨he, (h.calm hb).call hr hg, hg⟩
end
theorem set14 {w : World} {g : Nat} {t : TypeId} (h : w.heap[g]? = some (.cells msgZ t (0, 0))) (a0 a1 a2 a3 a4 a5 a6 a7 a8 a9 a10 a11 a12 a13 : Value) :
    ((((((((((((((w.setCell ⟨g, 0, none⟩ a0).setCell ⟨g, 1, none⟩ a1).setCell ⟨g, 2, none⟩ a2).setCell ⟨g, 3, none⟩ a3).setCell ⟨g, 4, none⟩ a4).setCell ⟨g, 5, none⟩ a5).setCell ⟨g, 6, none⟩ a6).setCell ⟨g, 7, none⟩ a7).setCell ⟨g, 8, none⟩ a8).setCell ⟨g, 9, none⟩ a9).setCell ⟨g, 10, none⟩ a10).setCell ⟨g, 11, none⟩ a11).setCell ⟨g, 12, none⟩ a12).setCell ⟨g, 13, none⟩ a13).heap[g]? = some (.cells #[a0, a1, a2, a3, a4, a5, a6, a7, a8, a9, a10, a11, a12, a13] t (0, 0)) ∧ w.grownBy ((((((((((((((w.setCell ⟨g, 0, none⟩ a0).setCell ⟨g, 1, none⟩ a1).setCell ⟨g, 2, none⟩ a2).setCell ⟨g, 3, none⟩ a3).setCell ⟨g, 4, none⟩ a4).setCell ⟨g, 5, none⟩ a5).setCell ⟨g, 6, none⟩ a6).setCell ⟨g, 7, none⟩ a7).setCell ⟨g, 8, none⟩ a8).setCell ⟨g, 9, none⟩ a9).setCell ⟨g, 10, none⟩ a10).setCell ⟨g, 11, none⟩ a11).setCell ⟨g, 12, none⟩ a12).setCell ⟨g, 13, none⟩ a13) (some g) := by
  constructor
  · have h1 := blk_set h 0 a0
    have h2 := blk_set h1 1 a1
    have h3 := blk_set h2 2 a2
    have h4 := blk_set h3 3 a3
    have h5 := blk_set h4 4 a4
    have h6 := blk_set h5 5 a5
    have h7 := blk_set h6 6 a6
    have h8 := blk_set h7 7 a7
    have h9 := blk_set h8 8 a8
    have h10 := blk_set h9 9 a9
    have h11 := blk_set h10 10 a10
    have h12 := blk_set h11 11 a11
    have h13 := blk_set h12 12 a12
    have h14 := blk_set h13 13 a13
    simp only [msgZ, List.setIfInBounds_toArray, List.set_cons_succ, List.set_cons_zero] at h14
    exact h14
  · have g1 := grown_set w g 0 a0
    have g2 := g1.trans (grown_set _ g 1 a1)
    have g3 := g2.trans (grown_set _ g 2 a2)
    have g4 := g3.trans (grown_set _ g 3 a3)
    have g5 := g4.trans (grown_set _ g 4 a4)
    have g6 := g5.trans (grown_set _ g 5 a5)
    have g7 := g6.trans (grown_set _ g 6 a6)
    have g8 := g7.trans (grown_set _ g 7 a7)
    have g9 := g8.trans (grown_set _ g 8 a8)
    have g10 := g9.trans (grown_set _ g 9 a9)
    have g11 := g10.trans (grown_set _ g 10 a10)
    have g12 := g11.trans (grown_set _ g 11 a11)
    have g13 := g12.trans (grown_set _ g 12 a12)
    have g14 := g13.trans (grown_set _ g 13 a13)
    exact g14
theorem msgCells {W : World} {g : Nat} {a0 a1 a2 a3 a4 a5 a6 a7 a8 a9 a10 a11 a12 a13 : Value} {t : TypeId} (h : W.heap[g]? = some (.cells #[a0, a1, a2, a3, a4, a5, a6, a7, a8, a9, a10, a11, a12, a13] t (0, 0))) :
    W.cell? ⟨g, 0, none⟩ = some a0 ∧ W.cell? ⟨g, 1, none⟩ = some a1 ∧ W.cell? ⟨g, 2, none⟩ = some a2 ∧ W.cell? ⟨g, 3, none⟩ = some a3 ∧ W.cell? ⟨g, 4, none⟩ = some a4 ∧ W.cell? ⟨g, 5, none⟩ = some a5 ∧ W.cell? ⟨g, 6, none⟩ = some a6 ∧ W.cell? ⟨g, 7, none⟩ = some a7 ∧ W.cell? ⟨g, 8, none⟩ = some a8 ∧ W.cell? ⟨g, 9, none⟩ = some a9 ∧ W.cell? ⟨g, 10, none⟩ = some a10 ∧ W.cell? ⟨g, 11, none⟩ = some a11 ∧ W.cell? ⟨g, 12, none⟩ = some a12 ∧ W.cell? ⟨g, 13, none⟩ = some a13 := by
  refine ⟨?_, ?_, ?_, ?_, ?_, ?_, ?_, ?_, ?_, ?_, ?_, ?_, ?_, ?_⟩ <;> rw [blk_cell h] <;> rfl
/-- The lists of a message that was read lie in rows of their own. -/
structure MsgOwn (W : World) (base : Nat) (m : MsgR) : Prop where
  es : W.ownsRow base 51 4 (.slice m.eo m.en m.ec) m.en (entCells m.v.es)
  ms : W.ownsRow base 3 1 (.slice m.mo m.mn m.mc) m.mn (m.v.ms.map (Value.int .i64))
  ps : W.ownsRow base 202 2 (.slice m.po m.pn m.pc) m.pn (parCells m.v.ps)
  el : m.v.es.length = m.en
  ml : m.v.ms.length = m.mn
  pl : m.v.ps.length = m.pn
theorem ptrs8 (mb k : Nat) (hk : k < 8) : (#[.pointer (some ⟨mb, 0, none⟩), .pointer (some ⟨mb, 1, none⟩), .pointer (some ⟨mb, 2, none⟩), .pointer (some ⟨mb, 3, none⟩), .pointer (some ⟨mb, 4, none⟩), .pointer (some ⟨mb, 5, none⟩), .pointer (some ⟨mb, 6, none⟩), .pointer (some ⟨mb, 7, none⟩)] : Array Value)[k]? = some (.pointer (some ⟨mb, k, none⟩)) := by
  rcases (show k = 0 ∨ k = 1 ∨ k = 2 ∨ k = 3 ∨ k = 4 ∨ k = 5 ∨ k = 6 ∨ k = 7 by omega) with rfl | rfl | rfl | rfl | rfl | rfl | rfl | rfl <;> rfl
theorem own_ne2 {w : World} {base base' : Nat} {t t' : TypeId} {s s' n n' : Nat} {v v' : Value} {xs xs' : List Value} (h : w.ownsRow base t s v n xs) (h' : w.ownsRow base' t' s' v' n' xs') (hT : t ≠ t') : v.ownBlock = none ∨ v.ownBlock ≠ v'.ownBlock := by
  rcases h.2 with ⟨rfl, _⟩ | ⟨g, cap, cur, rfl, _, hg, _⟩
  · exact .inl rfl
  · refine .inr (fun he => ?_)
    rcases h'.2 with ⟨rfl, _⟩ | ⟨g', cap', cur', rfl, _, hg', _⟩
    · cases he
    · have hgg : g = g' := by simpa [Value.ownBlock] using he
      subst hgg
      rw [hg] at hg'
      injection hg' with hg'
      injection hg' with _ h2
      exact hT h2
theorem own_lowM {w : World} {base base' : Nat} {e : TypeId} {size n : Nat} {v : Value} {xs : List Value} (h : w.ownsRow base e size v n xs) (hb : base' ≤ base) : w.ownsRow base' e size v n xs := by
  rcases h with ⟨hl, h | ⟨g, cap, cur, hv, hg, hr⟩⟩
  · exact ⟨hl, .inl h⟩
  · exact ⟨hl, .inr ⟨g, cap, cur, hv, by omega, hr⟩⟩
set_option maxRecDepth 20000 in
set_option maxHeartbeats 8000000 in
theorem mread_any {w0 W : World} {B b : Nat} {st : RSt} (hR : RS w0 W B b st) :
    Calls Tryz.prog 194 #[.pointer (some ⟨b, 0, none⟩)] W fun e w' => ∃ m : MsgR, e = .returned m.agg ∧ m.v = (readMsg st).1 ∧ MsgOwn w' W.heap.size m ∧ RS w0 w' B b (readMsg st).2 ∧ W.grownBy w' (some b) := by
  obtain ⟨r0, hr0⟩ : ∃ r, W.heap.size = r := ⟨_, rfl⟩
  have HR0 := Lib.hid hr0
  have HS0 : Hid (RdSt w0 W B b r0 (r0 + 1) ((W.alloc (.cells #[.int .i64 0, .int .i64 0, .int .i64 0, .int .i64 0, .int .i64 0, .int .i64 0, .int .i64 0, .int .i64 0, .bool false, .bool false, .slice none 0 0, .slice none 0 0, .int .i64 0, .slice none 0 0] 118)).alloc (.cells #[.int .i64 0, .int .i64 0, .int .i64 0, .int .i64 0, .int .i64 0, .int .i64 0, .int .i64 0, .int .i64 0, .bool false, .bool false, .slice none 0 0, .slice none 0 0, .int .i64 0, .slice none 0 0] 118)) st (rdC st 0)) := Lib.hid
    ⟨(hR.alloc _).alloc _, grown_below (grown_below (grown_refl _ _) ((Below.refl _ _).alloc (Nat.le_refl _) _)) ((Below.refl _ _).alloc (Nat.le_refl _) _), old_at _ _ _ _ (new_at _ _ _ hr0.symm), new_at _ _ _ (by simp [hr0]), by omega, by omega, hR.1.lt⟩
  clear hR hr0
  go_enter Tryz.func194, Tryz.ntmps194
  go_upto_region 2 with fail
  rw [HR0.out]
  generalize ((W.alloc (.cells #[.int .i64 0, .int .i64 0, .int .i64 0, .int .i64 0, .int .i64 0, .int .i64 0, .int .i64 0, .int .i64 0, .bool false, .bool false, .slice none 0 0, .slice none 0 0, .int .i64 0, .slice none 0 0] 118)).alloc (.cells #[.int .i64 0, .int .i64 0, .int .i64 0, .int .i64 0, .int .i64 0, .int .i64 0, .int .i64 0, .int .i64 0, .bool false, .bool false, .slice none 0 0, .slice none 0 0, .int .i64 0, .slice none 0 0] 118)) = W1 at HS0 ⊢
  generalize r0 + 1 = mb at HS0 ⊢
  obtain ⟨pb, hpb⟩ : ∃ p, p = W1.heap.size := ⟨_, rfl⟩
  have HPb : Hid ((W1.alloc (.cells #[.pointer (some ⟨mb, 0, none⟩), .pointer (some ⟨mb, 1, none⟩), .pointer (some ⟨mb, 2, none⟩), .pointer (some ⟨mb, 3, none⟩), .pointer (some ⟨mb, 4, none⟩), .pointer (some ⟨mb, 5, none⟩), .pointer (some ⟨mb, 6, none⟩), .pointer (some ⟨mb, 7, none⟩)] 262)).heap[pb]? = some (.cells #[.pointer (some ⟨mb, 0, none⟩), .pointer (some ⟨mb, 1, none⟩), .pointer (some ⟨mb, 2, none⟩), .pointer (some ⟨mb, 3, none⟩), .pointer (some ⟨mb, 4, none⟩), .pointer (some ⟨mb, 5, none⟩), .pointer (some ⟨mb, 6, none⟩), .pointer (some ⟨mb, 7, none⟩)] 262 (0, 0))) := Lib.hid (new_at _ _ _ hpb)
  have HS1 := Lib.hid (HS0.out.calm ((Below.refl _ W1).alloc (Nat.le_refl _) (.cells #[.pointer (some ⟨mb, 0, none⟩), .pointer (some ⟨mb, 1, none⟩), .pointer (some ⟨mb, 2, none⟩), .pointer (some ⟨mb, 3, none⟩), .pointer (some ⟨mb, 4, none⟩), .pointer (some ⟨mb, 5, none⟩), .pointer (some ⟨mb, 6, none⟩), .pointer (some ⟨mb, 7, none⟩)] 262)))
  have hmp : mb < pb := by rw [hpb]; exact blk_lt HS0.out.mbk
  have HPq := Lib.hid hpb
  clear hpb HS0
  go_wp2_with fail
  rw [← HPq.out]
  go_loopw [16] (fun i wr => ∃ k : Nat, k ≤ 8 ∧ i = .int .i64 k ∧ Hid (RdSt w0 W B b r0 mb wr (rdS st k) (rdC st k)) ∧ Hid (wr.heap[pb]? = some (.cells #[.pointer (some ⟨mb, 0, none⟩), .pointer (some ⟨mb, 1, none⟩), .pointer (some ⟨mb, 2, none⟩), .pointer (some ⟨mb, 3, none⟩), .pointer (some ⟨mb, 4, none⟩), .pointer (some ⟨mb, 5, none⟩), .pointer (some ⟨mb, 6, none⟩), .pointer (some ⟨mb, 7, none⟩)] 262 (0, 0)))) (fun i _ => 8 - (intOf i).toNat)
  case atStart => exact ⟨0, by omega, rfl, HS1, HPb⟩
  case round =>
    obtain ⟨k, hk, rfl, HS, HP⟩ := hrel
    by_cases hlt : k < 8
    · have hd1 : decide ((k : Int) < 8) = true := by simp; omega
      have hp := (blk_cell HP.out k).trans (ptrs8 mb k hlt)
      have hx1 : (0 : Int) ≤ k := by omega
      have hx2 : (k : Int) < 8 := by omega
      obtain ⟨s, hs⟩ : ∃ s, s = rdS st k := ⟨_, rfl⟩
      have HV := Lib.hid (HS.out.rvar (Below.refl _ _))
      rw [← hs] at HV
      have HSk := Lib.hid hs
      clear hs
      go_wp2_with fail
      refine HV.out.mono ?_
      rintro e w2 ⟨rfl, h2, hg2⟩
      have HP2 := Lib.hid ((hg2.block pb (blk_lt HP.out) (fun e => by injection e with e; have := HS.out.h0; have := HS.out.h1; have := HS.out.hb; omega)).trans HP.out)
      obtain ⟨u, hu⟩ : ∃ u, (rdC st k)[k]? = some u := ⟨_, Array.getElem?_eq_getElem (by rw [rdC_size]; omega)⟩
      have c0 := h2.cell k hu
      have f0 := blk_frozen h2.mbk k
      have HS2 : Hid (RdSt w0 W B b r0 mb (w2.setCell ⟨mb, k, none⟩ (.int .i64 (rVar s).1)) (rdS st (k + 1)) (rdC st (k + 1))) := Lib.hid (by
        have h := h2.set k (.int .i64 (rVar s).1)
        rw [HSk.out] at h ⊢
        exact h)
      have HP3 := Lib.hid (((grown_set w2 mb k (.int .i64 (rVar s).1)).block pb (blk_lt HP2.out) (fun e => by injection e with e; omega)).trans HP2.out)
      clear h2 hg2 hu hp HV HP2
      go_wp2_with fail
      go_roundw
      case rel => exact ⟨k + 1, by omega, by go_num, HS2, HP3⟩
      case measure => simp [intOf] <;> omega
    · obtain rfl : k = 8 := by omega
      have hd1 : decide (((8 : Nat) : Int) < 8) = false := by simp
      obtain ⟨v0, v1, v2, v3, v4, v5, v6, v7, s8, hC, hS8, hRM⟩ : ∃ (v0 v1 v2 v3 v4 v5 v6 v7 : Int) (s8 : RSt), rdC st 8 = #[.int .i64 v0, .int .i64 v1, .int .i64 v2, .int .i64 v3, .int .i64 v4, .int .i64 v5, .int .i64 v6, .int .i64 v7, .bool false, .bool false, .slice none 0 0, .slice none 0 0, .int .i64 0, .slice none 0 0] ∧ rdS st 8 = s8 ∧ readMsg st = (⟨v0, v1, v2, v3, v4, v5, v6, v7, (rBool s8).1, (rBool (rBool s8).2).1, (readTail (rBool (rBool s8).2).2).1.1, (readTail (rBool (rBool s8).2).2).1.2.1, (readTail (rBool (rBool s8).2).2).1.2.2.1, (readTail (rBool (rBool s8).2).2).1.2.2.2⟩, (readTail (rBool (rBool s8).2).2).2) :=
        ⟨(rVar (rdS st 0)).1, (rVar (rdS st 1)).1, (rVar (rdS st 2)).1, (rVar (rdS st 3)).1, (rVar (rdS st 4)).1, (rVar (rdS st 5)).1, (rVar (rdS st 6)).1, (rVar (rdS st 7)).1, rdS st 8, by simp [rdC, msgZ], rfl, rfl⟩
      rw [hC, hS8] at HS
      have HRM := Lib.hid hRM
      clear hC hS8 hRM HS1 HPb HPq HP
      obtain ⟨q1, hq1⟩ : ∃ q, q = rBool s8 := ⟨_, rfl⟩
      obtain ⟨q2, hq2⟩ : ∃ q, q = rBool q1.2 := ⟨_, rfl⟩
      rw [← hq1, ← hq2] at HRM
      have HB1 := Lib.hid HS.out.rbool
      rw [← hq1] at HB1
      have HQ2 := Lib.hid hq2
      clear hq1 hq2
      go_wp2_with fail
      refine HB1.out.mono ?_
      rintro e w2 ⟨rfl, h2, -⟩
      have HB2 := Lib.hid h2.rbool
      rw [← HQ2.out] at HB2
      clear h2 HB1
      go_wp2_with fail
      refine HB2.out.mono ?_
      rintro e w3 ⟨rfl, h3, -⟩
      have c8 := h3.cell 8 rfl
      have c9 := h3.cell 9 rfl
      have f8 := blk_frozen h3.mbk 8
      have f9 := blk_frozen h3.mbk 9
      have h4 := (h3.set 8 (.bool q1.1)).set 9 (.bool q2.1)
      simp only [List.setIfInBounds_toArray, List.set_cons_succ, List.set_cons_zero] at h4
      have HG4 := Lib.hid (get_any h4.rs)
      have HS4 := Lib.hid h4
      obtain ⟨pr, hpr⟩ : ∃ pr, pr = getAll q2.2 := ⟨_, rfl⟩
      unfold GetRes at HG4
      rw [← hpr] at HG4
      have HPr := Lib.hid hpr
      clear h3 h4 HB2 hpr HS
      go_wp2_with fail
      refine HG4.out.mono ?_
      rintro e w5 ⟨aoE, NE, cE, rfl, hoE, hlE, R5, hg5⟩
      have h5 := HS4.out.call R5 hg5
      have c10 := h5.cell 10 rfl
      have f10 := blk_frozen h5.mbk 10
      have h6 := h5.set 10 (.slice aoE NE cE)
      simp only [List.setIfInBounds_toArray, List.set_cons_succ, List.set_cons_zero] at h6
      have HE6 : Hid ((w5.setCell ⟨mb, 10, none⟩ (.slice aoE NE cE)).ownsRow (mb + 1) 51 4 (.slice aoE NE cE) NE (entCells pr.1)) := Lib.hid (own_far (own_lowM hoE (by have := blk_lt HS4.out.mbk; omega)) (grown_set _ _ _ _) (by omega))
      have HC6 := Lib.hid (h6.rcount 9)
      have hq9 := rCount_range 9 pr.2 (by decide)
      obtain ⟨q, hq⟩ : ∃ q, q = rCount 9 pr.2 := ⟨_, rfl⟩
      rw [← hq] at HC6 hq9
      obtain ⟨n, hn⟩ : ∃ n : Nat, q.1 = n := ⟨q.1.toNat, by omega⟩
      rw [hn] at HC6
      have HQ9 := Lib.hid hq
      have HN9 := Lib.hid hn
      have hn9 : n ≤ 9 := by omega
      clear h5 h6 hoE R5 hg5 hq hn HS4 HG4 hq9
      go_wp2_with fail
      refine HC6.out.mono ?_
      rintro e w7 ⟨rfl, h7, hg7⟩
      have HS7 := Lib.hid h7
      have HE7 := Lib.hid (own_far HE6.out hg7 (by have := h7.h0; have := h7.h1; have := h7.hb; omega))
      clear h7 hg7 HC6 HE6 c8 c9 f8 f9 c10 f10
      obtain ⟨i0, hi, hz0, hz1, hz2⟩ := info_parts ptrInfoM
      have HI := Lib.hid (And.intro hi (And.intro hz0 (And.intro hz1 hz2)))
      clear hi hz0 hz1 hz2
      go_wp2_with fail
      go_loopw [36] (fun i wr => ∃ (k : Nat) (acc : List Int) (ao : Option Addr) (c : Nat) (s : RSt), k ≤ n ∧ i = .int .i64 k ∧ Hid (RdSt w0 W B b r0 mb wr s #[.int .i64 v0, .int .i64 v1, .int .i64 v2, .int .i64 v3, .int .i64 v4, .int .i64 v5, .int .i64 v6, .int .i64 v7, .bool q1.1, .bool q2.1, .slice aoE NE cE, .slice ao k c, .int .i64 0, .slice none 0 0]) ∧ Hid (wr.ownsRow (mb + 1) 3 1 (.slice ao k c) k (acc.map (Value.int .i64))) ∧ Hid (acc.length = k) ∧ Hid (getMs (n - k) s acc = getMs n q.2 []) ∧ Hid (wr.ownsRow (mb + 1) 51 4 (.slice aoE NE cE) NE (entCells pr.1))) (fun i _ => n - (intOf i).toNat)
      case atStart => exact ⟨0, [], none, 0, q.2, Nat.zero_le _, rfl, HS7, Lib.hid (World.ownsRow_nil _ _ _ _), rfl, rfl, HE7⟩
      case round =>
        obtain ⟨k, acc, ao, c, s, hk, rfl, HS, HO, HLn, HG, HE⟩ := hrel
        by_cases hlt : k < n
        · have hd2 : decide (k < n) = true := by simpa using hlt
          have hd2' : decide ((k : Int) < (n : Int)) = true := by simp; omega
          have hG := HG.out
          rw [show n - k = (n - (k + 1)) + 1 from by omega, getMs] at hG
          have HG' := Lib.hid hG
          obtain ⟨a, ha⟩ : ∃ a, a = rVar s := ⟨_, rfl⟩
          have HV := Lib.hid (fun (W' : World) (hb : Below wr.heap.size wr W') => HS.out.rvar hb)
          rw [← ha] at HG'
          have HV : Hid (∀ W', Below wr.heap.size wr W' → Calls Tryz.prog 116 #[.pointer (some ⟨b, 0, none⟩)] W' fun e w'' => e = .returned (.int .i64 a.1) ∧ RdSt w0 W B b r0 mb w'' a.2 #[.int .i64 v0, .int .i64 v1, .int .i64 v2, .int .i64 v3, .int .i64 v4, .int .i64 v5, .int .i64 v6, .int .i64 v7, .bool q1.1, .bool q2.1, .slice aoE NE cE, .slice ao k c, .int .i64 0, .slice none 0 0] ∧ W'.grownBy w'' (some b)) := Lib.hid (by rw [ha]; exact HV.out)
          have c11 := HS.out.cell 11 rfl
          have hbm : b < mb + 1 := by have := HS.out.h0; have := HS.out.h1; have := HS.out.hb; omega
          clear hG ha
          go_wp2_with fail
          go_region_law (first
            | (refine step_append_lies _ (by rfl) (.tmp 39) (.tmp 42) 23 (by rfl) (mb + 1) 3 i0 _ 1 8 Tryz.underlying23 HI.out.1 HI.out.2.1 HI.out.2.2.1 HI.out.2.2.2 (by rfl) (by omega) (.slice ao k c) k (acc.map (Value.int .i64)) (by rfl) (own_below HO2.out ((Below.refl _ w2).alloc (Nat.le_refl _) _)) ⟨w2.heap.size, 0, none⟩ 1 1 [.int .i64 a.1] (by rfl) (by rfl) (World.news_of_block (new_at _ _ _ rfl)) (by simp [Value.oneCell']) (by omega) (by unfold maxLen; omega) (by omega) (by have := blk_lt H2.out.mbk; simp; omega) _ rfl ?_; intro g cap3 w3 hown3 hg3 hat3 hlt3; have HS3 := Lib.hid ((H2.out.calm ((Below.refl _ w2).alloc (Nat.le_refl _) (.cells #[.int .i64 a.1] 3))).grown hg3 (fun k' hk' => by have := (HO2.out.lt k' hk').1; omega)); have hcc := HS3.out.cell 11 rfl; have hff := blk_frozen HS3.out.mbk 11; have HO3 := Lib.hid hown3; have HE3 := Lib.hid ((own_below HE2.out ((Below.refl _ w2).alloc (Nat.le_refl _) (.cells #[.int .i64 a.1] 3))).kept hg3 (own_ne2 HE2.out HO2.out (by decide))); clear hown3 hg3 hat3 hlt3)
            | (go_simp; go_at_call 116; refine (HV.out _ (by repeat (with_reducible (first | exact Below.refl _ _ | refine Below.drew ?_)))).mono ?_; rintro e' w2 ⟨rfl, h2, hg2⟩; have hc2 := h2.cell 11 rfl; have hc2a : ∀ o, (w2.alloc o).cell? ⟨mb, 11, none⟩ = some (.slice ao k c) := fun o => (h2.calm ((Below.refl _ w2).alloc (Nat.le_refl _) o)).cell 11 rfl; have HO2 := Lib.hid (own_far (own_below HO.out (by repeat (with_reducible (first | exact Below.refl _ _ | refine Below.drew ?_)))) hg2 hbm); have HE2 := Lib.hid (own_far (own_below HE.out (by repeat (with_reducible (first | exact Below.refl _ _ | refine Below.drew ?_)))) hg2 hbm); have H2 := Lib.hid h2; clear h2 hg2))
          all_goals (
            have h8 := HS3.out.set 11 (.slice (some ⟨g, 0, none⟩) (k + 1) cap3)
            simp only [List.setIfInBounds_toArray, List.set_cons_succ, List.set_cons_zero] at h8
            have HS8 := Lib.hid h8
            have HO8 := Lib.hid (own_far HO3.out (grown_set w3 mb 11 (.slice (some ⟨g, 0, none⟩) (k + 1) cap3)) (by omega))
            have HE8 := Lib.hid (own_far HE3.out (grown_set w3 mb 11 (.slice (some ⟨g, 0, none⟩) (k + 1) cap3)) (by omega))
            clear h8
            go_wp2_with fail
            go_roundw
            case rel => exact ⟨k + 1, acc ++ [a.1], some ⟨g, 0, none⟩, cap3, a.2, by omega, by go_num, HS8, Lib.hid (by rw [List.map_append]; exact HO8.out), Lib.hid (by rw [List.length_append, HLn.out]; rfl), HG', HE8⟩
            case measure => simp [intOf] <;> omega)
        · obtain rfl : k = n := by omega
          have hd2 : decide (k < k) = false := by simp
          have hd2' : decide ((k : Int) < (k : Int)) = false := by simp
          have hG := HG.out
          rw [Nat.sub_self, getMs] at hG
          have HG' := Lib.hid hG
          have HV := Lib.hid (HS.out.rvar (Below.refl _ _))
          obtain ⟨fo, hfo⟩ : ∃ a, a = rVar s := ⟨_, rfl⟩
          rw [← hfo] at HV
          have HFo := Lib.hid hfo
          clear hG hfo
          go_wp2_with fail
          refine HV.out.mono ?_
          rintro e w8 ⟨rfl, h8, hg8⟩
          have hbm : b < mb + 1 := by have := HS.out.h0; have := HS.out.h1; have := HS.out.hb; omega
          have c12 := h8.cell 12 rfl
          have f12 := blk_frozen h8.mbk 12
          have h9 := h8.set 12 (.int .i64 fo.1)
          simp only [List.setIfInBounds_toArray, List.set_cons_succ, List.set_cons_zero] at h9
          have HE9 := Lib.hid (own_far (own_far HE.out hg8 hbm) (grown_set w8 mb 12 (.int .i64 fo.1)) (by omega))
          have HM9 := Lib.hid (own_far (own_far HO.out hg8 hbm) (grown_set w8 mb 12 (.int .i64 fo.1)) (by omega))
          have HC9 := Lib.hid (h9.rcount 50)
          have hq5 := rCount_range 50 fo.2 (by decide)
          obtain ⟨qp, hqp⟩ : ∃ q, q = rCount 50 fo.2 := ⟨_, rfl⟩
          rw [← hqp] at HC9 hq5
          obtain ⟨np, hnp⟩ : ∃ n : Nat, qp.1 = n := ⟨qp.1.toNat, by omega⟩
          rw [hnp] at HC9
          have HQp := Lib.hid hqp
          have HNp := Lib.hid hnp
          have hn5 : np ≤ 50 := by omega
          clear h8 h9 hg8 hq5 hqp hnp HV HS HO HE
          go_wp2_with fail
          refine HC9.out.mono ?_
          rintro e w10 ⟨rfl, h10, hg10⟩
          have HS10 := Lib.hid h10
          have HE10 := Lib.hid (own_far HE9.out hg10 hbm)
          have HM10 := Lib.hid (own_far HM9.out hg10 hbm)
          clear h10 hg10 HC9 HE9 HM9 c12 f12
          obtain ⟨i1, hi, hz0, hz1, hz2⟩ := info_parts parInfoM
          have HIp := Lib.hid (And.intro hi (And.intro hz0 (And.intro hz1 hz2)))
          clear hi hz0 hz1 hz2
          go_wp2_with fail
          go_loopw [51] (fun i wr => ∃ (j : Nat) (acp : List Par) (po : Option Addr) (d : Nat) (s : RSt), j ≤ np ∧ i = .int .i64 j ∧ Hid (RdSt w0 W B b r0 mb wr s #[.int .i64 v0, .int .i64 v1, .int .i64 v2, .int .i64 v3, .int .i64 v4, .int .i64 v5, .int .i64 v6, .int .i64 v7, .bool q1.1, .bool q2.1, .slice aoE NE cE, .slice ao k c, .int .i64 fo.1, .slice po j d]) ∧ Hid (wr.ownsRow (mb + 1) 202 2 (.slice po j d) j (parCells acp)) ∧ Hid (acp.length = j) ∧ Hid (getPairs (np - j) s acp = getPairs np qp.2 []) ∧ Hid (wr.ownsRow (mb + 1) 51 4 (.slice aoE NE cE) NE (entCells pr.1)) ∧ Hid (wr.ownsRow (mb + 1) 3 1 (.slice ao k c) k (acc.map (Value.int .i64)))) (fun i _ => np - (intOf i).toNat)
          case atStart => exact ⟨0, [], none, 0, qp.2, Nat.zero_le _, rfl, HS10, Lib.hid (World.ownsRow_nil _ _ _ _), rfl, rfl, HE10, HM10⟩
          case round =>
            obtain ⟨j, acp, po, d, s, hj, rfl, HS, HO, HLp, HGp, HE, HM⟩ := hrel
            by_cases hlt : j < np
            · have hd2 : decide (j < np) = true := by simpa using hlt
              have hd2' : decide ((j : Int) < (np : Int)) = true := by simp; omega
              have hG := HGp.out
              rw [show np - j = (np - (j + 1)) + 1 from by omega, getPairs] at hG
              have hl1 := rText_len 41 s
              obtain ⟨t1, ht1⟩ : ∃ a, a = rText 41 s := ⟨_, rfl⟩
              have hl2 := rText_len 2000 t1.2
              obtain ⟨t2, ht2⟩ : ∃ a, a = rText 2000 t1.2 := ⟨_, rfl⟩
              have hgp : getPair s = (⟨⟨t1.1.toArray⟩, ⟨t2.1.toArray⟩⟩, t2.2) := by unfold getPair; rw [ht2, ht1]
              rw [hgp] at hG
              have HG' := Lib.hid hG
              rw [← ht1] at hl1
              rw [← ht2] at hl2
              have HT1 : Hid (∀ W', Below wr.heap.size wr W' → Calls Tryz.prog 117 #[.pointer (some ⟨b, 0, none⟩), .int .i64 41] W' fun e w'' => e = .returned (.string ⟨t1.1.toArray⟩) ∧ RdSt w0 W B b r0 mb w'' t1.2 #[.int .i64 v0, .int .i64 v1, .int .i64 v2, .int .i64 v3, .int .i64 v4, .int .i64 v5, .int .i64 v6, .int .i64 v7, .bool q1.1, .bool q2.1, .slice aoE NE cE, .slice ao k c, .int .i64 fo.1, .slice po j d] ∧ W'.grownBy w'' (some b)) := Lib.hid (by rw [ht1]; exact fun W' hb => HS.out.rtext hb 41)
              have HT2 : Hid (∀ w3, RdSt w0 W B b r0 mb w3 t1.2 #[.int .i64 v0, .int .i64 v1, .int .i64 v2, .int .i64 v3, .int .i64 v4, .int .i64 v5, .int .i64 v6, .int .i64 v7, .bool q1.1, .bool q2.1, .slice aoE NE cE, .slice ao k c, .int .i64 fo.1, .slice po j d] → ∀ W', Below w3.heap.size w3 W' → Calls Tryz.prog 117 #[.pointer (some ⟨b, 0, none⟩), .int .i64 2000] W' fun e w'' => e = .returned (.string ⟨t2.1.toArray⟩) ∧ RdSt w0 W B b r0 mb w'' t2.2 #[.int .i64 v0, .int .i64 v1, .int .i64 v2, .int .i64 v3, .int .i64 v4, .int .i64 v5, .int .i64 v6, .int .i64 v7, .bool q1.1, .bool q2.1, .slice aoE NE cE, .slice ao k c, .int .i64 fo.1, .slice po j d] ∧ W'.grownBy w'' (some b)) := Lib.hid (by rw [ht2]; exact fun w3 h3 W' hb => h3.rtext hb 2000)
              have c13 := HS.out.cell 13 rfl
              clear hG ht1 ht2 hgp
              go_wp2_with fail
              go_region_law (first
                | (refine step_append_lies _ (by rfl) (.tmp 54) (.tmp 62) 116 (by rfl) (mb + 1) 202 i1 _ 2 32 Tryz.underlying116 HIp.out.1 HIp.out.2.1 HIp.out.2.2.1 HIp.out.2.2.2 (by rfl) (by omega) (.slice po j d) j (parCells acp) (by rfl) (own_below HO5.out ((Below.refl _ w5).alloc (Nat.le_refl _) _)) ⟨w5.heap.size, 0, none⟩ 1 1 [.string ⟨t1.1.toArray⟩, .string ⟨t2.1.toArray⟩] (by rfl) (by rfl) (World.news_of_block (new_at _ _ _ rfl)) (by simp [Value.oneCell']) (by omega) (by unfold maxLen; omega) (by omega) (by have := blk_lt H5.out.mbk; simp; omega) _ rfl ?_; intro g cap3 w6 hown3 hg3 hat3 hlt3; have HS6 := Lib.hid ((H5.out.calm ((Below.refl _ w5).alloc (Nat.le_refl _) (.cells #[.string ⟨t1.1.toArray⟩, .string ⟨t2.1.toArray⟩] 202))).grown hg3 (fun k' hk' => by have := (HO5.out.lt k' hk').1; omega)); have hcc := HS6.out.cell 13 rfl; have hff := blk_frozen HS6.out.mbk 13; have HO6 := Lib.hid hown3; have HE6 := Lib.hid ((own_below HE5.out ((Below.refl _ w5).alloc (Nat.le_refl _) (.cells #[.string ⟨t1.1.toArray⟩, .string ⟨t2.1.toArray⟩] 202))).kept hg3 (own_ne2 HE5.out HO5.out (by decide))); have HM6 := Lib.hid ((own_below HM5.out ((Below.refl _ w5).alloc (Nat.le_refl _) (.cells #[.string ⟨t1.1.toArray⟩, .string ⟨t2.1.toArray⟩] 202))).kept hg3 (own_ne2 HM5.out HO5.out (by decide))); clear hown3 hg3 hat3 hlt3)
                | (go_simp; go_at_call 117; first
                    | (refine (HT2.out w3 H3.out _ (by repeat (with_reducible (first | exact Below.refl _ _ | refine Below.drew ?_)))).mono ?_; rintro e' w4 ⟨rfl, h4, hg4⟩; have hc4 := h4.cell 13 rfl; have HO4 := Lib.hid (own_far HO3.out hg4 hbm); have HE4 := Lib.hid (own_far HE3.out hg4 hbm); have HM4 := Lib.hid (own_far HM3.out hg4 hbm); have H4 := Lib.hid h4; clear h4 hg4 HT2)
                    | (refine (HT1.out _ (by repeat (with_reducible (first | exact Below.refl _ _ | refine Below.drew ?_)))).mono ?_; rintro e' w2 ⟨rfl, h2, hg2⟩; have hc2 := h2.cell 13 rfl; have HO2 := Lib.hid (own_far (own_below HO.out (by repeat (with_reducible (first | exact Below.refl _ _ | refine Below.drew ?_)))) hg2 hbm); have HE2 := Lib.hid (own_far (own_below HE.out (by repeat (with_reducible (first | exact Below.refl _ _ | refine Below.drew ?_)))) hg2 hbm); have HM2 := Lib.hid (own_far (own_below HM.out (by repeat (with_reducible (first | exact Below.refl _ _ | refine Below.drew ?_)))) hg2 hbm); have H2 := Lib.hid h2; clear h2 hg2 HT1))
                | (go_simp; go_at_call 114; first
                    | (refine (clone_any ⟨t2.1.toArray⟩ w4 (by show t2.1.length ≤ _; omega)).mono ?_; rintro e' w5 ⟨rfl, hb5⟩; have H5 := Lib.hid (H4.out.calm hb5); have hc5 := H5.out.cell 13 rfl; have hc5a : ∀ o, (w5.alloc o).cell? ⟨mb, 13, none⟩ = some (.slice po j d) := fun o => (H5.out.calm ((Below.refl _ w5).alloc (Nat.le_refl _) o)).cell 13 rfl; have HO5 := Lib.hid (own_below HO4.out hb5); have HE5 := Lib.hid (own_below HE4.out hb5); have HM5 := Lib.hid (own_below HM4.out hb5); clear hb5)
                    | (refine (clone_any ⟨t1.1.toArray⟩ w2 (by show t1.1.length ≤ _; omega)).mono ?_; rintro e' w3 ⟨rfl, hb3⟩; have H3 := Lib.hid (H2.out.calm hb3); have hc3 := H3.out.cell 13 rfl; have HO3 := Lib.hid (own_below HO2.out hb3); have HE3 := Lib.hid (own_below HE2.out hb3); have HM3 := Lib.hid (own_below HM2.out hb3); clear hb3)))
              all_goals (
                have h8 := HS6.out.set 13 (.slice (some ⟨g, 0, none⟩) (j + 1) cap3)
                simp only [List.setIfInBounds_toArray, List.set_cons_succ, List.set_cons_zero] at h8
                have HS8 := Lib.hid h8
                have HO8 := Lib.hid (own_far HO6.out (grown_set w6 mb 13 (.slice (some ⟨g, 0, none⟩) (j + 1) cap3)) (by omega))
                have HE8 := Lib.hid (own_far HE6.out (grown_set w6 mb 13 (.slice (some ⟨g, 0, none⟩) (j + 1) cap3)) (by omega))
                have HM8 := Lib.hid (own_far HM6.out (grown_set w6 mb 13 (.slice (some ⟨g, 0, none⟩) (j + 1) cap3)) (by omega))
                clear h8
                go_wp2_with fail
                go_roundw
                case rel => exact ⟨j + 1, acp ++ [⟨⟨t1.1.toArray⟩, ⟨t2.1.toArray⟩⟩], some ⟨g, 0, none⟩, cap3, t2.2, by omega, by go_num, HS8, Lib.hid (by rw [parCells_append]; exact HO8.out), Lib.hid (by rw [List.length_append, HLp.out]; rfl), HG', HE8, HM8⟩
                case measure => simp [intOf] <;> omega)
            · obtain rfl : j = np := by omega
              have hd2 : decide (j < j) = false := by simp
              have hd2' : decide ((j : Int) < (j : Int)) = false := by simp
              have hG := HGp.out
              rw [Nat.sub_self, getPairs] at hG
              have HG2 := Lib.hid hG
              clear hG
              obtain ⟨y0, y1, y2, y3, y4, y5, y6, y7, y8, y9, y10, y11, y12, y13⟩ := msgCells HS.out.mbk
              obtain ⟨x0, x1, x2, x3, x4, x5, x6, x7, x8, x9, x10, x11, x12, x13⟩ := msgCells HS.out.rk
              have xf := fun i => blk_frozen HS.out.rk i
              have xf0 := xf 0
              have xf1 := xf 1
              have xf2 := xf 2
              have xf3 := xf 3
              have xf4 := xf 4
              have xf5 := xf 5
              have xf6 := xf 6
              have xf7 := xf 7
              have xf8 := xf 8
              have xf9 := xf 9
              have xf10 := xf 10
              have xf11 := xf 11
              have xf12 := xf 12
              have xf13 := xf 13
              clear xf
              go_wp2_with fail
              have hT : readTail q2.2 = ((pr.1, acc, fo.1, acp), s) := by
                unfold readTail
                dsimp only
                rw [← HPr.out, ← HQ9.out, HN9.out, Int.toNat_natCast, ← HG'.out]
                dsimp only
                rw [← HFo.out, ← HQp.out, HNp.out, Int.toNat_natCast, ← HG2.out]
              have hRm := HRM.out
              rw [hT] at hRm
              have e0 := HS.out.h0
              have e1 := HS.out.h1
              have e2 := HS.out.hb
              obtain ⟨hz, hg⟩ := set14 HS.out.rk (.int .i64 v0) (.int .i64 v1) (.int .i64 v2) (.int .i64 v3) (.int .i64 v4) (.int .i64 v5) (.int .i64 v6) (.int .i64 v7) (.bool q1.1) (.bool q2.1) (.slice aoE NE cE) (.slice ao k c) (.int .i64 fo.1) (.slice po j d)
              generalize (((((((((((((wr.setCell ⟨r0, 0, none⟩ (.int .i64 v0)).setCell ⟨r0, 1, none⟩ (.int .i64 v1)).setCell ⟨r0, 2, none⟩ (.int .i64 v2)).setCell ⟨r0, 3, none⟩ (.int .i64 v3)).setCell ⟨r0, 4, none⟩ (.int .i64 v4)).setCell ⟨r0, 5, none⟩ (.int .i64 v5)).setCell ⟨r0, 6, none⟩ (.int .i64 v6)).setCell ⟨r0, 7, none⟩ (.int .i64 v7)).setCell ⟨r0, 8, none⟩ (.bool q1.1)).setCell ⟨r0, 9, none⟩ (.bool q2.1)).setCell ⟨r0, 10, none⟩ (.slice aoE NE cE)).setCell ⟨r0, 11, none⟩ (.slice ao k c)).setCell ⟨r0, 12, none⟩ (.int .i64 fo.1)).setCell ⟨r0, 13, none⟩ (.slice po j d) = Wf at hz hg ⊢
              obtain ⟨x0, x1, x2, x3, x4, x5, x6, x7, x8, x9, x10, x11, x12, x13⟩ := msgCells hz
              have HEf := Lib.hid (own_lowM (own_far HE.out hg (by omega)) (show W.heap.size ≤ mb + 1 by omega))
              have HMf := Lib.hid (own_lowM (own_far HM.out hg (by omega)) (show W.heap.size ≤ mb + 1 by omega))
              have HOf := Lib.hid (own_lowM (own_far HO.out hg (by omega)) (show W.heap.size ≤ mb + 1 by omega))
              have HRf : Hid (RS w0 Wf B b s) := Lib.hid (HS.out.rs.far hg (fun e => by injection e with e; omega) (HS.out.rs.2.1.grown hg HS.out.rs.size (fun k hk => by injection hk with hk; have := HS.out.rs.2.2; omega)))
              have HWf : Hid (W.grownBy Wf (some b)) := Lib.hid (grown_then HS.out.gr hg (fun k hk => by injection hk with hk; exact .inl (by omega)))
              have HRm := Lib.hid hRm
              clear hRm hT hz hg
              refine bodyPost_ret (v := .agg #[.int .i64 v0, .int .i64 v1, .int .i64 v2, .int .i64 v3, .int .i64 v4, .int .i64 v5, .int .i64 v6, .int .i64 v7, .bool q1.1, .bool q2.1, .slice aoE NE cE, .slice ao k c, .int .i64 fo.1, .slice po j d]) (by simp [results, Tryz.results194, go_sem, x0, x1, x2, x3, x4, x5, x6, x7, x8, x9, x10, x11, x12, x13]; try rfl) rfl ?_
              exact ⟨⟨⟨v0, v1, v2, v3, v4, v5, v6, v7, q1.1, q2.1, pr.1, acc, fo.1, acp⟩, aoE, NE, cE, ao, k, c, po, j, d⟩, rfl, by rw [HRm.out], ⟨HEf.out, HMf.out, HOf.out, hlE, HLn.out, HLp.out⟩, by rw [HRm.out]; exact HRf.out, HWf.out⟩
end
/-! ### The walks of msg.Get and msg.Valid (printed by wip/gen_msgget.py). -/
section
open Go.RowKit
set_option linter.unusedVariables false
set_option linter.unusedSimpArgs false
theorem MsgOwn.zero (W : World) (base : Nat) : MsgOwn W base ⟨msg00, none, 0, 0, none, 0, 0, none, 0, 0⟩ :=
  ⟨World.ownsRow_nil _ _ _ _, World.ownsRow_nil _ _ _ _, World.ownsRow_nil _ _ _ _, rfl, rfl, rfl⟩
theorem MsgOwn.low {W : World} {base base' : Nat} {m : MsgR} (h : MsgOwn W base m) (hb : base' ≤ base) : MsgOwn W base' m := ⟨own_lowM h.es hb, own_lowM h.ms hb, own_lowM h.ps hb, h.el, h.ml, h.pl⟩
theorem MsgOwn.below {W W' : World} {base : Nat} {m : MsgR} (h : MsgOwn W base m) (hb : Below W.heap.size W W') : MsgOwn W' base m := ⟨own_below h.es hb, own_below h.ms hb, own_below h.ps hb, h.el, h.ml, h.pl⟩
theorem MsgOwn.far {W W' : World} {base g : Nat} {m : MsgR} (h : MsgOwn W base m) (hg : W.grownBy W' (some g)) (hb : g < base) : MsgOwn W' base m := ⟨own_far h.es hg hb, own_far h.ms hg hb, own_far h.ps hg hb, h.el, h.ml, h.pl⟩
theorem isPre_m (s : ByteArray) : isPre ⟨#[109]⟩ s ↔ s.data.toList.head? = some 109 := by
  unfold isPre
  show s.data.toList.take 1 = [109] ↔ _
  cases s.data.toList with
  | nil => simp
  | cons a l => simp
theorem getMsgV_a {l : List UInt8} (h : l.head? ≠ some 109) : getMsgV l = (msg00, 4) := by unfold getMsgV; rw [if_pos h]
theorem getMsgV_b {l : List UInt8} (h : l.head? = some 109) (h5 : l.length < 5) : getMsgV l = (msg00, 5) := by unfold getMsgV; rw [if_neg (by rw [h]; simp), if_pos h5]
theorem getMsgV_c {l : List UInt8} {A : Nat} (h : l.head? = some 109) (hA : l.length = A + 4) (h1 : 1 ≤ A) (hu : unfixB (l.drop A) ≠ crc (l.take A)) : getMsgV l = (msg00, 6) := by
  unfold getMsgV
  rw [if_neg (by rw [h]; simp), if_neg (by omega), show l.length - 4 = A from by omega, if_pos hu]
theorem getMsgV_d {l : List UInt8} {A : Nat} (h : l.head? = some 109) (hA : l.length = A + 4) (h1 : 1 ≤ A) (hu : unfixB (l.drop A) = crc (l.take A)) (hg : rEnd (readMsg ((l.take A).drop 1, 0)).2 ≠ 0) : getMsgV l = (msg00, rEnd (readMsg ((l.take A).drop 1, 0)).2) := by
  unfold getMsgV
  rw [if_neg (by rw [h]; simp), if_neg (by omega), show l.length - 4 = A from by omega, if_neg (by rw [hu]; simp), if_pos hg]
theorem getMsgV_e {l : List UInt8} {A : Nat} (h : l.head? = some 109) (hA : l.length = A + 4) (h1 : 1 ≤ A) (hu : unfixB (l.drop A) = crc (l.take A)) (hg : rEnd (readMsg ((l.take A).drop 1, 0)).2 = 0) : getMsgV l = ((readMsg ((l.take A).drop 1, 0)).1, 0) := by
  unfold getMsgV
  rw [if_neg (by rw [h]; simp), if_neg (by omega), show l.length - 4 = A from by omega, if_neg (by rw [hu]; simp), if_neg (by rw [hg]; simp)]
set_option maxRecDepth 20000 in
set_option maxHeartbeats 8000000 in
theorem mget_any (s : ByteArray) (w : World) (hs : s.size ≤ 281474976710656) :
    Calls Tryz.prog 85 #[.string s] w fun e w' => ∃ m : MsgR, e = .returned (.tuple #[m.agg, .int .i64 (getMsgV s.data.toList).2]) ∧ m.v = (getMsgV s.data.toList).1 ∧ MsgOwn w' w.heap.size m ∧ Below w.heap.size w w' := by
  have hk0 := heap_alloc_new w (.cells #[.int .i64 0, .int .i64 0, .int .i64 0, .int .i64 0, .int .i64 0, .int .i64 0, .int .i64 0, .int .i64 0, .bool false, .bool false, .slice none 0 0, .slice none 0 0, .int .i64 0, .slice none 0 0] 118)
  have hb0 : Below w.heap.size w (w.alloc (.cells #[.int .i64 0, .int .i64 0, .int .i64 0, .int .i64 0, .int .i64 0, .int .i64 0, .int .i64 0, .int .i64 0, .bool false, .bool false, .slice none 0 0, .slice none 0 0, .int .i64 0, .slice none 0 0] 118)) := (Below.refl _ _).alloc (Nat.le_refl _) _
  have HK0 : Hid ((w.alloc (.cells #[.int .i64 0, .int .i64 0, .int .i64 0, .int .i64 0, .int .i64 0, .int .i64 0, .int .i64 0, .int .i64 0, .bool false, .bool false, .slice none 0 0, .slice none 0 0, .int .i64 0, .slice none 0 0] 118)).heap[w.heap.size]? = some (.cells msgZ 118 (0, 0))) := Lib.hid hk0
  have HB0 := Lib.hid hb0
  have HSz : Hid ((w.alloc (.cells #[.int .i64 0, .int .i64 0, .int .i64 0, .int .i64 0, .int .i64 0, .int .i64 0, .int .i64 0, .int .i64 0, .bool false, .bool false, .slice none 0 0, .slice none 0 0, .int .i64 0, .slice none 0 0] 118)).heap.size = w.heap.size + 1) := Lib.hid (by simp)
  clear hk0 hb0
  have hll : s.data.toList.length = s.size := rfl
  by_cases hp : isPre ⟨#[109]⟩ s
  case neg =>
    have hg := getMsgV_a (l := s.data.toList) (fun h => hp ((isPre_m s).2 h))
    have HG := Lib.hid hg
    have HCut := Lib.hid (fun W => cut_no s ⟨#[109]⟩ W (by omega) (by decide) hp)
    clear hg hp
    go_enter Tryz.func85, Tryz.ntmps85
    go_wp2_with fail
    refine (HCut.out _).mono ?_
    rintro e w1 ⟨rfl, rfl⟩
    go_wp2_with fail
    obtain ⟨x0, x1, x2, x3, x4, x5, x6, x7, x8, x9, x10, x11, x12, x13⟩ := msgCells HK0.out
    refine bodyPost_ret (v := .tuple #[.agg #[.int .i64 0, .int .i64 0, .int .i64 0, .int .i64 0, .int .i64 0, .int .i64 0, .int .i64 0, .int .i64 0, .bool false, .bool false, .slice none 0 0, .slice none 0 0, .int .i64 0, .slice none 0 0], .int .i64 4]) (by simp [results, Tryz.results85, go_sem, x0, x1, x2, x3, x4, x5, x6, x7, x8, x9, x10, x11, x12, x13]; try rfl) rfl ?_
    exact ⟨⟨msg00, none, 0, 0, none, 0, 0, none, 0, 0⟩, by rw [HG.out]; rfl, by rw [HG.out], MsgOwn.zero _ _, HB0.out⟩
  case pos =>
    have hd := (isPre_m s).1 hp
    have HCut := Lib.hid (fun W => cut_yes s ⟨#[109]⟩ W (by omega) hp)
    have hsz1 : 1 ≤ s.size := isPre_size hp
    by_cases h5 : s.size < 5
    · have hg := getMsgV_b hd (by omega)
      have HG := Lib.hid hg
      have hx : decide ((s.extract 1 s.size).size < 4) = true := by rw [ByteArray.size_extract]; simp; omega
      clear hg hp hd
      go_enter Tryz.func85, Tryz.ntmps85
      go_wp2_with fail
      refine (HCut.out _).mono ?_
      rintro e w1 ⟨rfl, rfl⟩
      go_wp2_with fail
      obtain ⟨x0, x1, x2, x3, x4, x5, x6, x7, x8, x9, x10, x11, x12, x13⟩ := msgCells HK0.out
      refine bodyPost_ret (v := .tuple #[.agg #[.int .i64 0, .int .i64 0, .int .i64 0, .int .i64 0, .int .i64 0, .int .i64 0, .int .i64 0, .int .i64 0, .bool false, .bool false, .slice none 0 0, .slice none 0 0, .int .i64 0, .slice none 0 0], .int .i64 5]) (by simp [results, Tryz.results85, go_sem, x0, x1, x2, x3, x4, x5, x6, x7, x8, x9, x10, x11, x12, x13]; try rfl) rfl ?_
      exact ⟨⟨msg00, none, 0, 0, none, 0, 0, none, 0, 0⟩, by rw [HG.out]; rfl, by rw [HG.out], MsgOwn.zero _ _, HB0.out⟩
    obtain ⟨A, hA⟩ : ∃ A, s.size = A + 4 := ⟨s.size - 4, by omega⟩
    have hx : decide ((s.extract 1 s.size).size < 4) = false := by rw [ByteArray.size_extract]; simp; omega
    have hw : IntKind.i64.wrap ((s.size : Int) - 4) = (A : Int) := by rw [IntWalk.i64_in _ (by omega)]; omega
    have hA2 : (A : Int) ≤ s.size := by omega
    have hA3 : (1 : Int) ≤ A := by omega
    have hA4 : A ≤ s.size := by omega
    have hA5 : 1 ≤ A := by omega
    obtain ⟨U, hU⟩ : ∃ U, U = unfixB (s.data.toList.drop A) := ⟨_, rfl⟩
    obtain ⟨C, hC⟩ : ∃ C, C = crc (s.data.toList.take A) := ⟨_, rfl⟩
    have HUn : Hid (∀ W, Calls Tryz.prog 193 #[.string s, .int .i64 A, .int .i64 4] W fun e w' => e = .returned (.tuple #[.int .i64 U, .int .i64 0]) ∧ W = w') := Lib.hid (fun W => by
      have h := unfix_good s A 4 W (by omega) (by omega) (by omega) (by omega)
      rw [List.take_of_length_le (by rw [List.length_drop]; omega), ← hU] at h
      refine h.mono ?_
      rintro e w' ⟨rfl, rfl⟩
      exact ⟨rfl, rfl⟩)
    have HCr : Hid (∀ (W : World) (g : Nat) (t : TypeId), W.heap[g]? = some (.cells #[.string (s.extract 0 A)] t (0, 0)) → Calls Tryz.prog 190 #[.slice (some ⟨g, 0, none⟩) 1 1] W fun e w' => e = .returned (.int .i64 C) ∧ W = w') := Lib.hid (fun W g t h => by
      have h2 := crc_row (s.extract 0 A) h (by rw [ByteArray.size_extract]; omega)
      rw [Lib.extract_data, List.drop_zero, Nat.sub_zero, ← hC] at h2
      exact h2)
    have HUU := Lib.hid hU
    have HCC := Lib.hid hC
    have HDh := Lib.hid hd
    have hAl : s.data.toList.length = A + 4 := by omega
    have HAl := Lib.hid hAl
    clear hU hC hd hp hAl
    by_cases hne : U = C
    case neg =>
      have hg := getMsgV_c HDh.out HAl.out hA5 (by rw [← HUU.out, ← HCC.out]; exact hne)
      have HG := Lib.hid hg
      have hn1 : (U != C) = true := by simpa using hne
      have hn2 : ((U : Int) != (C : Int)) = true := by simp; omega
      clear hg hne
      go_enter Tryz.func85, Tryz.ntmps85
      go_wp2_with fail
      refine (HCut.out _).mono ?_
      rintro e w1 ⟨rfl, rfl⟩
      go_wp2_with fail
      refine (HUn.out _).mono ?_
      rintro e w1 ⟨rfl, rfl⟩
      go_wp2_with fail
      refine (HCr.out _ _ _ (new_at _ _ _ (by simp))).mono ?_
      rintro e w1 ⟨rfl, rfl⟩
      go_wp2_with fail
      obtain ⟨x0, x1, x2, x3, x4, x5, x6, x7, x8, x9, x10, x11, x12, x13⟩ := msgCells (old_at _ _ (.cells #[.string (s.extract 0 A)] 9) _ HK0.out)
      refine bodyPost_ret (v := .tuple #[.agg #[.int .i64 0, .int .i64 0, .int .i64 0, .int .i64 0, .int .i64 0, .int .i64 0, .int .i64 0, .int .i64 0, .bool false, .bool false, .slice none 0 0, .slice none 0 0, .int .i64 0, .slice none 0 0], .int .i64 6]) (by simp [results, Tryz.results85, go_sem, x0, x1, x2, x3, x4, x5, x6, x7, x8, x9, x10, x11, x12, x13]; try rfl) rfl ?_
      exact ⟨⟨msg00, none, 0, 0, none, 0, 0, none, 0, 0⟩, by rw [HG.out]; rfl, by rw [HG.out], MsgOwn.zero _ _, HB0.out.alloc (by simp) _⟩
    case pos =>
      subst hne
      have hn1 : (U != U) = false := by simp
      have hn2 : ((U : Int) != (U : Int)) = false := by simp
      obtain ⟨P, hP⟩ : ∃ P, P = readMsg ((s.data.toList.take A).drop 1, 0) := ⟨_, rfl⟩
      have hex : (s.extract 1 A).data.toList = (s.data.toList.take A).drop 1 := by rw [Lib.extract_data, List.drop_take]
      have HRd : Hid (∀ {w0 W : World} {B b : Nat}, RS w0 W B b ((s.extract 1 A).data.toList, 0) → Calls Tryz.prog 194 #[.pointer (some ⟨b, 0, none⟩)] W fun e w' => ∃ m : MsgR, e = .returned m.agg ∧ m.v = P.1 ∧ MsgOwn w' W.heap.size m ∧ RS w0 w' B b P.2 ∧ W.grownBy w' (some b)) := Lib.hid (fun R => by rw [hP, ← hex]; exact mread_any R)
      obtain ⟨g, hgE⟩ : ∃ g, g = rEnd P.2 := ⟨_, rfl⟩
      have HGe := Lib.hid hgE
      have HPp := Lib.hid hP
      have HRS : Hid (∀ W, Below (w.heap.size + 1) (w.alloc (.cells #[.int .i64 0, .int .i64 0, .int .i64 0, .int .i64 0, .int .i64 0, .int .i64 0, .int .i64 0, .int .i64 0, .bool false, .bool false, .slice none 0 0, .slice none 0 0, .int .i64 0, .slice none 0 0] 118)) W → w.heap.size + 1 ≤ W.heap.size → Calls Tryz.prog 12 #[.string (s.extract 1 A)] W fun e w' => ∃ b, e = .returned (.pointer (some ⟨b, 0, none⟩)) ∧ RS (w.alloc (.cells #[.int .i64 0, .int .i64 0, .int .i64 0, .int .i64 0, .int .i64 0, .int .i64 0, .int .i64 0, .int .i64 0, .bool false, .bool false, .slice none 0 0, .slice none 0 0, .int .i64 0, .slice none 0 0] 118)) w' (w.heap.size + 1) b ((s.extract 1 A).data.toList, 0)) := Lib.hid (fun W hb hB => RS.new (s.extract 1 A) hb hB (by rw [ByteArray.size_extract]; omega))
      have hRow : Hid (Below (w.heap.size + 1) (w.alloc (.cells #[.int .i64 0, .int .i64 0, .int .i64 0, .int .i64 0, .int .i64 0, .int .i64 0, .int .i64 0, .int .i64 0, .bool false, .bool false, .slice none 0 0, .slice none 0 0, .int .i64 0, .slice none 0 0] 118)) ((w.alloc (.cells #[.int .i64 0, .int .i64 0, .int .i64 0, .int .i64 0, .int .i64 0, .int .i64 0, .int .i64 0, .int .i64 0, .bool false, .bool false, .slice none 0 0, .slice none 0 0, .int .i64 0, .slice none 0 0] 118)).alloc (.cells #[.string (s.extract 0 A)] 9))) := Lib.hid ((Below.refl _ _).alloc (by simp) _)
      clear hP hex hgE
      go_enter Tryz.func85, Tryz.ntmps85
      go_wp2_with fail
      refine (HCut.out _).mono ?_
      rintro e w1 ⟨rfl, rfl⟩
      go_wp2_with fail
      refine (HUn.out _).mono ?_
      rintro e w1 ⟨rfl, rfl⟩
      go_wp2_with fail
      refine (HCr.out _ _ _ (new_at _ _ _ (by simp))).mono ?_
      rintro e w1 ⟨rfl, rfl⟩
      go_wp2_with fail
      refine (HRS.out _ hRow.out (by simp)).mono ?_
      rintro e w2 ⟨b, rfl, R2⟩
      have HRd2 := Lib.hid (HRd.out R2)
      have hz2 : w.heap.size + 1 ≤ w2.heap.size := R2.size
      clear R2 HRd HRS hRow
      go_wp2_with fail
      refine HRd2.out.mono ?_
      rintro e w3 ⟨m, rfl, hmv, hmo, R3, hg3⟩
      have hz3 : w2.heap.size ≤ w3.heap.size := hg3.size
      have HK3 : Hid (w3.heap[w.heap.size]? = some (.cells msgZ 118 (0, 0))) := Lib.hid ((R3.2.1.block _ (by omega)).trans HK0.out)
      have HB3 : Hid (Below w.heap.size w w3) := Lib.hid (HB0.out.trans (R3.2.1.mono (by omega)))
      have HR3 := Lib.hid R3
      have HMv := Lib.hid hmv
      have HMo := Lib.hid hmo
      have HE := Lib.hid ((R3.alloc (.cells #[.int .i64 m.v.kd, .int .i64 m.v.frm, .int .i64 m.v.dst, .int .i64 m.v.tm, .int .i64 m.v.ix, .int .i64 m.v.lt, .int .i64 m.v.cm, .int .i64 m.v.rd, .bool m.v.ok, .bool m.v.dn, .slice m.eo m.en m.ec, .slice m.mo m.mn m.mc, .int .i64 m.v.off, .slice m.po m.pn m.pc] 118)).fin)
      rw [← HGe.out] at HE
      have HK4 : Hid ((w3.alloc (.cells #[.int .i64 m.v.kd, .int .i64 m.v.frm, .int .i64 m.v.dst, .int .i64 m.v.tm, .int .i64 m.v.ix, .int .i64 m.v.lt, .int .i64 m.v.cm, .int .i64 m.v.rd, .bool m.v.ok, .bool m.v.dn, .slice m.eo m.en m.ec, .slice m.mo m.mn m.mc, .int .i64 m.v.off, .slice m.po m.pn m.pc] 118)).heap[w.heap.size]? = some (.cells msgZ 118 (0, 0))) := Lib.hid (old_at _ _ _ _ HK3.out)
      have HN4 : Hid ((w3.alloc (.cells #[.int .i64 m.v.kd, .int .i64 m.v.frm, .int .i64 m.v.dst, .int .i64 m.v.tm, .int .i64 m.v.ix, .int .i64 m.v.lt, .int .i64 m.v.cm, .int .i64 m.v.rd, .bool m.v.ok, .bool m.v.dn, .slice m.eo m.en m.ec, .slice m.mo m.mn m.mc, .int .i64 m.v.off, .slice m.po m.pn m.pc] 118)).heap[w3.heap.size]? = some (.cells #[.int .i64 m.v.kd, .int .i64 m.v.frm, .int .i64 m.v.dst, .int .i64 m.v.tm, .int .i64 m.v.ix, .int .i64 m.v.lt, .int .i64 m.v.cm, .int .i64 m.v.rd, .bool m.v.ok, .bool m.v.dn, .slice m.eo m.en m.ec, .slice m.mo m.mn m.mc, .int .i64 m.v.off, .slice m.po m.pn m.pc] 118 (0, 0))) := Lib.hid (heap_alloc_new _ _)
      have HB4 : Hid (Below w.heap.size w (w3.alloc (.cells #[.int .i64 m.v.kd, .int .i64 m.v.frm, .int .i64 m.v.dst, .int .i64 m.v.tm, .int .i64 m.v.ix, .int .i64 m.v.lt, .int .i64 m.v.cm, .int .i64 m.v.rd, .bool m.v.ok, .bool m.v.dn, .slice m.eo m.en m.ec, .slice m.mo m.mn m.mc, .int .i64 m.v.off, .slice m.po m.pn m.pc] 118))) := Lib.hid (HB3.out.alloc (by omega) _)
      have HMo4 : Hid (MsgOwn (w3.alloc (.cells #[.int .i64 m.v.kd, .int .i64 m.v.frm, .int .i64 m.v.dst, .int .i64 m.v.tm, .int .i64 m.v.ix, .int .i64 m.v.lt, .int .i64 m.v.cm, .int .i64 m.v.rd, .bool m.v.ok, .bool m.v.dn, .slice m.eo m.en m.ec, .slice m.mo m.mn m.mc, .int .i64 m.v.off, .slice m.po m.pn m.pc] 118)) (w.heap.size + 1) m) := Lib.hid ((HMo.out.low (show w.heap.size + 1 ≤ w2.heap.size from hz2)).below ((Below.refl _ _).alloc (Nat.le_refl _) _))
      unfold MsgR.agg
      clear R3 hmv hmo hg3 HRd2
      by_cases hg0 : g = 0
      case neg =>
        have hgv := getMsgV_d HDh.out HAl.out hA5 (by rw [← HUU.out, ← HCC.out]) (by rw [← HPp.out, ← HGe.out]; exact hg0)
        rw [← HPp.out, ← HGe.out] at hgv
        have HG := Lib.hid hgv
        have hd3 : (g != 0) = true := by simpa using hg0
        clear hgv hg0
        go_wp2_with fail
        refine HE.out.mono ?_
        rintro e w4 ⟨rfl, rfl⟩
        obtain ⟨z0, z1, z2, z3, z4, z5, z6, z7, z8, z9, z10, z11, z12, z13⟩ := msgCells HK4.out
        have zf := fun i => blk_frozen HK4.out i
        have zf0 := zf 0
        have zf1 := zf 1
        have zf2 := zf 2
        have zf3 := zf 3
        have zf4 := zf 4
        have zf5 := zf 5
        have zf6 := zf 6
        have zf7 := zf 7
        have zf8 := zf 8
        have zf9 := zf 9
        have zf10 := zf 10
        have zf11 := zf 11
        have zf12 := zf 12
        have zf13 := zf 13
        clear zf
        go_wp2_with fail
        obtain ⟨hz, hg⟩ := set14 HK4.out (.int .i64 0) (.int .i64 0) (.int .i64 0) (.int .i64 0) (.int .i64 0) (.int .i64 0) (.int .i64 0) (.int .i64 0) (.bool false) (.bool false) (.slice none 0 0) (.slice none 0 0) (.int .i64 0) (.slice none 0 0)
        have HBf := Lib.hid ((HB4.out).grown hg (by have := (HB4.out).size; omega) (fun k hk => by injection hk with hk; omega))
        have HFin : Hid True := Lib.hid trivial
        generalize ((((((((((((((w3.alloc (.cells #[.int .i64 m.v.kd, .int .i64 m.v.frm, .int .i64 m.v.dst, .int .i64 m.v.tm, .int .i64 m.v.ix, .int .i64 m.v.lt, .int .i64 m.v.cm, .int .i64 m.v.rd, .bool m.v.ok, .bool m.v.dn, .slice m.eo m.en m.ec, .slice m.mo m.mn m.mc, .int .i64 m.v.off, .slice m.po m.pn m.pc] 118)).setCell ⟨w.heap.size, 0, none⟩ (.int .i64 0)).setCell ⟨w.heap.size, 1, none⟩ (.int .i64 0)).setCell ⟨w.heap.size, 2, none⟩ (.int .i64 0)).setCell ⟨w.heap.size, 3, none⟩ (.int .i64 0)).setCell ⟨w.heap.size, 4, none⟩ (.int .i64 0)).setCell ⟨w.heap.size, 5, none⟩ (.int .i64 0)).setCell ⟨w.heap.size, 6, none⟩ (.int .i64 0)).setCell ⟨w.heap.size, 7, none⟩ (.int .i64 0)).setCell ⟨w.heap.size, 8, none⟩ (.bool false)).setCell ⟨w.heap.size, 9, none⟩ (.bool false)).setCell ⟨w.heap.size, 10, none⟩ (.slice none 0 0)).setCell ⟨w.heap.size, 11, none⟩ (.slice none 0 0)).setCell ⟨w.heap.size, 12, none⟩ (.int .i64 0)).setCell ⟨w.heap.size, 13, none⟩ (.slice none 0 0) = Wf at hz HBf HFin ⊢
        obtain ⟨x0, x1, x2, x3, x4, x5, x6, x7, x8, x9, x10, x11, x12, x13⟩ := msgCells hz
        clear hz hg
        refine bodyPost_ret (v := .tuple #[.agg #[.int .i64 0, .int .i64 0, .int .i64 0, .int .i64 0, .int .i64 0, .int .i64 0, .int .i64 0, .int .i64 0, .bool false, .bool false, .slice none 0 0, .slice none 0 0, .int .i64 0, .slice none 0 0], .int .i64 g]) (by simp [results, Tryz.results85, go_sem, x0, x1, x2, x3, x4, x5, x6, x7, x8, x9, x10, x11, x12, x13]; try rfl) rfl ?_
        exact ⟨⟨msg00, none, 0, 0, none, 0, 0, none, 0, 0⟩, by rw [HG.out]; rfl, by rw [HG.out], MsgOwn.zero _ _, HBf.out⟩
      case pos =>
        subst hg0
        have hgv := getMsgV_e HDh.out HAl.out hA5 (by rw [← HUU.out, ← HCC.out]) (by rw [← HPp.out, ← HGe.out])
        rw [← HPp.out] at hgv
        have HG := Lib.hid hgv
        clear hgv
        go_wp2_with fail
        refine HE.out.mono ?_
        rintro e w4 ⟨rfl, rfl⟩
        obtain ⟨z0, z1, z2, z3, z4, z5, z6, z7, z8, z9, z10, z11, z12, z13⟩ := msgCells HK4.out
        obtain ⟨y0, y1, y2, y3, y4, y5, y6, y7, y8, y9, y10, y11, y12, y13⟩ := msgCells HN4.out
        have zf := fun i => blk_frozen HK4.out i
        have zf0 := zf 0
        have zf1 := zf 1
        have zf2 := zf 2
        have zf3 := zf 3
        have zf4 := zf 4
        have zf5 := zf 5
        have zf6 := zf 6
        have zf7 := zf 7
        have zf8 := zf 8
        have zf9 := zf 9
        have zf10 := zf 10
        have zf11 := zf 11
        have zf12 := zf 12
        have zf13 := zf 13
        clear zf
        go_wp2_with fail
        obtain ⟨hz, hg⟩ := set14 HK4.out (.int .i64 m.v.kd) (.int .i64 m.v.frm) (.int .i64 m.v.dst) (.int .i64 m.v.tm) (.int .i64 m.v.ix) (.int .i64 m.v.lt) (.int .i64 m.v.cm) (.int .i64 m.v.rd) (.bool m.v.ok) (.bool m.v.dn) (.slice m.eo m.en m.ec) (.slice m.mo m.mn m.mc) (.int .i64 m.v.off) (.slice m.po m.pn m.pc)
        have HBf := Lib.hid ((HB4.out).grown hg (by have := (HB4.out).size; omega) (fun k hk => by injection hk with hk; omega))
        have HFin := Lib.hid ((HMo4.out.far hg (by omega)).low (show w.heap.size ≤ w.heap.size + 1 by omega))
        generalize ((((((((((((((w3.alloc (.cells #[.int .i64 m.v.kd, .int .i64 m.v.frm, .int .i64 m.v.dst, .int .i64 m.v.tm, .int .i64 m.v.ix, .int .i64 m.v.lt, .int .i64 m.v.cm, .int .i64 m.v.rd, .bool m.v.ok, .bool m.v.dn, .slice m.eo m.en m.ec, .slice m.mo m.mn m.mc, .int .i64 m.v.off, .slice m.po m.pn m.pc] 118)).setCell ⟨w.heap.size, 0, none⟩ (.int .i64 m.v.kd)).setCell ⟨w.heap.size, 1, none⟩ (.int .i64 m.v.frm)).setCell ⟨w.heap.size, 2, none⟩ (.int .i64 m.v.dst)).setCell ⟨w.heap.size, 3, none⟩ (.int .i64 m.v.tm)).setCell ⟨w.heap.size, 4, none⟩ (.int .i64 m.v.ix)).setCell ⟨w.heap.size, 5, none⟩ (.int .i64 m.v.lt)).setCell ⟨w.heap.size, 6, none⟩ (.int .i64 m.v.cm)).setCell ⟨w.heap.size, 7, none⟩ (.int .i64 m.v.rd)).setCell ⟨w.heap.size, 8, none⟩ (.bool m.v.ok)).setCell ⟨w.heap.size, 9, none⟩ (.bool m.v.dn)).setCell ⟨w.heap.size, 10, none⟩ (.slice m.eo m.en m.ec)).setCell ⟨w.heap.size, 11, none⟩ (.slice m.mo m.mn m.mc)).setCell ⟨w.heap.size, 12, none⟩ (.int .i64 m.v.off)).setCell ⟨w.heap.size, 13, none⟩ (.slice m.po m.pn m.pc) = Wf at hz HBf HFin ⊢
        obtain ⟨x0, x1, x2, x3, x4, x5, x6, x7, x8, x9, x10, x11, x12, x13⟩ := msgCells hz
        clear hz hg
        refine bodyPost_ret (v := .tuple #[.agg #[.int .i64 m.v.kd, .int .i64 m.v.frm, .int .i64 m.v.dst, .int .i64 m.v.tm, .int .i64 m.v.ix, .int .i64 m.v.lt, .int .i64 m.v.cm, .int .i64 m.v.rd, .bool m.v.ok, .bool m.v.dn, .slice m.eo m.en m.ec, .slice m.mo m.mn m.mc, .int .i64 m.v.off, .slice m.po m.pn m.pc], .int .i64 0]) (by simp [results, Tryz.results85, go_sem, x0, x1, x2, x3, x4, x5, x6, x7, x8, x9, x10, x11, x12, x13]; try rfl) rfl ?_
        exact ⟨m, by rw [HG.out]; rfl, by rw [HG.out]; exact HMv.out, HFin.out, HBf.out⟩
end
/-! ### A message that was got is in order, few and short. -/
section
open Go.RowKit
set_option linter.unusedVariables false
theorem sum_each {α : Type} (f : α → Nat) (c : Nat) : ∀ l : List α, (∀ x ∈ l, f x ≤ c) → (l.map f).sum ≤ c * l.length := by
  intro l
  induction l with
  | nil => intro _; simp
  | cons x l ih =>
    intro h
    have h1 := h x List.mem_cons_self
    have h2 := ih (fun y hy => h y (List.mem_cons_of_mem _ hy))
    rw [List.map_cons, List.sum_cons, List.length_cons, Nat.mul_succ]
    omega
theorem getEnt_got (st : RSt) : EntOk (getEnt st).1 ∧ (getEnt st).1.dt.size ≤ 2200 := by
  have h := rText_len 2200 (rVar (rVar (rVar st).2).2).2
  have hs : (getEnt st).1.dt.size = (rText 2200 (rVar (rVar (rVar st).2).2).2).1.length := by
    unfold getEnt
    show (List.toArray _).size = _
    exact List.size_toArray
  have hl : (getEnt st).1.dt.size ≤ 2200 := by rw [hs]; omega
  exact ⟨⟨rVar_range _, rVar_range _, rVar_range _, by omega⟩, hl⟩
theorem getLoop_got : ∀ (n : Nat) (st : RSt) (acc : List Ent), (∀ e ∈ acc, EntOk e ∧ e.dt.size ≤ 2200) → (∀ e ∈ (getLoop n st acc).1, EntOk e ∧ e.dt.size ≤ 2200) ∧ (getLoop n st acc).1.length ≤ acc.length + n := by
  intro n
  induction n with
  | zero => intro st acc h; exact ⟨h, Nat.le_refl _⟩
  | succ n ih =>
    intro st acc h
    rw [getLoop]
    split
    · exact ⟨h, Nat.le_add_right _ _⟩
    · have := ih (getEnt st).2 (acc ++ [(getEnt st).1]) (fun e he => by
        rcases List.mem_append.1 he with he | he
        · exact h e he
        · simp at he; rw [he]; exact getEnt_got st)
      refine ⟨this.1, ?_⟩
      have h2 := this.2
      simp at h2
      omega
theorem getAll_got (st : RSt) : (∀ e ∈ (getAll st).1, EntOk e ∧ e.dt.size ≤ 2200) ∧ (getAll st).1.length ≤ 400 := by
  have h1 := rCount_range 400 st (by decide)
  have h2 := getLoop_got (rCount 400 st).1.toNat (rCount 400 st).2 [] (by simp)
  unfold getAll
  split
  · exact ⟨by simp, Nat.zero_le _⟩
  · refine ⟨h2.1, ?_⟩
    have h3 := h2.2
    simp at h3
    omega
theorem getPairs_got : ∀ (n : Nat) (st : RSt) (acc : List Par), (∀ p ∈ acc, p.key.size ≤ 41 ∧ p.vl.size ≤ 2000) → (∀ p ∈ (getPairs n st acc).1, p.key.size ≤ 41 ∧ p.vl.size ≤ 2000) ∧ (getPairs n st acc).1.length = acc.length + n := by
  intro n
  induction n with
  | zero => intro st acc h; exact ⟨h, rfl⟩
  | succ n ih =>
    intro st acc h
    rw [getPairs]
    have := ih (getPair st).2 (acc ++ [(getPair st).1]) (fun e he => by
      rcases List.mem_append.1 he with he | he
      · exact h e he
      · simp at he
        rw [he]
        have k1 := rText_len 41 st
        have k2 := rText_len 2000 (rText 41 st).2
        have e1 : (getPair st).1.key.size = (rText 41 st).1.length := by unfold getPair; show (List.toArray _).size = _; exact List.size_toArray
        have e2 : (getPair st).1.vl.size = (rText 2000 (rText 41 st).2).1.length := by unfold getPair; show (List.toArray _).size = _; exact List.size_toArray
        rw [e1, e2]
        omega)
    refine ⟨this.1, ?_⟩
    rw [this.2]
    simp
    omega
theorem readMsg_got (st : RSt) : MsgOk (readMsg st).1 ∧ MsgSm (readMsg st).1 := by
  have g1 := getAll_got (rBool (rBool (rVar (rVar (rVar (rVar (rVar (rVar (rVar (rVar st).2).2).2).2).2).2).2).2).2).2
  unfold readMsg readTail
  dsimp only
  generalize (rBool (rBool (rVar (rVar (rVar (rVar (rVar (rVar (rVar (rVar st).2).2).2).2).2).2).2).2).2).2 = s at g1 ⊢
  have c1 := rCount_range 9 (getAll s).2 (by decide)
  have m1 := getMs_ok16 (rCount 9 (getAll s).2).1.toNat (rCount 9 (getAll s).2).2 [] (by simp)
  have m2 := getMs_len16 (rCount 9 (getAll s).2).1.toNat (rCount 9 (getAll s).2).2 []
  generalize getMs (rCount 9 (getAll s).2).1.toNat (rCount 9 (getAll s).2).2 [] = d at m1 m2 ⊢
  have c2 := rCount_range 50 (rVar d.2).2 (by decide)
  have p1 := getPairs_got (rCount 50 (rVar d.2).2).1.toNat (rCount 50 (rVar d.2).2).2 [] (by simp)
  generalize getPairs (rCount 50 (rVar d.2).2).1.toNat (rCount 50 (rVar d.2).2).2 [] = g at p1 ⊢
  have hm : d.1.length ≤ 9 := by simp at m2; omega
  have hp : g.1.length ≤ 50 := by have := p1.2; simp at this; omega
  have s1 := sum_each (fun e : Ent => e.dt.size) 2200 (getAll s).1 (fun e he => (g1.1 e he).2)
  have s2 := sum_each (fun p : Par => p.key.size + p.vl.size) 2041 g.1 (fun p hp => by have := p1.1 p hp; omega)
  refine ⟨⟨rVar_range _, rVar_range _, rVar_range _, rVar_range _, rVar_range _, rVar_range _, rVar_range _, rVar_range _, rVar_range _, ⟨fun e he => (g1.1 e he).1, by have := g1.2; dsimp only; omega⟩, ⟨m1, by dsimp only; omega⟩, ⟨fun p hq => by have := p1.1 p hq; omega, by dsimp only; omega⟩⟩, ⟨by have := g1.2; dsimp only; omega, ?_, by dsimp only; omega, by dsimp only; omega, ?_⟩⟩
  · dsimp only
    have := g1.2
    have : 2200 * (getAll s).1.length ≤ 2200 * 400 := Nat.mul_le_mul_left _ this
    omega
  · dsimp only
    have : 2041 * g.1.length ≤ 2041 * 50 := Nat.mul_le_mul_left _ hp
    omega
theorem msg00_ok : MsgOk msg00 ∧ MsgSm msg00 := by
  have i0 : I64 0 := by unfold I64; omega
  exact ⟨⟨i0, i0, i0, i0, i0, i0, i0, i0, i0, ⟨fun e he => (by cases he), by decide⟩, ⟨fun e he => (by cases he), by decide⟩, ⟨fun e he => (by cases he), by decide⟩⟩, ⟨by decide, by decide, by decide, by decide, by decide⟩⟩
theorem getMsgV_got (l : List UInt8) : MsgOk (getMsgV l).1 ∧ MsgSm (getMsgV l).1 := by
  unfold getMsgV
  split
  · exact msg00_ok
  · split
    · exact msg00_ok
    · split
      · exact msg00_ok
      · split
        · exact msg00_ok
        · exact readMsg_got _
end
end Go.Proofs.YtmdidmllaldbaaaGreat
