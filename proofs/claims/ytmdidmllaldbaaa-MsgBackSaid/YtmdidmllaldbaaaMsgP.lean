/- The plain bytes of a message, and how it is read again. -/
import Derived.Test.YtmdidmllaldbaaaEntP
import Derived.Test.YtmdidmllaldbaaaPairB
import Derived.Test.YtmdidmllaldbaaaCrcP
import Derived.Test.YtmdidmllaldbaaaFixP
namespace Go.Proofs.Ytmdidmllaldbaaa
open Go.RowKit
set_option linter.unusedVariables false
structure MsgV where
  kd : Int
  frm : Int
  dst : Int
  tm : Int
  ix : Int
  lt : Int
  cm : Int
  rd : Int
  ok : Bool
  dn : Bool
  es : List Ent
  ms : List Int
  off : Int
  ps : List Par
def msg00 : MsgV := ⟨0, 0, 0, 0, 0, 0, 0, 0, false, false, [], [], 0, []⟩
def boolM (b : Bool) : List UInt8 := if b then [1] else [0]
def pairB (p : Par) : List UInt8 := textB p.key.data.toList ++ textB p.vl.data.toList
def pairsB (l : List Par) : List UInt8 := (l.map pairB).flatten
/-- What stands behind the first byte of a message, without its sum. -/
def msgT (m : MsgV) : List UInt8 :=
  var1 m.kd ++ (var1 m.frm ++ (var1 m.dst ++ (var1 m.tm ++ (var1 m.ix ++ (var1 m.lt ++ (var1 m.cm ++ (var1 m.rd ++ (boolM m.ok ++ (boolM m.dn ++ (putB m.es ++ (memB m.ms ++ (var1 m.off ++ (var1 m.ps.length ++ pairsB m.ps)))))))))))))
def msgB (m : MsgV) : List UInt8 := 109 :: msgT m
def putMsgB (m : MsgV) : List UInt8 := msgB m ++ fixB (crc (msgB m)) 4
def getPair (st : RSt) : Par × RSt := (⟨⟨(rText 41 st).1.toArray⟩, ⟨(rText 2000 (rText 41 st).2).1.toArray⟩⟩, (rText 2000 (rText 41 st).2).2)
def getPairs : Nat → RSt → List Par → List Par × RSt
  | 0, st, acc => (acc, st)
  | n + 1, st, acc => getPairs n (getPair st).2 (acc ++ [(getPair st).1])
theorem getPair_off (st : RSt) (h : st.2 ≠ 0) : (getPair st).2 = st := by
  unfold getPair
  rw [rText_stay 41 st h]
  dsimp only
  rw [rText_stay 2000 st h]
theorem getPairs_off (n : Nat) : ∀ (st : RSt) acc, st.2 ≠ 0 → (getPairs n st acc).2 = st := by
  induction n with
  | zero => intro st acc _; rfl
  | succ n ih => intro st acc h; rw [getPairs, getPair_off st h]; exact ih st _ h
theorem pair_eq (p : Par) : (⟨⟨p.key.data.toList.toArray⟩, ⟨p.vl.data.toList.toArray⟩⟩ : Par) = p := by
  rcases p with ⟨a, b⟩
  rfl
theorem getPairs_put : ∀ (l acc : List Par) (r : List UInt8), (∀ p ∈ l, p.key.size ≤ 140737488351232 ∧ p.vl.size ≤ 140737488351232) → (getPairs l.length (pairsB l ++ r, 0) acc).2.2 = 0 → getPairs l.length (pairsB l ++ r, 0) acc = (acc ++ l, (r, 0)) := by
  intro l
  induction l with
  | nil => intro acc r _ _; simp [getPairs, pairsB]
  | cons p l ih =>
    intro acc r h h0
    obtain ⟨s1, s2⟩ := h p List.mem_cons_self
    have k1 : p.key.data.toList.length = p.key.size := rfl
    have k2 : p.vl.data.toList.length = p.vl.size := rfl
    have e0 : pairsB (p :: l) ++ r = textB p.key.data.toList ++ (textB p.vl.data.toList ++ (pairsB l ++ r)) := by simp [pairsB, pairB]
    have e1 := rText_textB 41 p.key.data.toList (textB p.vl.data.toList ++ (pairsB l ++ r)) (by omega)
    have e2 := rText_textB 2000 p.vl.data.toList (pairsB l ++ r) (by omega)
    rw [List.length_cons, getPairs, e0] at h0 ⊢
    by_cases c1 : (41 : Int) < p.key.data.toList.length
    · exfalso
      rw [if_pos c1] at e1
      have hg : (getPair (textB p.key.data.toList ++ (textB p.vl.data.toList ++ (pairsB l ++ r)), 0)).2.2 = 2 := by
        unfold getPair
        rw [e1]
        dsimp only
        rw [rText_stay 2000 _ (by simp)]
      rw [getPairs_off _ _ _ (by rw [hg]; decide), hg] at h0
      exact absurd h0 (by decide)
    · rw [if_neg c1] at e1
      by_cases c2 : (2000 : Int) < p.vl.data.toList.length
      · exfalso
        rw [if_pos c2] at e2
        have hg : (getPair (textB p.key.data.toList ++ (textB p.vl.data.toList ++ (pairsB l ++ r)), 0)).2.2 = 2 := by
          unfold getPair
          rw [e1]
          dsimp only
          rw [e2]
        rw [getPairs_off _ _ _ (by rw [hg]; decide), hg] at h0
        exact absurd h0 (by decide)
      · rw [if_neg c2] at e2
        have hg : getPair (textB p.key.data.toList ++ (textB p.vl.data.toList ++ (pairsB l ++ r)), 0) = (p, (pairsB l ++ r, 0)) := by
          unfold getPair
          rw [e1]
          dsimp only
          rw [e2]
        rw [hg] at h0 ⊢
        dsimp only at h0 ⊢
        rw [ih _ _ (fun q hq => h q (List.mem_cons_of_mem _ hq)) h0]
        simp
theorem getMs_off (n : Nat) : ∀ (st : RSt) acc, st.2 ≠ 0 → (getMs n st acc).2 = st := by
  induction n with
  | zero => intro st acc _; rfl
  | succ n ih => intro st acc h; rw [getMs, rVar_off h]; exact ih st _ h
theorem rBool_offM {st : RSt} (h : st.2 ≠ 0) : rBool st = (false, st) := by unfold rBool; rw [if_pos h]
theorem rBool_boolM (v : Bool) (r : List UInt8) : rBool (boolM v ++ r, 0) = (v, (r, 0)) := by cases v <;> rfl
/-- Entries, members, the offset and the pairs. -/
def readTail (st : RSt) : (List Ent × List Int × Int × List Par) × RSt :=
  let a := getAll st
  let c := rCount 9 a.2
  let d := getMs c.1.toNat c.2 []
  let e := rVar d.2
  let f := rCount 50 e.2
  let g := getPairs f.1.toNat f.2 []
  ((a.1, d.1, e.1, g.1), g.2)
theorem readTail_put (es : List Ent) (ms : List Int) (off : Int) (ps : List Par) (he : ∀ e ∈ es, EntOk e) (hel : es.length ≤ 9223372036854775807) (hm : ∀ v ∈ ms, -9223372036854775808 ≤ v ∧ v ≤ 9223372036854775807) (hml : ms.length ≤ 9223372036854775807)
    (ho : -9223372036854775808 ≤ off ∧ off ≤ 9223372036854775807) (hp : ∀ p ∈ ps, p.key.size ≤ 140737488351232 ∧ p.vl.size ≤ 140737488351232) (hpl : ps.length ≤ 9223372036854775807)
    (h0 : (readTail (putB es ++ (memB ms ++ (var1 off ++ (var1 ps.length ++ pairsB ps))), 0)).2.2 = 0) :
    readTail (putB es ++ (memB ms ++ (var1 off ++ (var1 ps.length ++ pairsB ps))), 0) = ((es, ms, off, ps), ([], 0)) := by
  have off1 : ∀ st : RSt, st.2 ≠ 0 → (getPairs (rCount 50 (rVar (getMs (rCount 9 st).1.toNat (rCount 9 st).2 []).2).2).1.toNat (rCount 50 (rVar (getMs (rCount 9 st).1.toNat (rCount 9 st).2 []).2).2).2 []).2 = st := by
    intro st h
    rw [rCount_stay 9 st h]
    dsimp only
    rw [getMs_off _ st _ h, rVar_off h]
    dsimp only
    rw [rCount_stay 50 st h]
    dsimp only
    exact getPairs_off _ _ _ h
  by_cases hg : es.length ≤ 400 ∧ ∀ e ∈ es, e.dt.size ≤ 2200
  · have h1 := getAll_good es (memB ms ++ (var1 off ++ (var1 ps.length ++ pairsB ps))) hg.1 (fun e h => ⟨he e h, hg.2 e h⟩)
    unfold readTail at h0 ⊢
    rw [h1] at h0 ⊢
    dsimp only at h0 ⊢
    have h2 : rCount 9 (memB ms ++ (var1 off ++ (var1 ps.length ++ pairsB ps)), 0) = if 9 < (ms.length : Int) then (0, (vars ms ++ (var1 off ++ (var1 ps.length ++ pairsB ps)), 2)) else ((ms.length : Int), (vars ms ++ (var1 off ++ (var1 ps.length ++ pairsB ps)), 0)) := by
      unfold memB
      rw [List.append_assoc]
      exact rCount_var1 9 ms.length _ (by omega) (by omega)
    by_cases c1 : (9 : Int) < ms.length
    · exfalso
      rw [if_pos c1] at h2
      rw [h2] at h0
      dsimp only at h0
      rw [show (0 : Int).toNat = 0 from rfl, getMs, rVar_off (by simp)] at h0
      dsimp only at h0
      rw [rCount_stay 50 _ (by simp)] at h0
      dsimp only at h0
      rw [getPairs_off _ _ _ (by simp)] at h0
      simp at h0
    · rw [if_neg c1] at h2
      rw [h2] at h0 ⊢
      dsimp only at h0 ⊢
      rw [Int.toNat_natCast, getMs_vars ms [] _ hm] at h0 ⊢
      dsimp only at h0 ⊢
      rw [rVar_var1 off _ ho.1 ho.2] at h0 ⊢
      dsimp only at h0 ⊢
      have h3 := rCount_var1 50 ps.length (pairsB ps) (by omega) (by omega)
      by_cases c2 : (50 : Int) < ps.length
      · exfalso
        rw [if_pos c2] at h3
        rw [h3] at h0
        dsimp only at h0
        rw [getPairs_off _ _ _ (by simp)] at h0
        simp at h0
      · rw [if_neg c2] at h3
        rw [h3] at h0 ⊢
        dsimp only at h0 ⊢
        rw [Int.toNat_natCast] at h0 ⊢
        have h4 := getPairs_put ps [] [] hp
        rw [List.append_nil] at h4
        rw [h4 h0]
        simp
  · exfalso
    have hb := getAll_bad es (memB ms ++ (var1 off ++ (var1 ps.length ++ pairsB ps))) hel he (short_or es hg)
    have h2 := off1 (getAll (putB es ++ (memB ms ++ (var1 off ++ (var1 ps.length ++ pairsB ps))), 0)).2 (by rw [hb.2]; decide)
    unfold readTail at h0
    dsimp only at h0
    rw [h2, hb.2] at h0
    exact absurd h0 (by decide)
/-- The whole message behind its first byte. -/
def readMsg (st : RSt) : MsgV × RSt :=
  let a1 := rVar st
  let a2 := rVar a1.2
  let a3 := rVar a2.2
  let a4 := rVar a3.2
  let a5 := rVar a4.2
  let a6 := rVar a5.2
  let a7 := rVar a6.2
  let a8 := rVar a7.2
  let b1 := rBool a8.2
  let b2 := rBool b1.2
  let t := readTail b2.2
  (⟨a1.1, a2.1, a3.1, a4.1, a5.1, a6.1, a7.1, a8.1, b1.1, b2.1, t.1.1, t.1.2.1, t.1.2.2.1, t.1.2.2.2⟩, t.2)
def I64 (v : Int) : Prop := -9223372036854775808 ≤ v ∧ v ≤ 9223372036854775807
def MsgOk (m : MsgV) : Prop := I64 m.kd ∧ I64 m.frm ∧ I64 m.dst ∧ I64 m.tm ∧ I64 m.ix ∧ I64 m.lt ∧ I64 m.cm ∧ I64 m.rd ∧ I64 m.off ∧
  ((∀ e ∈ m.es, EntOk e) ∧ m.es.length ≤ 9223372036854775807) ∧ ((∀ v ∈ m.ms, I64 v) ∧ m.ms.length ≤ 9223372036854775807) ∧ ((∀ p ∈ m.ps, p.key.size ≤ 140737488351232 ∧ p.vl.size ≤ 140737488351232) ∧ m.ps.length ≤ 9223372036854775807)
theorem readMsg_put (m : MsgV) (h : MsgOk m) (h0 : (readMsg (msgT m, 0)).2.2 = 0) : readMsg (msgT m, 0) = (m, ([], 0)) := by
  obtain ⟨i1, i2, i3, i4, i5, i6, i7, i8, i9, ⟨e1, e2⟩, ⟨m1, m2⟩, ⟨p1, p2⟩⟩ := h
  unfold readMsg msgT at h0 ⊢
  rw [rVar_var1 m.kd _ i1.1 i1.2] at h0 ⊢
  dsimp only at h0 ⊢
  rw [rVar_var1 m.frm _ i2.1 i2.2] at h0 ⊢
  dsimp only at h0 ⊢
  rw [rVar_var1 m.dst _ i3.1 i3.2] at h0 ⊢
  dsimp only at h0 ⊢
  rw [rVar_var1 m.tm _ i4.1 i4.2] at h0 ⊢
  dsimp only at h0 ⊢
  rw [rVar_var1 m.ix _ i5.1 i5.2] at h0 ⊢
  dsimp only at h0 ⊢
  rw [rVar_var1 m.lt _ i6.1 i6.2] at h0 ⊢
  dsimp only at h0 ⊢
  rw [rVar_var1 m.cm _ i7.1 i7.2] at h0 ⊢
  dsimp only at h0 ⊢
  rw [rVar_var1 m.rd _ i8.1 i8.2] at h0 ⊢
  dsimp only at h0 ⊢
  rw [rBool_boolM] at h0 ⊢
  dsimp only at h0 ⊢
  rw [rBool_boolM] at h0 ⊢
  dsimp only at h0 ⊢
  rw [readTail_put m.es m.ms m.off m.ps e1 e2 m1 m2 i9 p1 p2 h0]
/-- What Get answers. -/
def getMsgV (l : List UInt8) : MsgV × Int :=
  if l.head? ≠ some 109 then (msg00, 4)
  else if l.length < 5 then (msg00, 5)
  else if unfixB (l.drop (l.length - 4)) ≠ crc (l.take (l.length - 4)) then (msg00, 6)
  else if rEnd (readMsg ((l.take (l.length - 4)).drop 1, 0)).2 ≠ 0 then (msg00, rEnd (readMsg ((l.take (l.length - 4)).drop 1, 0)).2)
  else ((readMsg ((l.take (l.length - 4)).drop 1, 0)).1, 0)
theorem putMsgB_parts (m : MsgV) : (putMsgB m).length = (msgB m).length + 4 ∧ (putMsgB m).take (msgB m).length = msgB m ∧ (putMsgB m).drop (msgB m).length = fixB (crc (msgB m)) 4 := by
  unfold putMsgB
  refine ⟨by rw [List.length_append, fixB_len], ?_, ?_⟩
  · rw [List.take_left']; rfl
  · rw [List.drop_left']; rfl
theorem crc_lt (l : List UInt8) : crc l < 256 ^ 4 := by unfold crc; omega
theorem getMsg_put (m : MsgV) (h : MsgOk m) (h0 : (getMsgV (putMsgB m)).2 = 0) : (getMsgV (putMsgB m)).1 = m := by
  obtain ⟨q1, q2, q3⟩ := putMsgB_parts m
  have q4 : (putMsgB m).length - 4 = (msgB m).length := by omega
  have q5 : 0 < (msgB m).length := by unfold msgB; simp
  have hh : (putMsgB m).head? = some 109 := by unfold putMsgB msgB; rfl
  unfold getMsgV at h0 ⊢
  rw [if_neg (by rw [hh]; simp), if_neg (by omega), q4, q2, q3, unfix_fix, Nat.mod_eq_of_lt (crc_lt _), if_neg (by simp)] at h0 ⊢
  have hd : (msgB m).drop 1 = msgT m := rfl
  rw [hd] at h0 ⊢
  by_cases he : rEnd (readMsg (msgT m, 0)).2 ≠ 0
  · rw [if_pos he] at h0
    exact absurd h0 he
  · rw [if_neg he]
    have h2 : (readMsg (msgT m, 0)).2.2 = 0 := by
      by_cases hx : (readMsg (msgT m, 0)).2.2 = 0
      · exact hx
      · exfalso; apply he; unfold rEnd; rw [if_pos hx]; exact hx
    rw [readMsg_put m h h2]
/-- A byte that is changed is seen. -/
theorem unfixB_changed : ∀ (l k : List UInt8) (a b : UInt8), a ≠ b → unfixB (l ++ a :: k) ≠ unfixB (l ++ b :: k) := by
  intro l k a b hab h
  rw [unfixB_append, unfixB_append] at h
  have h2 : 256 ^ l.length * unfixB (a :: k) = 256 ^ l.length * unfixB (b :: k) := by omega
  have h3 := Nat.eq_of_mul_eq_mul_left (Nat.pow_pos (by omega)) h2
  unfold unfixB at h3
  apply hab
  have ha := a.toNat_lt
  have hb := b.toNat_lt
  have : a.toNat = b.toNat := by omega
  exact UInt8.toNat_inj.1 this
theorem set_parts (l : List UInt8) (i : Nat) (b : UInt8) (h : i < l.length) : l.set i b = l.take i ++ b :: l.drop (i + 1) ∧ l = l.take i ++ l[i] :: l.drop (i + 1) := by
  refine ⟨?_, ?_⟩
  · rw [List.set_eq_take_append_cons_drop, if_pos h]
  · rw [← List.drop_eq_getElem_cons h, List.take_append_drop]
theorem getMsg_changed (m : MsgV) (i : Nat) (b : UInt8) (hi : i < (putMsgB m).length) (hb : b ≠ (putMsgB m)[i]) : (getMsgV ((putMsgB m).set i b)).2 ≠ 0 := by
  obtain ⟨q1, q2, q3⟩ := putMsgB_parts m
  have q5 : 0 < (msgB m).length := by unfold msgB; simp
  have hl : ((putMsgB m).set i b).length = (putMsgB m).length := List.length_set
  have hh : (putMsgB m).head? = some 109 := by unfold putMsgB msgB; rfl
  unfold getMsgV
  by_cases c0 : ((putMsgB m).set i b).head? ≠ some 109
  · rw [if_pos c0]; show (4 : Int) ≠ 0; decide
  · rw [if_neg c0, hl, if_neg (by omega)]
    have q4 : (putMsgB m).length - 4 = (msgB m).length := by omega
    have hi0 : 0 < i := by
      rcases Nat.eq_zero_or_pos i with h | h
      · exfalso
        subst h
        obtain ⟨s1, s2⟩ := set_parts (putMsgB m) 0 b hi
        have g1 : ((putMsgB m).set 0 b).head? = some b := by rw [s1]; rfl
        have g2 : (putMsgB m).head? = some (putMsgB m)[0] := by rw [List.head?_eq_getElem?, List.getElem?_eq_getElem hi]
        rw [hh] at g2
        injection g2 with g2
        apply c0
        rw [g1]
        intro e
        injection e with e
        exact hb (e.trans g2)
      · exact h
    rw [q4]
    have key : unfixB (((putMsgB m).set i b).drop (msgB m).length) ≠ crc (((putMsgB m).set i b).take (msgB m).length) := by
      by_cases hk : i < (msgB m).length
      · have t1 : ((putMsgB m).set i b).drop (msgB m).length = fixB (crc (msgB m)) 4 := by rw [List.drop_set_of_lt hk, q3]
        have t2 : ((putMsgB m).set i b).take (msgB m).length = (msgB m).set i b := by rw [List.take_set, q2]
        rw [t1, t2, unfix_fix, Nat.mod_eq_of_lt (crc_lt _)]
        obtain ⟨s1, s2⟩ := set_parts (msgB m) i b hk
        have hx : (putMsgB m)[i] = (msgB m)[i] := by
          have : (putMsgB m)[i]? = (msgB m)[i]? := by unfold putMsgB; rw [List.getElem?_append_left hk]
          rw [List.getElem?_eq_getElem hi, List.getElem?_eq_getElem hk] at this
          injection this
        rw [hx] at hb
        rw [s1]
        intro e
        exact crc_changed ((msgB m).take i) ((msgB m).drop (i + 1)) (msgB m)[i] b (fun h => hb h.symm) (by rw [← s2]; exact e)
      · have hk' : (msgB m).length ≤ i := by omega
        have t2 : ((putMsgB m).set i b).take (msgB m).length = msgB m := by rw [List.take_set_of_le hk', q2]
        have t1 : ((putMsgB m).set i b).drop (msgB m).length = (fixB (crc (msgB m)) 4).set (i - (msgB m).length) b := by rw [List.drop_set, if_neg (by omega), q3]
        have hj : i - (msgB m).length < (fixB (crc (msgB m)) 4).length := by rw [fixB_len]; omega
        rw [t1, t2]
        obtain ⟨s1, s2⟩ := set_parts (fixB (crc (msgB m)) 4) (i - (msgB m).length) b hj
        have hx : (putMsgB m)[i] = (fixB (crc (msgB m)) 4)[i - (msgB m).length] := by
          have : (putMsgB m)[i]? = (fixB (crc (msgB m)) 4)[i - (msgB m).length]? := by unfold putMsgB; rw [List.getElem?_append_right hk']
          rw [List.getElem?_eq_getElem hi, List.getElem?_eq_getElem hj] at this
          injection this
        rw [hx] at hb
        have hu := unfix_fix (crc (msgB m)) 4
        rw [Nat.mod_eq_of_lt (crc_lt _)] at hu
        rw [s1]
        intro e
        refine unfixB_changed _ _ _ _ hb (e.trans ?_)
        rw [← s2]
        exact hu.symm
    rw [if_pos key]
    show (6 : Int) ≠ 0
    decide
end Go.Proofs.Ytmdidmllaldbaaa
