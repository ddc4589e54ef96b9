/- The walk of arboretumlaw8.LeafSets. -/
import Derived.Test.YtopefaeemkemiaaSetsPI
import Derived.Test.YtopefaeemkemiaaSmallI
import Derived.Test.YtopefaeemkemiaaSameI
import Derived.Laws.StructEq
import Derived.IntWalk
namespace Go.Proofs.Ytopefaeemkemiaa
open Go.RowKit
set_option linter.unusedVariables false
/-- A list along the walk, built of items of l. -/
structure Kept (w : World) (ao : Option Addr) (n : Nat) (L part : List Itm) : Prop where
  itms : Itms w w.heap.size ao n L
  nil_ : ao = none → n = 0
  rise : RisingI L
  has : ∀ key, hasK L key ↔ hasK part key
  mem : ∀ e ∈ L, e ∈ part
theorem Kept.below {w w' : World} {ao : Option Addr} {n : Nat} {L part : List Itm} (h : Kept w ao n L part) (hb : Below w.heap.size w w') : Kept w' ao n L part :=
  ⟨(h.itms.below hb).mono hb.size, h.nil_, h.rise, h.has, h.mem⟩
theorem Kept.start (w : World) : Kept w none 0 [] [] := ⟨Itms.nil_ _ _ _, fun _ => rfl, fun j a b ha hb => (by cases ha), fun key => Iff.rfl, fun e he => (by cases he)⟩
/-- One more is put in. -/
theorem Kept.set {w : World} {ao : Option Addr} {n c : Nat} {L part : List Itm} (h : Kept w ao n L part) (hn : n ≤ 1000) (x : Itm) (part2 : List Itm) (hp : ∀ e, e ∈ part2 ↔ (e = x ∨ e ∈ part)) :
    Calls Try.prog 14 #[.slice ao n c, .agg #[.string x.key, .string x.vl, .int .i64 x.ov, .int .i64 x.sz]] w fun e w' => ∃ (k N : Nat) (ao' : Option Addr) (c' : Nat) (L' : List Itm), e = .returned (.slice ao' N c') ∧ N ≤ c' ∧ c' ≤ 9223372036854775807 ∧ N ≤ n + 1 ∧ L'[k]? = some x ∧ Kept w' ao' N L' part2 ∧ Below w.heap.size w w' := by
  refine (setI_any (c := c) h.itms h.nil_ (by omega) x).mono ?_
  rintro e w' ⟨k, is, N, ao', cap, hf, hN, he, ho, hb⟩
  have hsh := own_shape ho
  obtain ⟨ao2, cap2, hv, hnc, hnil, _⟩ := hsh
  injection hv with e1 _ e2
  subst e1 e2
  have hcap : cap ≤ 9223372036854775807 := by
    rcases ho.2 with ⟨hs, _⟩ | ⟨g', c', cur, hs, _, _, _, hm, _⟩
    · injection hs; omega
    · injection hs with _ _ hc; unfold maxLen at hm; omega
  refine ⟨k, N, ao', cap, setI L k is x, he, hnc, hcap, ?_, setI_at hf, ⟨itms_own ho, fun h => (hnil h).1, setI_rising h.rise hf, fun key => ?_, fun e he => ?_⟩, hb⟩
  · have := setI_len (x := x) hf
    have hl := h.itms.1
    split at this <;> omega
  · rw [setI_has hf, h.has]
    constructor
    · rintro (rfl | ⟨e, he, rfl⟩)
      · exact ⟨x, (hp x).2 (.inl rfl), rfl⟩
      · exact ⟨e, (hp e).2 (.inr he), rfl⟩
    · rintro ⟨e, he, rfl⟩
      rcases (hp e).1 he with rfl | he
      · exact .inl rfl
      · exact .inr ⟨e, he, rfl⟩
  · rcases setI_mem he with rfl | he
    · exact (hp e).2 (.inl rfl)
    · exact (hp e).2 (.inr (h.mem e he))
theorem mem_take_succ (l : List Itm) (k : Nat) (x : Itm) (h : l[k]? = some x) (e : Itm) : e ∈ l.take (k + 1) ↔ (e = x ∨ e ∈ l.take k) := by
  have : l.take (k + 1) = l.take k ++ [x] := by rw [List.take_add_one, h]; rfl
  rw [this, List.mem_append]
  constructor
  · rintro (h | h)
    · exact .inr h
    · exact .inl (by simpa using h)
  · rintro (h | h)
    · exact .inr (by simpa using h)
    · exact .inl h
theorem mem_drop_pred (l : List Itm) (j : Nat) (x : Itm) (h : l[j]? = some x) (e : Itm) : e ∈ l.drop j ↔ (e = x ∨ e ∈ l.drop (j + 1)) := by
  have hj := (List.getElem?_eq_some_iff.1 h).1
  rw [List.drop_eq_getElem_cons hj, List.mem_cons, (List.getElem?_eq_some_iff.1 h).2]
set_option maxRecDepth 100000 in
set_option maxHeartbeats 16000000 in
theorem walk_LeafSets {w : World} (ao : Option Addr) (n c : Nat) (h0 : ∃ l, ItmsIn w ao n c l) (key : ByteArray) (hk : key.size ≤ maxLen) :
    Calls Try.prog 6 #[.slice ao n c, .string key] w fun e w' => e = .returned (.bool true) ∧ Below w.heap.size w w' := by
  obtain ⟨l, hE⟩ := h0
  unfold maxLen at hk
  have HSm := Lib.hid (smallI_any hE)
  have HE := Lib.hid hE
  have HLn := Lib.hid hE.itms.1
  have hn9 : n ≤ 9223372036854775807 := by have := hE.sz; have := hE.le; omega
  clear hE
  go_enter Try.func6, Try.ntmps6
  go_wp2_with fail
  refine HSm.out.mono ?_
  rintro e w1 ⟨r1, rfl, hr1, hb1⟩
  clear HSm
  cases r1 with
  | false =>
    clear hr1
    go_wp2_with fail
    refine (aliveI_any _).mono ?_
    rintro e wa ⟨rfl, hba⟩
    go_wp2_with fail
    go_ret
    exact ⟨rfl, hb1.trans (hba.mono hb1.size)⟩
  | true =>
  clear hr1
  by_cases hn30 : 30 < n
  · have d3 : decide (30 < (n : Int)) = true := by simp <;> omega
    go_wp2_with fail
    refine (aliveI_any _).mono ?_
    rintro e wa ⟨rfl, hba⟩
    go_wp2_with fail
    go_ret
    exact ⟨rfl, hb1.trans (hba.mono hb1.size)⟩
  have d3 : decide (30 < (n : Int)) = false := by simp <;> omega
  by_cases hk3 : 300 < key.size
  · have d4 : decide (300 < (key.size : Int)) = true := by simp <;> omega
    go_wp2_with fail
    refine (aliveI_any _).mono ?_
    rintro e wa ⟨rfl, hba⟩
    go_wp2_with fail
    go_ret
    exact ⟨rfl, hb1.trans (hba.mono hb1.size)⟩
  have d4 : decide (300 < (key.size : Int)) = false := by simp <;> omega
  have HB1 := Lib.hid hb1
  clear hb1
  go_wp2_with fail
  go_loopw [5, 6, 7] (fun a b i wr => ∃ (k Na : Nat) (ma : Option Addr) (ca : Nat) (La : List Itm) (Nb : Nat) (mb : Option Addr) (cb : Nat) (Lb : List Itm), k ≤ n ∧ i = .int .i64 k ∧ a = .slice ma Na ca ∧ b = .slice mb Nb cb ∧ Na ≤ k ∧ Nb ≤ k ∧ Na ≤ ca ∧ Nb ≤ cb ∧ ca ≤ 9223372036854775807 ∧ cb ≤ 9223372036854775807 ∧ Hid (Kept wr ma Na La (l.take k)) ∧ Hid (Kept wr mb Nb Lb (l.drop (n - k))) ∧ Hid (Below w.heap.size w wr)) (fun _ _ i _ => n - (intOf i).toNat)
  case atStart => exact ⟨0, 0, none, 0, [], 0, none, 0, [], Nat.zero_le _, rfl, rfl, rfl, by omega, by omega, by omega, by omega, by omega, by omega, Lib.hid (Kept.start _), Lib.hid (by rw [Nat.sub_zero, List.drop_eq_nil_of_le (by rw [HLn.out]; omega)]; exact Kept.start _), HB1⟩
  case round =>
    obtain ⟨k, Na, ma, ca, La, Nb, mb, cb, Lb, hkn, rfl, rfl, rfl, hNa, hNb, hca, hcb, hca9, hcb9, HA, HBb, HB⟩ := hrel
    by_cases hlt : k < n
    · obtain ⟨b, o, x, rfl, hbB, hek, h1, h2, h3, h4⟩ := (HE.out.itms.below HB.out).get hlt
      obtain ⟨j, hj⟩ : ∃ j, j + 1 + k = n := ⟨n - 1 - k, by omega⟩
      have hx1 : (0 : Int) ≤ k := by omega
      have hx2 : (k : Int) < n := by omega
      have HSa := Lib.hid (HA.out.set (c := ca) (by omega) x (l.take (k + 1)) (mem_take_succ l k x hek))
      have HEk := Lib.hid hek
      clear hek
      go_wp2_with fail
      refine HSa.out.mono ?_
      rintro e w2 ⟨q, N2, m2, c2, L2, rfl, hc2, hc29, hN2, hq, hk2, hb2⟩
      have HB2 := Lib.hid (HB.out.trans (hb2.mono HB.out.size))
      have HA2 := Lib.hid hk2
      have hb3 := HBb.out.below hb2
      obtain ⟨b', o', y, hbe, hbB', hey, s1, s2, s3, s4⟩ := (HE.out.itms.below HB2.out).get (k := j) (by omega)
      obtain ⟨rfl, rfl⟩ : b' = b ∧ o' = o := by injection hbe with h; injection h with h1 h2; exact ⟨h1.symm, h2.symm⟩
      have HSb := Lib.hid (hb3.set (c := cb) (by omega) y (l.drop (n - (k + 1))) (fun e => by
        have := mem_drop_pred l j y hey e
        rw [show n - (k + 1) = j from by omega, show n - k = j + 1 from by omega]
        exact this))
      have HQ := Lib.hid hq
      have z1 : (n : Int) - 1 - k = j := by omega
      have z2 : IntKind.i64.wrap (j : Int) = j := IntWalk.i64_in _ (by omega)
      have z3 : (0 : Int) ≤ j := by omega
      have z4 : (j : Int) < n := by omega
      have z5 : IntKind.i64.wrap ((n : Int) - 1) = (n : Int) - 1 := IntWalk.i64_in _ (by omega)
      have z6 : IntKind.i64.wrap ((n : Int) - 1 - k) = j := by rw [z1]; exact z2
      clear hb2 hk2 hb3 hbe hey HSa HA HBb h1 h2 h3 h4 hq hj
      go_wp2_with fail
      refine HSb.out.mono ?_
      rintro e w3 ⟨q', N3, m3, c3, L3, rfl, hc3, hc39, hN3, -, hk3', hb3⟩
      have HB3 := Lib.hid (HB2.out.trans (hb3.mono HB2.out.size))
      have HA3 := Lib.hid (HA2.out.below hb3)
      have HBb3 := Lib.hid hk3'
      obtain ⟨b2, o2, x2, hbe, hbB2, hex, t1, t2, t3, t4⟩ := (HE.out.itms.below HB3.out).get (k := k) hlt
      obtain ⟨rfl, rfl⟩ : b2 = b' ∧ o2 = o' := by injection hbe with h; injection h with h1 h2; exact ⟨h1.symm, h2.symm⟩
      rw [HEk.out] at hex
      injection hex with hex
      subst hex
      have HFi : Hid (Calls Try.prog 10 #[.slice m2 N2 c2, .string x.key] w3 fun e w' => e = .returned (.tuple #[.int .i64 q, .bool true]) ∧ Below w3.heap.size w3 w') := Lib.hid (by
        refine (findI_any (c := c2) HA3.out.itms (by omega) x.key).mono ?_
        rintro e w' ⟨k', is', he, hk', hb⟩
        obtain ⟨rfl, rfl⟩ := findOkI_own HA3.out.rise HQ.out hk'
        exact ⟨he, hb⟩)
      have hqN : q < N2 := by have := (List.getElem?_eq_some_iff.1 HQ.out).1; have := HA3.out.itms.1; omega
      clear hb3 hk3' hbe s1 s2 s3 s4 HSb HA2 HB2
      go_wp2_with fail
      refine HFi.out.mono ?_
      rintro e w4 ⟨rfl, hb4⟩
      have HB4 := Lib.hid (HB3.out.trans (hb4.mono HB3.out.size))
      have HA4 := Lib.hid (HA3.out.below hb4)
      have HBb4 := Lib.hid (HBb3.out.below hb4)
      obtain ⟨b3, o3, x3, hbe, hbB3, hex, u1, u2, u3, u4⟩ := (HE.out.itms.below HB4.out).get (k := k) hlt
      obtain ⟨rfl, rfl⟩ : b3 = b2 ∧ o3 = o2 := by injection hbe with h; injection h with h1 h2; exact ⟨h1.symm, h2.symm⟩
      rw [HEk.out] at hex
      injection hex with hex
      subst hex
      obtain ⟨ga, oa, xa, rfl, hgB, hea, v1, v2, v3, v4⟩ := HA4.out.itms.get (k := q) hqN
      rw [HQ.out] at hea
      injection hea with hea
      subst hea
      have y1 : (0 : Int) ≤ q := by omega
      have y2 : (q : Int) < N2 := by omega
      have y3 : decide ((N2 : Int) ≤ q) = false := by simp; omega
      have y4 : decide (N2 ≤ q) = false := by simp; omega
      clear hb4 hbe HFi t1 t2 t3 t4 HA3 HBb3 HB3
      go_wp2_with fail
      go_quiet (fail)
      go_wp2_with fail
      go_roundw
      case rel => exact ⟨k + 1, N2, _, c2, L2, N3, m3, c3, L3, by omega, by go_num, rfl, rfl, by omega, by omega, hc2, hc3, hc29, hc39, Lib.hid (HA4.out.below (below_drewN (Below.refl _ _) _)), Lib.hid (HBb4.out.below (below_drewN (Below.refl _ _) _)), Lib.hid (below_drewN HB4.out _)⟩
      case measure => simp [intOf]; omega
    · obtain rfl : k = n := by omega
      have hta : l.take k = l := List.take_of_length_le (by rw [HLn.out]; omega)
      have hda : l.drop (k - k) = l := by rw [Nat.sub_self]; rfl
      have hkA := HA.out
      have hkB := HBb.out
      rw [hta] at hkA
      rw [hda] at hkB
      have hsame := rising_same La Lb hkA.rise hkB.rise (fun key => (hkA.has key).trans (hkB.has key).symm)
      have hlen : La.length = Lb.length := by have := congrArg List.length hsame; simpa using this
      have hNN : Na = Nb := by have := hkA.itms.1; have := hkB.itms.1; omega
      subst hNN
      have HKA := Lib.hid hkA
      have HKB := Lib.hid hkB
      have HSame := Lib.hid hsame
      have HOk : Hid (∀ e ∈ La, ItmOk e) := Lib.hid (fun e he => HE.out.ok e (hkA.mem e he))
      have hri := risesI_any (c := ca) hkA.itms (fun e he => (HOk.out e he).2.2.1) (by omega)
      have HRi := Lib.hid hri
      clear hta hda hkA hkB hsame hlen HA HBb hri
      go_wp2_with fail
      refine HRi.out.mono ?_
      rintro e w2 ⟨r, rfl, hr, m2, rfl⟩
      have hrt : r = true := hr.2 HKA.out.rise
      subst hrt
      have hbd : Below wr.heap.size wr (wr.drewN m2) := below_drewN (Below.refl _ _) _
      obtain ⟨w2, hw2⟩ : ∃ w2, w2 = wr.drewN m2 := ⟨_, rfl⟩
      rw [← hw2] at hbd ⊢
      have HB2 := Lib.hid (HB.out.trans (hbd.mono HB.out.size))
      have HA2 := Lib.hid (HKA.out.below hbd)
      have HBb2 := Lib.hid (HKB.out.below hbd)
      clear hw2 hbd hr HRi HKA HKB
      go_wp2_with fail
      go_loopw [10] (fun i wr => ∃ j : Nat, j ≤ Na ∧ i = .int .i64 j ∧ ∃ p, wr = w2.drewN p) (fun i _ => Na - (intOf i).toNat)
      case atStart => exact ⟨0, Nat.zero_le _, rfl, 0, rfl⟩
      case round =>
        obtain ⟨j, hjn, rfl, p, rfl⟩ := hrel
        by_cases hjl : j < Na
        · obtain ⟨ga, oa, xa, rfl, hgB, hea, v1, -, -, -⟩ := HA2.out.itms.get (k := j) hjl
          obtain ⟨gb, ob, xb, rfl, hgB', heb, u1, -, -, -⟩ := HBb2.out.itms.get (k := j) hjl
          have hkk : xa.key = xb.key := by
            have h1 : (La.map (·.key))[j]? = some xa.key := by rw [List.getElem?_map, hea]; rfl
            have h2 : (Lb.map (·.key))[j]? = some xb.key := by rw [List.getElem?_map, heb]; rfl
            rw [HSame.out, h2] at h1
            injection h1 with h1
            exact h1.symm
          rw [← hkk] at u1
          have y1 : (0 : Int) ≤ j := by omega
          have y2 : (j : Int) < Na := by omega
          have y3 : (xa.key.toList != xa.key.toList) = false := by simp
          clear hea heb hkk
          go_wp2_with fail
          go_quiet (fail)
          go_wp2_with fail
          go_roundw
          case rel => exact ⟨j + 1, by omega, by go_num, _, rfl⟩
          case measure => simp [intOf]; omega
        · have hbp : Below w2.heap.size w2 (w2.drewN p) := below_drewN (Below.refl _ _) _
          obtain ⟨w3, hw3⟩ : ∃ w3, w3 = w2.drewN p := ⟨_, rfl⟩
          rw [← hw3] at hbp ⊢
          have HB3 := Lib.hid (HB2.out.trans (hbp.mono HB2.out.size))
          have HA3 := Lib.hid (HA2.out.below hbp)
          clear hw3 hbp HA2 HBb2 HB2 HSame
          have HDc := Lib.hid (delF_any (c := ca) HA3.out.itms HA3.out.nil_ (by omega) key)
          have HFa : Hid (∀ W, Below w3.heap.size w3 W → Calls Try.prog 10 #[.slice ma Na ca, .string key] W (FindIRes La key W)) := Lib.hid (fun W hW => findI_any (c := ca) (HA3.out.below hW).itms (by omega) key)
          go_wp2_with fail
          refine HDc.out.mono ?_
          rintro e w4 ⟨kf, is, Nc, co, cc, hf, hNc, rfl, hoc, hb4⟩
          have HF := Lib.hid hf
          have hcl := takeI_len hf
          have HRc := Lib.hid (takeI_rising HA3.out.rise kf is)
          have HNt := Lib.hid (takeI_hasnt HA3.out.rise hf)
          obtain ⟨C, hC⟩ : ∃ C, C = takeI La kf is := ⟨_, rfl⟩
          rw [← hC] at hNc hoc hcl HRc HNt
          have HCm : Hid (∀ e ∈ C, e ∈ La) := Lib.hid (fun e he => takeI_mem (by rw [hC] at he; exact he))
          have hnilc : co = none → Nc = 0 := by
            obtain ⟨_, _, e1, _, h5, _⟩ := own_shape hoc
            injection e1 with e1 _ _
            subst e1
            exact fun h => (h5 h).1
          have hIc : ∀ W, Below w4.heap.size w4 W → Itms W W.heap.size co Nc C := fun W hW => ((itms_own hoc).below hW).mono hW.size
          have HIc := Lib.hid hIc
          have hla : La.length = Na := HA3.out.itms.1
          rw [hla, ← hNc] at hcl
          have hNcl : Nc ≤ Na := by split at hcl <;> omega
          have hpos : is = true → 0 < Na := fun h => by
            obtain ⟨e, he, _⟩ := hf.2.2.2.1 h
            have := (List.getElem?_eq_some_iff.1 he).1
            omega
          have HFx := Lib.hid (HFa.out w4 hb4)
          have HB4 := Lib.hid hb4
          have HNil := Lib.hid hnilc
          have HCl := Lib.hid hcl
          have HPos := Lib.hid hpos
          clear hcl hpos
          clear hf hC hNc hoc hIc hla hb4 HDc HFa hnilc
          go_wp2_with fail
          refine HFx.out.mono ?_
          rintro e w5 ⟨k2, is2, rfl, hf2, hb5⟩
          obtain ⟨rfl, rfl⟩ := findOkI_one HA3.out.rise HF.out hf2
          have HB5 := Lib.hid hb5
          have HFc := Lib.hid (findI_any (c := cc) (HIc.out w5 hb5) (by omega) key)
          clear hf2 hb5 HFx
          go_wp2_with fail
          refine HFc.out.mono ?_
          rintro e w6 ⟨k3, is3, rfl, hf3, hb6⟩
          have h3 : is3 = false := by
            cases is3 with
            | false => rfl
            | true => exact absurd ((hasK_find HRc.out hf3).2 rfl) HNt.out
          subst h3
          have HB6 := Lib.hid (HB5.out.trans (hb6.mono HB5.out.size))
          have HF3 := Lib.hid hf3
          have HDd := Lib.hid (delF_any (c := cc) (HIc.out w6 HB6.out) HNil.out (by omega) key)
          clear hf3 hb6 HFc HB5
          go_wp2_with fail
          refine HDd.out.mono ?_
          rintro e w7 ⟨k4, is4, Nd, dO, dc, hf4, hNd, rfl, hod, hb7⟩
          obtain ⟨rfl, rfl⟩ := findOkI_one HRc.out HF3.out hf4
          have htk : takeI C k3 false = C := rfl
          rw [htk] at hNd hod
          have hcn : C.length = Nc := (HIc.out w6 HB6.out).1
          rw [hcn] at hNd
          subst hNd
          have HB7 := Lib.hid (HB6.out.trans (hb7.mono HB6.out.size))
          have HSm : Hid (∀ W, Below w7.heap.size w7 W → Calls Try.prog 13 #[.slice co Nd cc, .slice dO Nd dc] W fun e w' => e = .returned (.bool true) ∧ Below W.heap.size W w') := Lib.hid (fun W hW => sameI_yes (c := cc) (d := dc) (HIc.out W (HB7.out.trans (hW.mono HB7.out.size))) (((itms_own hod).below hW).mono hW.size) (by omega))
          have HBz := Lib.hid (HB3.out.trans ((HB4.out.trans (HB7.out.mono HB4.out.size)).mono HB3.out.size))
          clear hf4 hod hb7 htk hcn HDd HB6 HF HF3 HRc HNt HCm HA3 HIc
          cases is with
          | true =>
            have hp := HPos.out rfl
            have hcl := HCl.out
            rw [if_pos rfl] at hcl
            have e1 : ((Nd : Int) == (Na : Int) - 1) = true := by simp; omega
            clear hcl
            go_wp2_with fail
            refine (aliveI_any _).mono ?_
            rintro e wa ⟨rfl, hba⟩
            have HX := Lib.hid (HSm.out wa hba)
            have HBa := Lib.hid hba
            clear hba HSm
            go_wp2_with fail
            refine HX.out.mono ?_
            rintro e w9 ⟨rfl, hb9⟩
            go_wp2_with fail
            go_ret
            exact ⟨rfl, HBz.out.trans ((HBa.out.trans (hb9.mono HBa.out.size)).mono HBz.out.size)⟩
          | false =>
            have hcl := HCl.out
            rw [if_neg (by decide)] at hcl
            have e1 : ((Nd : Int) == (Na : Int) - 1) = false := by simp; omega
            have e2 : ((Nd : Int) == (Na : Int)) = true := by simp; omega
            clear hcl
            go_wp2_with fail
            refine (aliveI_any _).mono ?_
            rintro e wa ⟨rfl, hba⟩
            have HX := Lib.hid (HSm.out wa hba)
            have HBa := Lib.hid hba
            clear hba HSm
            go_wp2_with fail
            refine HX.out.mono ?_
            rintro e w9 ⟨rfl, hb9⟩
            go_wp2_with fail
            go_ret
            exact ⟨rfl, HBz.out.trans ((HBa.out.trans (hb9.mono HBa.out.size)).mono HBz.out.size)⟩
end Go.Proofs.Ytopefaeemkemiaa
