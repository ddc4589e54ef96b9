/- The walk of arboretumlaw18.LogMembers. -/
import Derived.Test.YticlkfdcocdmaaaAliveL
import Derived.Test.YticlkfdcocdmaaaLogMemP
import Derived.Test.YticlkfdcocdmaaaSame
import Derived.Test.YticlkfdcocdmaaaEntM
namespace Go.Proofs.Yticlkfdcocdmaaa
open Go.ChangeShapes Go.WideShapes Go.ChangeAt Go.RowKit
set_option linter.unusedVariables false
theorem rowInts {w : World} {base : Nat} {t : TypeId} {ao : Option Addr} {n cap : Nat} {l : List Int} (h : w.ownsRow base t 1 (.slice ao n cap) n (l.map (Value.int .i64))) (hl : l.length = n) (hv : ∀ v ∈ l, -9223372036854775808 ≤ v ∧ v ≤ 9223372036854775807) : IntsOf w ao n l :=
  ⟨hl, hv, fun hn => by
    obtain ⟨g, cap', hv', hb, hlt⟩ := h.form hn
    injection hv' with hv' _ _
    subst hv'
    refine ⟨g, 0, rfl, hlt, fun k v hk => ?_⟩
    have hkl : k < l.length := (List.getElem?_eq_some_iff.1 hk).1
    rw [Nat.zero_add, h.cellAt k (by omega), List.getElem?_map, hk]
    rfl⟩
theorem newZ (W : World) : Calls Try.prog 11 #[.int .i64 0, .int .i64 0, .slice none 0 0] W (NewRes 0 0 [] W) :=
  new_good 0 0 none 0 0 [] W (Ents.nil_ _ _ _) (by omega) (fun _ => rfl) (by simp) (by omega) (by omega) rfl
section
variable {w0 W : World} {B b : Nat} {p q : ByteArray}
theorem Stan.add1 (h : Stan w0 W B b log0) : Calls Try.prog 18 #[.pointer (some ⟨b, 0, none⟩), .int .i64 1, .int .i64 0, .string ⟨#[]⟩] W fun e w' => e = .returned (.int .i64 1) ∧ Stan w0 w' B b log1 := by
  refine (add_any h.1 1 0 ⟨#[]⟩ (by decide) h.2.2 (by show (0 + 1) * 40 ≤ _; omega) (by decide) (by decide)).mono ?_
  rintro e w' ⟨he, hl, hb⟩
  exact ⟨he, hl, h.2.1.trans hb, Nat.le_trans h.2.2 hb.size⟩
theorem Stan.add2 (h : Stan w0 W B b log1) (hp : p.size ≤ 281474976710656) : Calls Try.prog 18 #[.pointer (some ⟨b, 0, none⟩), .int .i64 1, .int .i64 2, .string p] W fun e w' => e = .returned (.int .i64 2) ∧ Stan w0 w' B b (log2 p) := by
  refine (add_any h.1 1 2 p hp h.2.2 (by show (1 + 1) * 40 ≤ _; omega) (by decide) (by decide)).mono ?_
  rintro e w' ⟨he, hl, hb⟩
  exact ⟨he, hl, h.2.1.trans hb, Nat.le_trans h.2.2 hb.size⟩
theorem Stan.add3 (h : Stan w0 W B b (log2 p)) (hq : q.size ≤ 281474976710656) : Calls Try.prog 18 #[.pointer (some ⟨b, 0, none⟩), .int .i64 2, .int .i64 1, .string q] W fun e w' => e = .returned (.int .i64 3) ∧ Stan w0 w' B b (log3 p q) := by
  have hl : (lastV (log2 p)).1 = 2 := rfl
  refine (add_any h.1 2 1 q hq h.2.2 (by show (2 + 1) * 40 ≤ _; omega) (by rw [hl]; decide) (by rw [hl]; decide)).mono ?_
  rintro e w' ⟨he, hl, hb⟩
  exact ⟨he, hl, h.2.1.trans hb, Nat.le_trans h.2.2 hb.size⟩
theorem Stan.add4 (h : Stan w0 W B b (log3 p q)) (hq : q.size ≤ 281474976710656) : Calls Try.prog 18 #[.pointer (some ⟨b, 0, none⟩), .int .i64 2, .int .i64 2, .string q] W fun e w' => e = .returned (.int .i64 4) ∧ Stan w0 w' B b (log4 p q) := by
  have hl : (lastV (log3 p q)).1 = 3 := rfl
  refine (add_any h.1 2 2 q hq h.2.2 (by show (3 + 1) * 40 ≤ _; omega) (by rw [hl]; decide) (by rw [hl]; decide)).mono ?_
  rintro e w' ⟨he, hl, hb⟩
  exact ⟨he, hl, h.2.1.trans hb, Nat.le_trans h.2.2 hb.size⟩
/-- What Members answers along a walk: the members us, and the entry's place. -/
def MemAns (us : List Int) (N : Nat) (i : Int) (w0 : World) (B b : Nat) (x : LogV) (e : Ending) (w' : World) : Prop :=
  ∃ ao c, e = .returned (.tuple #[.slice ao N c, .int .i64 i]) ∧ IntsOf w' ao N us ∧ Stan w0 w' B b x
theorem Stan.memHit {x : LogV} {y : Ent} {us : List Int} {k : Nat} {to : Int} (h : Stan w0 W B b x) (hdt : ∀ e ∈ x.l, e.dt.size ≤ 281474976710656) (hlen : x.l.length ≤ 4) (hk : x.l[k]? = some y) (hy : hitE to y) (hno : ∀ j z, k < j → x.l[j]? = some z → ¬ hitE to z)
    (hu : (membersP y.dt.data.toList).1 = us) (hv : ∀ v ∈ us, -9223372036854775808 ≤ v ∧ v ≤ 9223372036854775807) {N : Nat} (hN : us.length = N) :
    Calls Try.prog 23 #[.pointer (some ⟨b, 0, none⟩), .int .i64 to] W (MemAns us N y.ix w0 B b x) := by
  refine (members_any h.1 to hdt (by omega)).mono ?_
  intro e w' hr
  obtain ⟨hb, ao, N', c, he, ho, hl⟩ := hr.hit k y hk hy hno
  rw [hu] at ho hl
  obtain rfl : N' = N := hl.symm.trans hN
  exact ⟨ao, c, he, rowInts ho hl hv, h.step hb⟩
theorem Stan.memNo {x : LogV} {to : Int} (h : Stan w0 W B b x) (hdt : ∀ e ∈ x.l, e.dt.size ≤ 281474976710656) (hlen : x.l.length ≤ 4) (hno : ∀ y ∈ x.l, ¬ hitE to y) :
    Calls Try.prog 23 #[.pointer (some ⟨b, 0, none⟩), .int .i64 to] W fun e w' => e = .returned (.tuple #[.slice none 0 0, .int .i64 0]) ∧ Stan w0 w' B b x := by
  refine (members_any h.1 to hdt (by omega)).mono ?_
  intro e w' hr
  obtain ⟨hb, he⟩ := hr.none hno
  exact ⟨he, h.step hb⟩
theorem Stan.compact4 (h : Stan w0 W B b (log4 p q)) (at_ : Int) (hi : at_ ≤ 9223372036854775807) :
    Calls Try.prog 21 #[.pointer (some ⟨b, 0, none⟩), .int .i64 at_] W fun e w' => e = .returned (.bool (decide (0 ≤ at_ ∧ at_ ≤ 4))) ∧ Stan w0 w' B b (logK p q at_) := by
  have hC := compact_any h.1 h.2.2 at_ (by show (0 : Int) ≤ 0; omega) (by show (0 : Int) + (4 : Nat) ≤ _; omega) (by show 4 * 40 ≤ _; omega) hi
  rw [Go.Proofs.Yticlkfdcocdmaaa.compact4] at hC
  refine hC.mono ?_
  rintro e w' ⟨he, hl, hb⟩
  exact ⟨he, hl, h.2.1.trans hb, Nat.le_trans h.2.2 hb.size⟩
theorem Stan.last4 {at_ : Int} (h : Stan w0 W B b (logK p q at_)) : Calls Try.prog 14 #[.pointer (some ⟨b, 0, none⟩)] W fun e w' => ∃ u, e = .returned (.tuple #[.int .i64 4, .int .i64 u]) ∧ Stan w0 w' B b (logK p q at_) ∧ Below W.heap.size W w' := by
  have hL := last_any h.1
  rw [logK_last] at hL
  refine hL.mono ?_
  rintro e w' ⟨he, hb⟩
  exact ⟨_, he, h.step hb, hb⟩
end
set_option maxRecDepth 20000 in
set_option maxHeartbeats 8000000 in
theorem walk_LogMembers {w : World} (ao : Option Addr) (n c : Nat) (h0 : ∃ vs, IntsIn w ao n c vs) (bo : Option Addr) (m d : Nat) (h1 : ∃ us, IntsIn w bo m d us) (to : Int) (h2 : (Lit.int .i64 to).wf = true) (at_ : Int) (h3 : (Lit.int .i64 at_).wf = true) :
    Calls Try.prog 8 #[.slice ao n c, .slice bo m d, .int .i64 to, .int .i64 at_] w fun e w' => e = .returned (.bool true) ∧ Below w.heap.size w w' := by
  obtain ⟨vs, h0⟩ := h0
  obtain ⟨us, h1⟩ := h1
  have ht := i64_wf h2
  have ha := i64_wf h3
  have hnn : n ≤ 140737488351232 := by have := h0.sz; have := h0.le; omega
  have hmm : m ≤ 140737488351232 := by have := h1.sz; have := h1.le; omega
  have HV := Lib.hid h0.of
  have HU := Lib.hid h1.of
  have hln : vs.length = n := h0.len
  have hlm : us.length = m := h1.len
  have HVO := Lib.hid h0.ok
  have HUO := Lib.hid h1.ok
  clear h0 h1 h2 h3
  by_cases hbad : 9 < n ∨ 9 < m ∨ n = 0 ∨ m = 0
  · have hcases : decide ((9 : Int) < n) = true ∨ (decide ((9 : Int) < n) = false ∧ decide ((9 : Int) < m) = true) ∨ (decide ((9 : Int) < n) = false ∧ decide ((9 : Int) < m) = false ∧ ((n : Int) == 0) = true) ∨ (decide ((9 : Int) < n) = false ∧ decide ((9 : Int) < m) = false ∧ ((n : Int) == 0) = false ∧ ((m : Int) == 0) = true) := by
      simp only [decide_eq_true_eq, decide_eq_false_iff_not, beq_iff_eq, beq_eq_false_iff_ne, ne_eq]; omega
    clear hbad hln hlm ht ha
    rcases hcases with h1 | ⟨h1, h2⟩ | ⟨h1, h2, h3⟩ | ⟨h1, h2, h3, h4⟩
    all_goals
      go_enter Try.func8, Try.ntmps8
      go_wp2_with fail
      refine (alive_any _).mono ?_
      rintro e w1 ⟨rfl, hb1⟩
      go_wp2_with fail
      go_ret
      exact ⟨rfl, hb1⟩
  have g1 : decide ((9 : Int) < n) = false := by simp; omega
  have g2 : decide ((9 : Int) < m) = false := by simp; omega
  have g3 : ((n : Int) == 0) = false := by rw [beq_eq_false_iff_ne]; omega
  have g4 : ((m : Int) == 0) = false := by rw [beq_eq_false_iff_ne]; omega
  -- what is put and got again
  have hmp : membersP (memB vs) = if memsOk 0 vs then (vs, 0) else ([], 4) := by
    rw [membersP_put vs (by omega) HVO.out, if_pos (by omega), if_neg (by intro h; rw [h] at hln; simp at hln; omega)]
  have hmq : membersP (memB us) = if memsOk 0 us then (us, 0) else ([], 4) := by
    rw [membersP_put us (by omega) HUO.out, if_pos (by omega), if_neg (by intro h; rw [h] at hlm; simp at hlm; omega)]
  have hsp : (memB vs).length ≤ 2000 := by
    have h1 := var1_len (vs.length : Int)
    have h2 := vars_len vs
    unfold memB
    rw [List.length_append]
    omega
  have hsq : (memB us).length ≤ 2000 := by
    have h1 := var1_len (us.length : Int)
    have h2 := vars_len us
    unfold memB
    rw [List.length_append]
    omega
  obtain ⟨p, hp⟩ : ∃ p : ByteArray, p = ⟨(memB vs).toArray⟩ := ⟨_, rfl⟩
  obtain ⟨q, hq⟩ : ∃ q : ByteArray, q = ⟨(memB us).toArray⟩ := ⟨_, rfl⟩
  have hPl : p.data.toList = memB vs := by rw [hp]
  have hQl : q.data.toList = memB us := by rw [hq]
  have hps : p.size ≤ 281474976710656 := by rw [hp]; show (memB vs).toArray.size ≤ _; simp; omega
  have hqs : q.size ≤ 281474976710656 := by rw [hq]; show (memB us).toArray.size ≤ _; simp; omega
  have HPut : ∀ W, Below w.heap.size w W → Hid (Calls Try.prog 25 #[.slice ao n c] W fun e w' => e = .returned (.string p) ∧ Below W.heap.size W w') := fun W hb => Lib.hid (by rw [hp]; exact putMembers_any (HV.out.below hb) (by omega))
  have HQut : ∀ W, Below w.heap.size w W → Hid (Calls Try.prog 25 #[.slice bo m d] W fun e w' => e = .returned (.string q) ∧ Below W.heap.size W w') := fun W hb => Lib.hid (by rw [hq]; exact putMembers_any (HU.out.below hb) (by omega))
  have HGp : Hid (∀ W, Calls Try.prog 26 #[.string p] W (MemRes (membersP (memB vs)) W)) := Lib.hid (fun W => by have := getMembers_any p W hps; rw [hPl] at this; exact this)
  have HGq : Hid (∀ W, Calls Try.prog 26 #[.string q] W (MemRes (membersP (memB us)) W)) := Lib.hid (fun W => by have := getMembers_any q W hqs; rw [hQl] at this; exact this)
  have HPut := Lib.hid HPut
  have HQut := Lib.hid HQut
  have HMP := Lib.hid hmp
  have HMQ := Lib.hid hmq
  have HPL := Lib.hid hPl
  have HQL := Lib.hid hQl
  have HLN := Lib.hid hln
  have HLM := Lib.hid hlm
  have HA := Lib.hid ha
  have HDT : Hid (∀ k, ∀ e ∈ (logK p q k).l, e.dt.size ≤ 281474976710656) := Lib.hid (fun k => logK_dt p q k hps hqs)
  clear hbad hmp hmq hsp hsq hp hq hPl hQl hln hlm ha
  go_enter Try.func8, Try.ntmps8
  go_wp2_with fail
  refine (newZ w).mono ?_
  rintro e w1 ⟨b, rfl, hl1, hb1⟩
  have S1 : Stan w w1 w.heap.size b log0 := ⟨hl1, hb1, hb1.size⟩
  clear hl1 hb1
  go_wp2_with fail
  refine (HPut.out _ S1.2.1).out.mono ?_
  rintro e w2 ⟨rfl, hb2⟩
  have S2 := S1.step hb2
  clear hb2 S1
  go_wp2_with fail
  refine (HQut.out _ S2.2.1).out.mono ?_
  rintro e w3 ⟨rfl, hb3⟩
  have S3 := S2.step hb3
  clear hb3 S2
  go_wp2_with fail
  refine (HGp.out w3).mono ?_
  rintro e w4 ⟨xo, N, cx, rfl, hox, hNl, hb4⟩
  have S4 := S3.step hb4
  clear hb4 S3 hox hNl
  go_wp2_with fail
  refine (HGq.out w4).mono ?_
  rintro e w5 ⟨yo, M, cy, rfl, hoy, hMl, hb5⟩
  have S5 := S4.step hb5
  clear hb5 S4 hoy hMl
  go_wp2_with fail
  refine S5.add1.mono ?_
  rintro e w6 ⟨rfl, S6⟩
  clear S5
  go_wp2_with fail
  refine (S6.add2 hps).mono ?_
  rintro e w7 ⟨rfl, S7⟩
  clear S6
  go_wp2_with fail
  refine (S7.add3 hqs).mono ?_
  rintro e w8 ⟨rfl, S8⟩
  clear S7
  go_wp2_with fail
  refine (S8.add4 hqs).mono ?_
  rintro e w9 ⟨rfl, S9⟩
  clear S8
  have S := Lib.hid S9
  clear S9
  have hgv : (membersP (memB vs)).2 = 0 ∧ (membersP (memB vs)).1 = vs ∨ ((membersP (memB vs)).2 = 0) = False := by
    rw [HMP.out]; split
    · exact .inl ⟨rfl, rfl⟩
    · exact .inr (by simp)
  have hgu : (membersP (memB us)).2 = 0 ∧ (membersP (memB us)).1 = us ∨ ((membersP (memB us)).2 = 0) = False := by
    rw [HMQ.out]; split
    · exact .inl ⟨rfl, rfl⟩
    · exact .inr (by simp)
  obtain ⟨f, hf⟩ : ∃ f, f = (membersP (memB vs)).2 := ⟨_, rfl⟩
  obtain ⟨g, hg⟩ : ∃ g, g = (membersP (memB us)).2 := ⟨_, rfl⟩
  rw [← hf] at hgv ⊢
  rw [← hg] at hgu ⊢
  have HF := Lib.hid hf
  have HG := Lib.hid hg
  clear hf hg
  by_cases hff : f ≠ 0
  · have hfb : (f != 0) = true := by simp [hff]
    clear hgv hgu hff
    go_wp2_with fail
    refine (alive_any _).mono ?_
    rintro e w10 ⟨rfl, hb10⟩
    go_wp2_with fail
    go_ret
    exact ⟨rfl, (S.out.step hb10).2.1⟩
  replace hff : f = 0 := Decidable.of_not_not hff
  by_cases hgg : g ≠ 0
  · have hfb : (f != 0) = false := by simp [hff]
    have hgb : (g != 0) = true := by simp [hgg]
    clear hgv hgu hff hgg
    go_wp2_with fail
    refine (alive_any _).mono ?_
    rintro e w10 ⟨rfl, hb10⟩
    go_wp2_with fail
    go_ret
    exact ⟨rfl, (S.out.step hb10).2.1⟩
  replace hgg : g = 0 := Decidable.of_not_not hgg
  have hmv : Hid ((membersP p.data.toList).2 = 0 ∧ (membersP p.data.toList).1 = vs) := Lib.hid (by
    rcases hgv with h | h
    · exact ⟨by rw [HPL.out, ← HF.out]; exact hff, by rw [HPL.out]; exact h.2⟩
    · exact absurd hff (by rw [h]; exact id))
  have hmu : Hid ((membersP q.data.toList).2 = 0 ∧ (membersP q.data.toList).1 = us) := Lib.hid (by
    rcases hgu with h | h
    · exact ⟨by rw [HQL.out, ← HG.out]; exact hgg, by rw [HQL.out]; exact h.2⟩
    · exact absurd hgg (by rw [h]; exact id))
  subst hff hgg
  clear hgv hgu HF HG
  have hMtop : Hid (∀ k, (k < 4 ∨ 4 < k) → ∀ W t, 4 ≤ t → Stan w W w.heap.size b (logK p q k) → Calls Try.prog 23 #[.pointer (some ⟨b, 0, none⟩), .int .i64 t] W (MemAns us m 4 w w.heap.size b (logK p q k))) := Lib.hid (fun k hk W t ht h => by
    obtain ⟨i, h1, h2⟩ := logK_top p q k hk
    exact h.memHit (y := ent4 q) (HDT.out k) (logK_len p q k) h1 ⟨rfl, ht, hmu.out.1⟩ (fun j z hj hz => absurd (List.getElem?_eq_some_iff.1 hz).1 (by omega)) hmu.out.2 HUO.out HLM.out)
  have hD4 : Hid (∀ e ∈ (log4 p q).l, e.dt.size ≤ 281474976710656) := Lib.hid (by have h := HDT.out (-1); unfold logK at h; rw [if_neg (by decide)] at h; exact h)
  -- the switch
  have hsw : Hid ((to < 2 ∧ Calls Try.prog 23 #[.pointer (some ⟨b, 0, none⟩), .int .i64 to] w9 fun e w' => e = .returned (.tuple #[.slice none 0 0, .int .i64 0]) ∧ Stan w w' w.heap.size b (log4 p q)) ∨
      (2 ≤ to ∧ to < 4 ∧ Calls Try.prog 23 #[.pointer (some ⟨b, 0, none⟩), .int .i64 to] w9 (MemAns vs n 2 w w.heap.size b (log4 p q))) ∨
      (4 ≤ to ∧ Calls Try.prog 23 #[.pointer (some ⟨b, 0, none⟩), .int .i64 to] w9 (MemAns us m 4 w w.heap.size b (log4 p q)))) := Lib.hid (by
    by_cases h1 : to < 2
    · exact .inl ⟨h1, S.out.memNo hD4.out (Nat.le_refl 4) (memLow p q h1)⟩
    · by_cases h2 : to < 4
      · exact .inr (.inl ⟨by omega, h2, S.out.memHit (k := 1) (y := ent2 p) hD4.out (Nat.le_refl 4) rfl ⟨rfl, by show (2 : Int) ≤ to; omega, hmv.out.1⟩ (memMid p q h2) hmv.out.2 HVO.out HLN.out⟩)
      · exact .inr (.inr ⟨by omega, S.out.memHit (k := 3) (y := ent4 q) hD4.out (Nat.le_refl 4) rfl ⟨rfl, by show (4 : Int) ≤ to; omega, hmu.out.1⟩ (fun j z hj hz => absurd (List.getElem?_eq_some_iff.1 hz).1 (by show ¬ j < 4; omega)) hmu.out.2 HUO.out HLM.out⟩))
  -- behind the switch
  have hend : Hid (((decide (0 ≤ at_) = true ∧ decide (at_ ≤ 4) = true ∧ decide (4 ≤ at_) = false ∧ decide (0 ≤ at_ ∧ at_ ≤ 4) = true) ∧ at_ < 4) ∨ ((decide (0 ≤ at_) = false ∧ decide (at_ ≤ 4) = true ∧ decide (4 ≤ at_) = false ∧ decide (0 ≤ at_ ∧ at_ ≤ 4) = false) ∧ at_ < 4) ∨
      ((decide (0 ≤ at_) = true ∧ decide (at_ ≤ 4) = false ∧ decide (4 ≤ at_) = true ∧ decide (0 ≤ at_ ∧ at_ ≤ 4) = false) ∧ 4 < at_) ∨ at_ = 4) := Lib.hid (by
    simp only [decide_eq_true_eq, decide_eq_false_iff_not]
    omega)
  have hnb : n ≤ 9223372036854775807 := by omega
  have hmb : m ≤ 9223372036854775807 := by omega
  rcases hsw.out with ⟨t1, hM⟩ | ⟨t1, t2, hM⟩ | ⟨t1, hM⟩
  · have HM := Lib.hid hM
    have d1 : decide (to < 2) = true := by simpa using t1
    clear hsw hM t1
    go_wp2_with fail
    refine HM.out.mono ?_
    rintro e w10 ⟨rfl, S10⟩
    clear HM
    have SS := Lib.hid S10
    clear S10
    rcases hend.out with ⟨⟨q1, q2, q3, q4⟩, q5⟩ | ⟨⟨q1, q2, q3, q4⟩, q5⟩ | ⟨⟨q1, q2, q3, q4⟩, q5⟩ | q5
    all_goals clear hend
    rotate_left 3
    · subst q5
      go_wp2_with fail
      refine (SS.out.compact4 4 (by decide)).mono ?_
      rintro e w20 ⟨rfl, S20⟩
      rw [show decide ((0 : Int) ≤ 4 ∧ (4 : Int) ≤ 4) = true from rfl]
      go_wp2_with fail
      refine (S20.memNo (HDT.out 4) (logK_len p q 4) (by rw [logK_nil]; intro y hy; cases hy)).mono ?_
      rintro e w21 ⟨rfl, S21⟩
      go_wp2_with fail
      refine S21.last4.mono ?_
      rintro e w22 ⟨u22, rfl, S22, _⟩
      go_wp2_with fail
      refine (alive_any _).mono ?_
      rintro e w23 ⟨rfl, hb23⟩
      go_wp2_with fail
      go_ret
      exact ⟨rfl, (S22.step hb23).2.1⟩
    all_goals
      have HC := SS.out.compact4 at_ HA.out.2
      rw [q4] at HC
      have HK : Hid (at_ < 4 ∨ 4 < at_) := Lib.hid (by omega)
      clear q5 q4
      go_wp2_with fail
      refine HC.mono ?_
      rintro e w20 ⟨rfl, S20⟩
      clear HC
      go_wp2_with fail
      refine (hMtop.out at_ HK.out _ 9 (by decide) S20).mono ?_
      rintro e w21 ⟨ao9, c9, rfl, hI9, S21⟩
      have HI9 := Lib.hid hI9
      clear hI9
      go_wp2_with fail
      refine S21.last4.mono ?_
      rintro e w22 ⟨u22, rfl, S22, hb22⟩
      replace HI9 := Lib.hid (HI9.out.below hb22)
      clear hb22
      go_wp2_with fail
      refine (alive_any _).mono ?_
      rintro e w23 ⟨rfl, hb23⟩
      replace HI9 := Lib.hid (HI9.out.below hb23)
      have S23 := S22.step hb23
      clear hb23
      go_wp2_with fail
      refine (sameI_yes HI9.out (HU.out.below S23.2.1) hmb).mono ?_
      rintro e w24 ⟨rfl, hb24⟩
      go_wp2_with fail
      go_ret
      exact ⟨rfl, (S23.step hb24).2.1⟩
  · have HM := Lib.hid hM
    have d1 : decide (to < 2) = false := by simp; omega
    have d2 : decide (to < 4) = true := by simpa using t2
    clear hsw hM t1 t2
    go_wp2_with fail
    refine HM.out.mono ?_
    rintro e w10 ⟨lo, lc, rfl, hI, S10⟩
    clear HM
    have HI := Lib.hid hI
    have SS := Lib.hid S10
    clear S10 hI
    go_wp2_with fail
    refine (sameI_yes HI.out (HV.out.below SS.out.2.1) hnb).mono ?_
    rintro e w11 ⟨rfl, hb11⟩
    replace SS := Lib.hid (SS.out.step hb11)
    rcases hend.out with ⟨⟨q1, q2, q3, q4⟩, q5⟩ | ⟨⟨q1, q2, q3, q4⟩, q5⟩ | ⟨⟨q1, q2, q3, q4⟩, q5⟩ | q5
    all_goals clear hend
    rotate_left 3
    · subst q5
      go_wp2_with fail
      refine (SS.out.compact4 4 (by decide)).mono ?_
      rintro e w20 ⟨rfl, S20⟩
      rw [show decide ((0 : Int) ≤ 4 ∧ (4 : Int) ≤ 4) = true from rfl]
      go_wp2_with fail
      refine (S20.memNo (HDT.out 4) (logK_len p q 4) (by rw [logK_nil]; intro y hy; cases hy)).mono ?_
      rintro e w21 ⟨rfl, S21⟩
      go_wp2_with fail
      refine S21.last4.mono ?_
      rintro e w22 ⟨u22, rfl, S22, _⟩
      go_wp2_with fail
      refine (alive_any _).mono ?_
      rintro e w23 ⟨rfl, hb23⟩
      go_wp2_with fail
      go_ret
      exact ⟨rfl, (S22.step hb23).2.1⟩
    all_goals
      have HC := SS.out.compact4 at_ HA.out.2
      rw [q4] at HC
      have HK : Hid (at_ < 4 ∨ 4 < at_) := Lib.hid (by omega)
      clear q5 q4
      go_wp2_with fail
      refine HC.mono ?_
      rintro e w20 ⟨rfl, S20⟩
      clear HC
      go_wp2_with fail
      refine (hMtop.out at_ HK.out _ 9 (by decide) S20).mono ?_
      rintro e w21 ⟨ao9, c9, rfl, hI9, S21⟩
      have HI9 := Lib.hid hI9
      clear hI9
      go_wp2_with fail
      refine S21.last4.mono ?_
      rintro e w22 ⟨u22, rfl, S22, hb22⟩
      replace HI9 := Lib.hid (HI9.out.below hb22)
      clear hb22
      go_wp2_with fail
      refine (alive_any _).mono ?_
      rintro e w23 ⟨rfl, hb23⟩
      replace HI9 := Lib.hid (HI9.out.below hb23)
      have S23 := S22.step hb23
      clear hb23
      go_wp2_with fail
      refine (sameI_yes HI9.out (HU.out.below S23.2.1) hmb).mono ?_
      rintro e w24 ⟨rfl, hb24⟩
      go_wp2_with fail
      go_ret
      exact ⟨rfl, (S23.step hb24).2.1⟩
  · have HM := Lib.hid hM
    have d1 : decide (to < 2) = false := by simp; omega
    have d2 : decide (to < 4) = false := by simp; omega
    clear hsw hM t1
    go_wp2_with fail
    refine HM.out.mono ?_
    rintro e w10 ⟨lo, lc, rfl, hI, S10⟩
    clear HM
    have HI := Lib.hid hI
    have SS := Lib.hid S10
    clear S10 hI
    go_wp2_with fail
    refine (sameI_yes HI.out (HU.out.below SS.out.2.1) hmb).mono ?_
    rintro e w11 ⟨rfl, hb11⟩
    replace SS := Lib.hid (SS.out.step hb11)
    rcases hend.out with ⟨⟨q1, q2, q3, q4⟩, q5⟩ | ⟨⟨q1, q2, q3, q4⟩, q5⟩ | ⟨⟨q1, q2, q3, q4⟩, q5⟩ | q5
    all_goals clear hend
    rotate_left 3
    · subst q5
      go_wp2_with fail
      refine (SS.out.compact4 4 (by decide)).mono ?_
      rintro e w20 ⟨rfl, S20⟩
      rw [show decide ((0 : Int) ≤ 4 ∧ (4 : Int) ≤ 4) = true from rfl]
      go_wp2_with fail
      refine (S20.memNo (HDT.out 4) (logK_len p q 4) (by rw [logK_nil]; intro y hy; cases hy)).mono ?_
      rintro e w21 ⟨rfl, S21⟩
      go_wp2_with fail
      refine S21.last4.mono ?_
      rintro e w22 ⟨u22, rfl, S22, _⟩
      go_wp2_with fail
      refine (alive_any _).mono ?_
      rintro e w23 ⟨rfl, hb23⟩
      go_wp2_with fail
      go_ret
      exact ⟨rfl, (S22.step hb23).2.1⟩
    all_goals
      have HC := SS.out.compact4 at_ HA.out.2
      rw [q4] at HC
      have HK : Hid (at_ < 4 ∨ 4 < at_) := Lib.hid (by omega)
      clear q5 q4
      go_wp2_with fail
      refine HC.mono ?_
      rintro e w20 ⟨rfl, S20⟩
      clear HC
      go_wp2_with fail
      refine (hMtop.out at_ HK.out _ 9 (by decide) S20).mono ?_
      rintro e w21 ⟨ao9, c9, rfl, hI9, S21⟩
      have HI9 := Lib.hid hI9
      clear hI9
      go_wp2_with fail
      refine S21.last4.mono ?_
      rintro e w22 ⟨u22, rfl, S22, hb22⟩
      replace HI9 := Lib.hid (HI9.out.below hb22)
      clear hb22
      go_wp2_with fail
      refine (alive_any _).mono ?_
      rintro e w23 ⟨rfl, hb23⟩
      replace HI9 := Lib.hid (HI9.out.below hb23)
      have S23 := S22.step hb23
      clear hb23
      go_wp2_with fail
      refine (sameI_yes HI9.out (HU.out.below S23.2.1) hmb).mono ?_
      rintro e w24 ⟨rfl, hb24⟩
      go_wp2_with fail
      go_ret
      exact ⟨rfl, (S23.step hb24).2.1⟩
end Go.Proofs.Yticlkfdcocdmaaa
