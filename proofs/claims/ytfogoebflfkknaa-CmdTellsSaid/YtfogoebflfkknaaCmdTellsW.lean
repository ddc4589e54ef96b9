/- The walk of arboretumlaw23.CmdTells (printed by wip/gen_cmdtells.py). -/
import Derived.Test.YtfogoebflfkknaaRefCmdP
import Derived.Test.YtfogoebflfkknaaRefCmdG
import Derived.Test.YtfogoebflfkknaaCmdW
import Derived.Test.YtfogoebflfkknaaSince
namespace Go.Proofs.Ytfogoebflfkknaa
open Go.RowKit
set_option linter.unusedVariables false
/-- An operation and a reply that lie side by side; what was there lies as it did. -/
def CT (w W : World) (o : OpV) (r : RepV) : Prop := OpBlk W w.heap.size o ∧ RepBlk W (w.heap.size + 1) r ∧ Below w.heap.size w W
theorem CT.step {w W W' : World} {o : OpV} {r : RepV} (h : CT w W o r) (hb : Below W.heap.size W W') : CT w W' o r :=
  ⟨h.1.below hb, h.2.1.below hb, h.2.2.trans (hb.mono h.2.2.size)⟩
theorem CT.new (w : World) (o : OpV) (r : RepV) : CT w ((w.alloc (.cells (opCells o) 23)).alloc (.cells (repCells r) 26)) o r :=
  ⟨old_at _ _ _ _ (heap_alloc_new w _), new_at _ _ _ (by simp), ((Below.refl _ _).alloc (Nat.le_refl _) _).alloc (by simp) _⟩
theorem OpBlk.al {w : World} {g : Nat} {o : OpV} (h : OpBlk w g o) (ob : Obj) : OpBlk (w.alloc ob) g o := (Below.heap_alloc w ob g (blk_lt h)).trans h
theorem RepBlk.al {w : World} {g : Nat} {o : RepV} (h : RepBlk w g o) (ob : Obj) : RepBlk (w.alloc ob) g o := (Below.heap_alloc w ob g (blk_lt h)).trans h
/-- What Asked and Told answer: the program's and the document's own. -/
theorem asked_both (s : ByteArray) (hs : s.size ≤ 281474976710656) : ∃ (n : Int) (q : OpV) (g : Int),
    (∀ w, Calls Try.prog 25 #[.string s] w fun e w' => e = .returned (.tuple #[.int .i64 n, q.agg, .int .i64 g]) ∧ Below w.heap.size w w') ∧
    (∀ w, Calls Try.prog 26 #[.string s] w fun e w' => e = .returned (.tuple #[.int .i64 n, q.agg, .int .i64 g]) ∧ Below w.heap.size w w') := by
  by_cases hp : isPre ⟨#[113]⟩ s
  · obtain ⟨a1, h1⟩ : ∃ a, rVar ((s.extract 1 s.size).data.toList, 0) = a := ⟨_, rfl⟩
    obtain ⟨q, g, h3⟩ : ∃ q g, getOpV a1.2 = (q, g) := ⟨_, _, rfl⟩
    by_cases hg : g = 0
    · subst hg
      exact ⟨a1.1, q, 0, fun w => asked_ok s w hs hp a1 q h1 h3, fun w => rasked_ok s w hs hp a1 q 0 rfl h1 h3⟩
    · exact ⟨0, op0, g, fun w => asked_err s w hs hp a1 q g hg h1 h3, fun w => rasked_err s w hs hp a1 q g hg h1 h3⟩
  · exact ⟨0, op0, 4, fun w => asked_no s w hs hp, fun w => rasked_no s w hs hp⟩
theorem told_both (s : ByteArray) (hs : s.size ≤ 281474976710656) : ∃ (n l : Int) (q : RepV) (g : Int),
    (∀ w, Calls Try.prog 27 #[.string s] w fun e w' => e = .returned (.tuple #[.int .i64 n, .int .i64 l, q.agg, .int .i64 g]) ∧ Below w.heap.size w w') ∧
    (∀ w, Calls Try.prog 28 #[.string s] w fun e w' => e = .returned (.tuple #[.int .i64 n, .int .i64 l, q.agg, .int .i64 g]) ∧ Below w.heap.size w w') := by
  by_cases hp : isPre ⟨#[97]⟩ s
  · obtain ⟨a1, h1⟩ : ∃ a, rVar ((s.extract 1 s.size).data.toList, 0) = a := ⟨_, rfl⟩
    obtain ⟨a2, h2⟩ : ∃ a, rVar a1.2 = a := ⟨_, rfl⟩
    obtain ⟨q, g, h3⟩ : ∃ q g, getRepV a2.2 = (q, g) := ⟨_, _, rfl⟩
    by_cases hg : g = 0
    · subst hg
      exact ⟨a1.1, a2.1, q, 0, fun w => told_ok s w hs hp a1 a2 q h1 h2 h3, fun w => rtold_ok s w hs hp a1 a2 q 0 rfl h1 h2 h3⟩
    · exact ⟨0, 0, rep0, g, fun w => told_err s w hs hp a1 a2 q g hg h1 h2 h3, fun w => rtold_err s w hs hp a1 a2 q g hg h1 h2 h3⟩
  · exact ⟨0, 0, rep0, 4, fun w => told_no s w hs hp, fun w => rtold_no s w hs hp⟩
theorem ask_both (n : Int) (hn : -9223372036854775808 ≤ n ∧ n ≤ 9223372036854775807) (o : OpV) (hok : OpOk o) : ∃ A : ByteArray, A.size ≤ 4000 ∧
    (∀ w, Calls Try.prog 19 #[.int .i64 n, o.agg] w fun e w' => e = .returned (.tuple #[.string A, .int .i64 (validV o)]) ∧ Below w.heap.size w w') ∧
    (∀ w, Calls Try.prog 20 #[.int .i64 n, o.agg] w fun e w' => e = .returned (.tuple #[.string A, .int .i64 (validV o)]) ∧ Below w.heap.size w w') := by
  by_cases hv : validV o = 0
  · refine ⟨⟨(askB n o).toArray⟩, ?_, fun w => ?_, fun w => ?_⟩
    · have hs := validV_sizes hv
      have h1 := vars_len [o.kd, o.ss, o.sq]
      have h2 := textsB_len [o.key, o.val, o.old]
      have h3 := vars_len [n]
      show (askB n o).toArray.size ≤ 4000
      unfold askB opB
      simp at h1 h2 h3 ⊢
      omega
    · rw [hv]; exact ask_good n hn o hok hv w
    · rw [hv]; exact rask_good n hn o hok hv w
  · exact ⟨⟨#[]⟩, by decide, fun w => ask_bad n o hok hv w, fun w => rask_bad n o hok hv w⟩
set_option maxRecDepth 100000 in
set_option maxHeartbeats 4000000 in
theorem tells_alive {n l : Int} {o : OpV} (hok : OpOk o) {r : RepV} (hr : r.val.size ≤ 140737488351232) {b : ByteArray} (hms : b.size ≤ 9223372036854775807) (w : World)
    (hc : smallB o = false ∨ (smallB o = true ∧ 3000 < r.val.size) ∨ (smallB o = true ∧ r.val.size ≤ 3000 ∧ 6000 < b.size)) :
    Calls Try.prog 3 #[o.agg, r.agg, .int .i64 n, .int .i64 l, .string b] w fun e w' => e = .returned (.bool true) ∧ Below w.heap.size w w' := by
  have HSm := Lib.hid (fun W => small_op o hok W)
  have hN := CT.new w o r
  rcases hc with c | ⟨c, c2⟩ | ⟨c, c2, c3⟩
  all_goals
    rw [c] at HSm
    clear c hok
    obtain ⟨kd, ss, sq, key, val, old⟩ := o
    obtain ⟨er, nm, vl⟩ := r
    unfold OpV.agg RepV.agg at *
    unfold CT opCells repCells at hN
    dsimp only at *
    have HN : Hid (CT w _ ⟨kd, ss, sq, key, val, old⟩ ⟨er, nm, vl⟩) := Lib.hid hN
    clear hN
    go_enter Try.func3, Try.ntmps3
    go_wp2_with fail
    refine (HSm.out _).mono ?_
    rintro e w1 ⟨rfl, hb1⟩
    have HS1 := Lib.hid (HN.out.step hb1)
    clear HN hb1 HSm
    obtain ⟨⟨z0, z1, z2⟩, -⟩ := HS1.out.2.1.facts
    dsimp only at z0 z1 z2
    go_wp2_with fail
    refine (aliveC_any _).mono ?_
    rintro e w2 ⟨rfl, hb2⟩
    go_wp2_with fail
    go_ret
    exact ⟨rfl, (HS1.out.step hb2).2.2⟩
set_option maxRecDepth 100000 in
set_option maxHeartbeats 16000000 in
theorem tells_main {n : Int} (hn : -9223372036854775808 ≤ n ∧ n ≤ 9223372036854775807) {l : Int} (hl : -9223372036854775808 ≤ l ∧ l ≤ 9223372036854775807) {o : OpV} (hok : OpOk o) {r : RepV} (hrk : RepOk r) {b : ByteArray} (w : World) (hsm : smallB o = true) (hr3 : r.val.size ≤ 3000) (hb6 : b.size ≤ 6000) :
    Calls Try.prog 3 #[o.agg, r.agg, .int .i64 n, .int .i64 l, .string b] w fun e w' => e = .returned (.bool true) ∧ Below w.heap.size w w' := by
  have HSm := Lib.hid (fun W => small_op o hok W)
  rw [hsm] at HSm
  have HP := Lib.hid (fun W => putOp_any o hok W)
  have HRP := Lib.hid (fun W => rputOp_any o hok W)
  unfold PutOp at HP HRP
  have HV := Lib.hid (fun W => valid_any o W)
  have HRV := Lib.hid (fun W => rvalid_any o W)
  have HPR := Lib.hid (fun W => putReply_any r hrk W)
  have HRPR := Lib.hid (fun W => rputReply_any r hrk W)
  have HTl := Lib.hid (fun W => tell_any n l r hn hl hrk W)
  have HRTl := Lib.hid (fun W => rtell_any n l r hn hl hrk W)
  obtain ⟨A, hA, hAk, hRAk⟩ := ask_both n hn o hok
  have HAk := Lib.hid hAk
  have HRAk := Lib.hid hRAk
  obtain ⟨S, hS⟩ : ∃ S : ByteArray, S = ⟨(if validV o = 0 then opB o else []).toArray⟩ := ⟨_, rfl⟩
  obtain ⟨v, hv⟩ : ∃ v, v = validV o := ⟨_, rfl⟩
  obtain ⟨X, hX⟩ : ∃ X : ByteArray, X = ⟨(repB r).toArray⟩ := ⟨_, rfl⟩
  obtain ⟨Y, hY⟩ : ∃ X : ByteArray, X = ⟨(tellB n l r).toArray⟩ := ⟨_, rfl⟩
  rw [← hS, ← hv] at HP HRP
  rw [← hv] at HV HRV HAk HRAk
  rw [← hX] at HPR HRPR
  rw [← hY] at HTl HRTl
  obtain ⟨Q, hQ⟩ : ∃ Q : ByteArray, Q = ⟨(113 :: b.data.toList).toArray⟩ := ⟨_, rfl⟩
  obtain ⟨P, hP⟩ : ∃ Q : ByteArray, Q = ⟨(97 :: b.data.toList).toArray⟩ := ⟨_, rfl⟩
  have hbl : b.data.toList.length = b.size := rfl
  have hcQ : ∀ W : World, (Op.stringOp .add ⟨#[113]⟩ b).run Try.prog W = .ok (.string Q) W := fun W => by
    have h := cat_run [113] b.data.toList W (by simp; omega)
    rw [show (ByteArray.mk b.data.toList.toArray) = b from bytes_ext (by rw [bytes_mk])] at h
    rw [hQ]; exact h
  have hcP : ∀ W : World, (Op.stringOp .add ⟨#[97]⟩ b).run Try.prog W = .ok (.string P) W := fun W => by
    have h := cat_run [97] b.data.toList W (by simp; omega)
    rw [show (ByteArray.mk b.data.toList.toArray) = b from bytes_ext (by rw [bytes_mk])] at h
    rw [hP]; exact h
  have hQs : Q.size ≤ 7000 := by rw [hQ]; show (113 :: b.data.toList).toArray.size ≤ 7000; simp; omega
  have hPs : P.size ≤ 7000 := by rw [hP]; show (97 :: b.data.toList).toArray.size ≤ 7000; simp; omega
  have HCQ := Lib.hid hcQ
  have HCP := Lib.hid hcP
  clear hS hv hX hY hQ hP hcQ hcP hAk hRAk hbl
  have hN := CT.new w o r
  have d1 : decide ((3000 : Int) < r.val.size) = false := by simp; omega
  have d2 : decide ((6000 : Int) < b.size) = false := by simp; omega
  clear hok hrk hsm hn hl
  obtain ⟨kd, ss, sq, key, val, old⟩ := o
  obtain ⟨er, nm, vl⟩ := r
  unfold OpV.agg RepV.agg at *
  unfold CT opCells repCells at hN
  dsimp only at *
  have HN : Hid (CT w _ ⟨kd, ss, sq, key, val, old⟩ ⟨er, nm, vl⟩) := Lib.hid hN
  clear hN
  go_enter Try.func3, Try.ntmps3
  go_wp2_with fail
  refine (HSm.out _).mono ?_
  rintro e w1 ⟨rfl, hb1⟩
  have HS1 := Lib.hid (HN.out.step hb1)
  clear HN hb1 HSm
  obtain ⟨⟨z0, z1, z2⟩, -⟩ := HS1.out.2.1.facts
  obtain ⟨⟨y0, y1, y2⟩, ⟨y3, y4, y5⟩, -⟩ := HS1.out.1.facts
  dsimp only at z0 z1 z2 y0 y1 y2 y3 y4 y5
  go_wp2_with fail
  refine (HP.out _).mono ?_
  rintro e w2 ⟨rfl, hb2⟩
  have HS2 := Lib.hid (HS1.out.step hb2)
  clear HS1 hb2 HP z0 z1 z2 y0 y1 y2 y3 y4 y5
  obtain ⟨⟨y0, y1, y2⟩, ⟨y3, y4, y5⟩, -⟩ := HS2.out.1.facts
  dsimp only at y0 y1 y2 y3 y4 y5
  go_wp2_with fail
  refine (HRP.out _).mono ?_
  rintro e w3 ⟨rfl, hb3⟩
  have HS3 := Lib.hid (HS2.out.step hb3)
  clear HS2 hb3 HRP y0 y1 y2 y3 y4 y5
  have hq : ∀ p : SinceW w3.heap.size w3, CT w p.w ⟨kd, ss, sq, key, val, old⟩ ⟨er, nm, vl⟩ := fun p => HS3.out.step p.h
  have y0 := fun p => (hq p).1.facts.1.1
  have y1 := fun p => (hq p).1.facts.1.2.1
  have y2 := fun p => (hq p).1.facts.1.2.2
  have y3 := fun p => (hq p).1.facts.2.1.1
  have y4 := fun p => (hq p).1.facts.2.1.2.1
  have y5 := fun p => (hq p).1.facts.2.1.2.2
  have z0 := fun p => (hq p).2.1.facts.1.1
  have z1 := fun p => (hq p).2.1.facts.1.2.1
  have z2 := fun p => (hq p).2.1.facts.1.2.2
  dsimp only at z0 z1 z2 y0 y1 y2 y3 y4 y5
  clear hq
  go_wp2_with fail
  refine wp_region_since (B := w3.heap.size) (W0 := w3) (by kernel_rfl) (by kernel_rfl) (Below.refl _ _) ?_
  repeat (go_big_quiet_step (first
    | (go_at_call 13; exact since_call (Nat.le_refl _) (HV.out _))
    | (go_at_call 14; exact since_call (Nat.le_refl _) (HRV.out _))
    | (go_at_call 15; exact since_call (Nat.le_refl _) (HPR.out _))
    | (go_at_call 16; exact since_call (Nat.le_refl _) (HRPR.out _))
    | (go_at_call 17; exact since_call (Nat.le_refl _) (HTl.out _))
    | (go_at_call 18; exact since_call (Nat.le_refl _) (HRTl.out _))))
  refine wpQuiet_nil ?_
  intro _ hw'
  obtain ⟨⟨w4, hv4⟩, rfl⟩ := hw'
  have HS4 := Lib.hid (HS3.out.step hv4)
  clear HS3 hv4 y0 y1 y2 y3 y4 y5 z0 z1 z2 HV HRV HPR HRPR HTl HRTl
  obtain ⟨⟨y0, y1, y2⟩, ⟨y3, y4, y5⟩, -⟩ := HS4.out.1.facts
  dsimp only at y0 y1 y2 y3 y4 y5
  go_wp2_with fail
  refine (HAk.out _).mono ?_
  rintro e w5 ⟨rfl, hb5⟩
  have HS5 := Lib.hid (HS4.out.step hb5)
  clear HS4 hb5 HAk y0 y1 y2 y3 y4 y5
  obtain ⟨⟨y0, y1, y2⟩, ⟨y3, y4, y5⟩, -⟩ := HS5.out.1.facts
  dsimp only at y0 y1 y2 y3 y4 y5
  go_wp2_with fail
  refine (HRAk.out _).mono ?_
  rintro e w6 ⟨rfl, hb6'⟩
  have HB6 := Lib.hid (HS5.out.step hb6').2.2
  clear HS5 hb6' HRAk y0 y1 y2 y3 y4 y5
  have hcQ := HCQ.out w6
  have hcP := HCP.out w6
  have HT0 : Hid ((w6.alloc (.cells #[.string b, .string A, .string Q, .string P] 9)).heap[w6.heap.size]? = some (.cells #[.string b, .string A, .string Q, .string P] 9 (0, 0))) := Lib.hid (heap_alloc_new w6 _)
  have HB0 : Hid (Below w.heap.size w (w6.alloc (.cells #[.string b, .string A, .string Q, .string P] 9))) := Lib.hid (HB6.out.alloc HB6.out.size _)
  clear HB6 HCQ HCP
  go_wp2_with fail
  go_loopw [16] (fun i wr => ∃ k : Nat, k ≤ 4 ∧ i = .int .i64 k ∧ Hid (wr.heap[w6.heap.size]? = some (.cells #[.string b, .string A, .string Q, .string P] 9 (0, 0))) ∧ Hid (Below w.heap.size w wr)) (fun i _ => 4 - (intOf i).toNat)
  case atStart => exact ⟨0, by omega, rfl, HT0, HB0⟩
  case round =>
    obtain ⟨k, hk, rfl, HT, HB⟩ := hrel
    clear HT0 HB0 hcQ hcP
    by_cases hlt : k < 4
    · obtain ⟨s, hs, hc⟩ : ∃ s : ByteArray, s.size ≤ 281474976710656 ∧ ∀ W : World, W.heap[w6.heap.size]? = some (.cells #[.string b, .string A, .string Q, .string P] 9 (0, 0)) → W.cell? ⟨w6.heap.size, k, none⟩ = some (.string s) := by
        rcases (show k = 0 ∨ k = 1 ∨ k = 2 ∨ k = 3 by omega) with rfl | rfl | rfl | rfl
        · exact ⟨b, by omega, fun W h => by rw [blk_cell h]; rfl⟩
        · exact ⟨A, by omega, fun W h => by rw [blk_cell h]; rfl⟩
        · exact ⟨Q, by omega, fun W h => by rw [blk_cell h]; rfl⟩
        · exact ⟨P, by omega, fun W h => by rw [blk_cell h]; rfl⟩
      have HC := Lib.hid hc
      have G1 := fun w => cmdGet_any s w hs
      have G2 := fun w => rget_any s w hs
      have G3 := fun w => cmdGetRep_any s w hs
      have G4 := fun w => rgetRep_any s w hs
      obtain ⟨q1, e1, hq1⟩ : ∃ q g, getOpV (s.data.toList, 0) = (q, g) := ⟨_, _, rfl⟩
      obtain ⟨r1, f1, hr1⟩ : ∃ q g, getRepV (s.data.toList, 0) = (q, g) := ⟨_, _, rfl⟩
      rw [hq1] at G1 G2
      rw [hr1] at G3 G4
      obtain ⟨n2, q2, e2, G5, G6⟩ := asked_both s hs
      obtain ⟨n3, l3, r3, e3, G7, G8⟩ := told_both s hs
      unfold OpV.agg at G1 G2 G5 G6
      unfold RepV.agg at G3 G4 G7 G8
      dsimp only at G1 G2 G3 G4 G5 G6 G7 G8
      have HG1 := Lib.hid G1
      have HG2 := Lib.hid G2
      have HG3 := Lib.hid G3
      have HG4 := Lib.hid G4
      have HG5 := Lib.hid G5
      have HG6 := Lib.hid G6
      have HG7 := Lib.hid G7
      have HG8 := Lib.hid G8
      clear hc hs hq1 hr1 G1 G2 G3 G4 G5 G6 G7 G8
      have x1 : (0 : Int) ≤ k := by omega
      have x2 : (k : Int) < 4 := by omega
      have c0 := HC.out _ HT.out
      have HT' := HT
      have HB' := HB
      go_wp2_with fail
      refine (HG1.out _).mono ?_
      rintro e a1 ⟨rfl, hb⟩
      have hT := (Below.heap_alloc a1 (.cells #[.int .i64 q1.kd, .int .i64 q1.ss, .int .i64 q1.sq, .string q1.key, .string q1.val, .string q1.old] 23) w6.heap.size (Nat.lt_of_lt_of_le (blk_lt HT'.out) hb.size)).trans ((hb.block _ (blk_lt HT'.out)).trans HT'.out)
      have hBw := (HB'.out.trans (hb.mono HB'.out.size)).alloc (Nat.le_trans HB'.out.size hb.size) (.cells #[.int .i64 q1.kd, .int .i64 q1.ss, .int .i64 q1.sq, .string q1.key, .string q1.val, .string q1.old] 23)
      have hO1 : OpBlk (a1.alloc (.cells #[.int .i64 q1.kd, .int .i64 q1.ss, .int .i64 q1.sq, .string q1.key, .string q1.val, .string q1.old] 23)) a1.heap.size q1 := heap_alloc_new a1 _
      clear c0 HT' HB' hb 
      go_upto_region 16 with fail
      generalize a1.alloc (.cells #[.int .i64 q1.kd, .int .i64 q1.ss, .int .i64 q1.sq, .string q1.key, .string q1.val, .string q1.old] 23) = W1 at hT hBw hO1 ⊢
      have c0 := HC.out _ hT
      have HT' := Lib.hid hT
      have HB' := Lib.hid hBw
      have HO1 := Lib.hid hO1
      clear hT hBw hO1
      go_wp2_with fail
      refine (HG2.out _).mono ?_
      rintro e a2 ⟨rfl, hb⟩
      have hT := (Below.heap_alloc a2 (.cells #[.int .i64 q1.kd, .int .i64 q1.ss, .int .i64 q1.sq, .string q1.key, .string q1.val, .string q1.old] 23) w6.heap.size (Nat.lt_of_lt_of_le (blk_lt HT'.out) hb.size)).trans ((hb.block _ (blk_lt HT'.out)).trans HT'.out)
      have hBw := (HB'.out.trans (hb.mono HB'.out.size)).alloc (Nat.le_trans HB'.out.size hb.size) (.cells #[.int .i64 q1.kd, .int .i64 q1.ss, .int .i64 q1.sq, .string q1.key, .string q1.val, .string q1.old] 23)
      have hO1 := (HO1.out.below hb).al (.cells #[.int .i64 q1.kd, .int .i64 q1.ss, .int .i64 q1.sq, .string q1.key, .string q1.val, .string q1.old] 23)
      have hO2 : OpBlk (a2.alloc (.cells #[.int .i64 q1.kd, .int .i64 q1.ss, .int .i64 q1.sq, .string q1.key, .string q1.val, .string q1.old] 23)) a2.heap.size q1 := heap_alloc_new a2 _
      clear c0 HT' HB' hb HO1
      go_upto_region 17 with fail
      generalize a2.alloc (.cells #[.int .i64 q1.kd, .int .i64 q1.ss, .int .i64 q1.sq, .string q1.key, .string q1.val, .string q1.old] 23) = W2 at hT hBw hO1 hO2 ⊢
      have c0 := HC.out _ hT
      have HT' := Lib.hid hT
      have HB' := Lib.hid hBw
      have HO1 := Lib.hid hO1
      have HO2 := Lib.hid hO2
      clear hT hBw hO1 hO2
      go_wp2_with fail
      refine (HG3.out _).mono ?_
      rintro e a3 ⟨rfl, hb⟩
      have hT := (Below.heap_alloc a3 (.cells #[.int .i64 r1.err, .string r1.val, .int .i64 r1.num] 26) w6.heap.size (Nat.lt_of_lt_of_le (blk_lt HT'.out) hb.size)).trans ((hb.block _ (blk_lt HT'.out)).trans HT'.out)
      have hBw := (HB'.out.trans (hb.mono HB'.out.size)).alloc (Nat.le_trans HB'.out.size hb.size) (.cells #[.int .i64 r1.err, .string r1.val, .int .i64 r1.num] 26)
      have hO1 := (HO1.out.below hb).al (.cells #[.int .i64 r1.err, .string r1.val, .int .i64 r1.num] 26)
      have hO2 := (HO2.out.below hb).al (.cells #[.int .i64 r1.err, .string r1.val, .int .i64 r1.num] 26)
      have hO3 : RepBlk (a3.alloc (.cells #[.int .i64 r1.err, .string r1.val, .int .i64 r1.num] 26)) a3.heap.size r1 := heap_alloc_new a3 _
      clear c0 HT' HB' hb HO1 HO2
      go_upto_region 18 with fail
      generalize a3.alloc (.cells #[.int .i64 r1.err, .string r1.val, .int .i64 r1.num] 26) = W3 at hT hBw hO1 hO2 hO3 ⊢
      have c0 := HC.out _ hT
      have HT' := Lib.hid hT
      have HB' := Lib.hid hBw
      have HO1 := Lib.hid hO1
      have HO2 := Lib.hid hO2
      have HO3 := Lib.hid hO3
      clear hT hBw hO1 hO2 hO3
      go_wp2_with fail
      refine (HG4.out _).mono ?_
      rintro e a4 ⟨rfl, hb⟩
      have hT := (Below.heap_alloc a4 (.cells #[.int .i64 r1.err, .string r1.val, .int .i64 r1.num] 26) w6.heap.size (Nat.lt_of_lt_of_le (blk_lt HT'.out) hb.size)).trans ((hb.block _ (blk_lt HT'.out)).trans HT'.out)
      have hBw := (HB'.out.trans (hb.mono HB'.out.size)).alloc (Nat.le_trans HB'.out.size hb.size) (.cells #[.int .i64 r1.err, .string r1.val, .int .i64 r1.num] 26)
      have hO1 := (HO1.out.below hb).al (.cells #[.int .i64 r1.err, .string r1.val, .int .i64 r1.num] 26)
      have hO2 := (HO2.out.below hb).al (.cells #[.int .i64 r1.err, .string r1.val, .int .i64 r1.num] 26)
      have hO3 := (HO3.out.below hb).al (.cells #[.int .i64 r1.err, .string r1.val, .int .i64 r1.num] 26)
      have hO4 : RepBlk (a4.alloc (.cells #[.int .i64 r1.err, .string r1.val, .int .i64 r1.num] 26)) a4.heap.size r1 := heap_alloc_new a4 _
      clear c0 HT' HB' hb HO1 HO2 HO3
      go_upto_region 19 with fail
      generalize a4.alloc (.cells #[.int .i64 r1.err, .string r1.val, .int .i64 r1.num] 26) = W4 at hT hBw hO1 hO2 hO3 hO4 ⊢
      have c0 := HC.out _ hT
      have HT' := Lib.hid hT
      have HB' := Lib.hid hBw
      have HO1 := Lib.hid hO1
      have HO2 := Lib.hid hO2
      have HO3 := Lib.hid hO3
      have HO4 := Lib.hid hO4
      clear hT hBw hO1 hO2 hO3 hO4
      go_wp2_with fail
      refine (HG5.out _).mono ?_
      rintro e a5 ⟨rfl, hb⟩
      have hT := (Below.heap_alloc a5 (.cells #[.int .i64 q2.kd, .int .i64 q2.ss, .int .i64 q2.sq, .string q2.key, .string q2.val, .string q2.old] 23) w6.heap.size (Nat.lt_of_lt_of_le (blk_lt HT'.out) hb.size)).trans ((hb.block _ (blk_lt HT'.out)).trans HT'.out)
      have hBw := (HB'.out.trans (hb.mono HB'.out.size)).alloc (Nat.le_trans HB'.out.size hb.size) (.cells #[.int .i64 q2.kd, .int .i64 q2.ss, .int .i64 q2.sq, .string q2.key, .string q2.val, .string q2.old] 23)
      have hO1 := (HO1.out.below hb).al (.cells #[.int .i64 q2.kd, .int .i64 q2.ss, .int .i64 q2.sq, .string q2.key, .string q2.val, .string q2.old] 23)
      have hO2 := (HO2.out.below hb).al (.cells #[.int .i64 q2.kd, .int .i64 q2.ss, .int .i64 q2.sq, .string q2.key, .string q2.val, .string q2.old] 23)
      have hO3 := (HO3.out.below hb).al (.cells #[.int .i64 q2.kd, .int .i64 q2.ss, .int .i64 q2.sq, .string q2.key, .string q2.val, .string q2.old] 23)
      have hO4 := (HO4.out.below hb).al (.cells #[.int .i64 q2.kd, .int .i64 q2.ss, .int .i64 q2.sq, .string q2.key, .string q2.val, .string q2.old] 23)
      have hO5 : OpBlk (a5.alloc (.cells #[.int .i64 q2.kd, .int .i64 q2.ss, .int .i64 q2.sq, .string q2.key, .string q2.val, .string q2.old] 23)) a5.heap.size q2 := heap_alloc_new a5 _
      clear c0 HT' HB' hb HO1 HO2 HO3 HO4
      go_upto_region 20 with fail
      generalize a5.alloc (.cells #[.int .i64 q2.kd, .int .i64 q2.ss, .int .i64 q2.sq, .string q2.key, .string q2.val, .string q2.old] 23) = W5 at hT hBw hO1 hO2 hO3 hO4 hO5 ⊢
      have c0 := HC.out _ hT
      have HT' := Lib.hid hT
      have HB' := Lib.hid hBw
      have HO1 := Lib.hid hO1
      have HO2 := Lib.hid hO2
      have HO3 := Lib.hid hO3
      have HO4 := Lib.hid hO4
      have HO5 := Lib.hid hO5
      clear hT hBw hO1 hO2 hO3 hO4 hO5
      go_wp2_with fail
      refine (HG6.out _).mono ?_
      rintro e a6 ⟨rfl, hb⟩
      have hT := (Below.heap_alloc a6 (.cells #[.int .i64 q2.kd, .int .i64 q2.ss, .int .i64 q2.sq, .string q2.key, .string q2.val, .string q2.old] 23) w6.heap.size (Nat.lt_of_lt_of_le (blk_lt HT'.out) hb.size)).trans ((hb.block _ (blk_lt HT'.out)).trans HT'.out)
      have hBw := (HB'.out.trans (hb.mono HB'.out.size)).alloc (Nat.le_trans HB'.out.size hb.size) (.cells #[.int .i64 q2.kd, .int .i64 q2.ss, .int .i64 q2.sq, .string q2.key, .string q2.val, .string q2.old] 23)
      have hO1 := (HO1.out.below hb).al (.cells #[.int .i64 q2.kd, .int .i64 q2.ss, .int .i64 q2.sq, .string q2.key, .string q2.val, .string q2.old] 23)
      have hO2 := (HO2.out.below hb).al (.cells #[.int .i64 q2.kd, .int .i64 q2.ss, .int .i64 q2.sq, .string q2.key, .string q2.val, .string q2.old] 23)
      have hO3 := (HO3.out.below hb).al (.cells #[.int .i64 q2.kd, .int .i64 q2.ss, .int .i64 q2.sq, .string q2.key, .string q2.val, .string q2.old] 23)
      have hO4 := (HO4.out.below hb).al (.cells #[.int .i64 q2.kd, .int .i64 q2.ss, .int .i64 q2.sq, .string q2.key, .string q2.val, .string q2.old] 23)
      have hO5 := (HO5.out.below hb).al (.cells #[.int .i64 q2.kd, .int .i64 q2.ss, .int .i64 q2.sq, .string q2.key, .string q2.val, .string q2.old] 23)
      have hO6 : OpBlk (a6.alloc (.cells #[.int .i64 q2.kd, .int .i64 q2.ss, .int .i64 q2.sq, .string q2.key, .string q2.val, .string q2.old] 23)) a6.heap.size q2 := heap_alloc_new a6 _
      clear c0 HT' HB' hb HO1 HO2 HO3 HO4 HO5
      go_upto_region 21 with fail
      generalize a6.alloc (.cells #[.int .i64 q2.kd, .int .i64 q2.ss, .int .i64 q2.sq, .string q2.key, .string q2.val, .string q2.old] 23) = W6 at hT hBw hO1 hO2 hO3 hO4 hO5 hO6 ⊢
      have c0 := HC.out _ hT
      have HT' := Lib.hid hT
      have HB' := Lib.hid hBw
      have HO1 := Lib.hid hO1
      have HO2 := Lib.hid hO2
      have HO3 := Lib.hid hO3
      have HO4 := Lib.hid hO4
      have HO5 := Lib.hid hO5
      have HO6 := Lib.hid hO6
      clear hT hBw hO1 hO2 hO3 hO4 hO5 hO6
      go_wp2_with fail
      refine (HG7.out _).mono ?_
      rintro e a7 ⟨rfl, hb⟩
      have hT := (Below.heap_alloc a7 (.cells #[.int .i64 r3.err, .string r3.val, .int .i64 r3.num] 26) w6.heap.size (Nat.lt_of_lt_of_le (blk_lt HT'.out) hb.size)).trans ((hb.block _ (blk_lt HT'.out)).trans HT'.out)
      have hBw := (HB'.out.trans (hb.mono HB'.out.size)).alloc (Nat.le_trans HB'.out.size hb.size) (.cells #[.int .i64 r3.err, .string r3.val, .int .i64 r3.num] 26)
      have hO1 := (HO1.out.below hb).al (.cells #[.int .i64 r3.err, .string r3.val, .int .i64 r3.num] 26)
      have hO2 := (HO2.out.below hb).al (.cells #[.int .i64 r3.err, .string r3.val, .int .i64 r3.num] 26)
      have hO3 := (HO3.out.below hb).al (.cells #[.int .i64 r3.err, .string r3.val, .int .i64 r3.num] 26)
      have hO4 := (HO4.out.below hb).al (.cells #[.int .i64 r3.err, .string r3.val, .int .i64 r3.num] 26)
      have hO5 := (HO5.out.below hb).al (.cells #[.int .i64 r3.err, .string r3.val, .int .i64 r3.num] 26)
      have hO6 := (HO6.out.below hb).al (.cells #[.int .i64 r3.err, .string r3.val, .int .i64 r3.num] 26)
      have hO7 : RepBlk (a7.alloc (.cells #[.int .i64 r3.err, .string r3.val, .int .i64 r3.num] 26)) a7.heap.size r3 := heap_alloc_new a7 _
      clear c0 HT' HB' hb HO1 HO2 HO3 HO4 HO5 HO6
      go_upto_region 22 with fail
      generalize a7.alloc (.cells #[.int .i64 r3.err, .string r3.val, .int .i64 r3.num] 26) = W7 at hT hBw hO1 hO2 hO3 hO4 hO5 hO6 hO7 ⊢
      have c0 := HC.out _ hT
      have HT' := Lib.hid hT
      have HB' := Lib.hid hBw
      have HO1 := Lib.hid hO1
      have HO2 := Lib.hid hO2
      have HO3 := Lib.hid hO3
      have HO4 := Lib.hid hO4
      have HO5 := Lib.hid hO5
      have HO6 := Lib.hid hO6
      have HO7 := Lib.hid hO7
      clear hT hBw hO1 hO2 hO3 hO4 hO5 hO6 hO7
      go_wp2_with fail
      refine (HG8.out _).mono ?_
      rintro e a8 ⟨rfl, hb⟩
      have hT := (Below.heap_alloc a8 (.cells #[.int .i64 r3.err, .string r3.val, .int .i64 r3.num] 26) w6.heap.size (Nat.lt_of_lt_of_le (blk_lt HT'.out) hb.size)).trans ((hb.block _ (blk_lt HT'.out)).trans HT'.out)
      have hBw := (HB'.out.trans (hb.mono HB'.out.size)).alloc (Nat.le_trans HB'.out.size hb.size) (.cells #[.int .i64 r3.err, .string r3.val, .int .i64 r3.num] 26)
      have hO1 := (HO1.out.below hb).al (.cells #[.int .i64 r3.err, .string r3.val, .int .i64 r3.num] 26)
      have hO2 := (HO2.out.below hb).al (.cells #[.int .i64 r3.err, .string r3.val, .int .i64 r3.num] 26)
      have hO3 := (HO3.out.below hb).al (.cells #[.int .i64 r3.err, .string r3.val, .int .i64 r3.num] 26)
      have hO4 := (HO4.out.below hb).al (.cells #[.int .i64 r3.err, .string r3.val, .int .i64 r3.num] 26)
      have hO5 := (HO5.out.below hb).al (.cells #[.int .i64 r3.err, .string r3.val, .int .i64 r3.num] 26)
      have hO6 := (HO6.out.below hb).al (.cells #[.int .i64 r3.err, .string r3.val, .int .i64 r3.num] 26)
      have hO7 := (HO7.out.below hb).al (.cells #[.int .i64 r3.err, .string r3.val, .int .i64 r3.num] 26)
      have hO8 : RepBlk (a8.alloc (.cells #[.int .i64 r3.err, .string r3.val, .int .i64 r3.num] 26)) a8.heap.size r3 := heap_alloc_new a8 _
      clear c0 HT' HB' hb HO1 HO2 HO3 HO4 HO5 HO6 HO7
      go_upto_region 23 with fail
      generalize a8.alloc (.cells #[.int .i64 r3.err, .string r3.val, .int .i64 r3.num] 26) = W8 at hT hBw hO1 hO2 hO3 hO4 hO5 hO6 hO7 hO8 ⊢
      have c0 := HC.out _ hT
      have HT' := Lib.hid hT
      have HB' := Lib.hid hBw
      have HO1 := Lib.hid hO1
      have HO2 := Lib.hid hO2
      have HO3 := Lib.hid hO3
      have HO4 := Lib.hid hO4
      have HO5 := Lib.hid hO5
      have HO6 := Lib.hid hO6
      have HO7 := Lib.hid hO7
      have HO8 := Lib.hid hO8
      clear hT hBw hO1 hO2 hO3 hO4 hO5 hO6 hO7 hO8
      obtain ⟨⟨m10, m11, m12⟩, ⟨m13, m14, m15⟩, -⟩ := HO1.out.facts
      obtain ⟨⟨m20, m21, m22⟩, ⟨m23, m24, m25⟩, -⟩ := HO2.out.facts
      obtain ⟨⟨m30, m31, m32⟩, -⟩ := HO3.out.facts
      obtain ⟨⟨m40, m41, m42⟩, -⟩ := HO4.out.facts
      obtain ⟨⟨m50, m51, m52⟩, ⟨m53, m54, m55⟩, -⟩ := HO5.out.facts
      obtain ⟨⟨m60, m61, m62⟩, ⟨m63, m64, m65⟩, -⟩ := HO6.out.facts
      obtain ⟨⟨m70, m71, m72⟩, -⟩ := HO7.out.facts
      obtain ⟨⟨m80, m81, m82⟩, -⟩ := HO8.out.facts
      clear c0
      go_wp2_with fail
      go_roundw
      case rel => exact ⟨k + 1, by omega, by go_num, HT', HB'⟩
      case measure => simp [intOf] <;> omega
    · obtain rfl : k = 4 := by omega
      go_wp2_with fail
      refine (aliveC_any _).mono ?_
      rintro e w7 ⟨rfl, hb7⟩
      go_wp2_with fail
      go_ret
      exact ⟨rfl, HB.out.trans (hb7.mono HB.out.size)⟩
theorem walk_CmdTells (o : OpV) (hok : OpOk o) (r : RepV) (he : -9223372036854775808 ≤ r.err ∧ r.err ≤ 9223372036854775807) (hnm : -9223372036854775808 ≤ r.num ∧ r.num ≤ 9223372036854775807) (hr : r.val.size ≤ 140737488351232) (n : Int) (hn : (Lit.int .i64 n).wf = true) (l : Int) (hl : (Lit.int .i64 l).wf = true) (b : ByteArray) (hms0 : b.size ≤ maxLen) (w : World) :
    Calls Try.prog 3 #[o.agg, r.agg, .int .i64 n, .int .i64 l, .string b] w fun e w' => e = .returned (.bool true) ∧ Below w.heap.size w w' := by
  have hn' : -9223372036854775808 ≤ n ∧ n ≤ 9223372036854775807 := by simpa [Lit.wf, IntKind.min, IntKind.max, IntKind.bits, IntKind.signed] using hn
  have hl' : -9223372036854775808 ≤ l ∧ l ≤ 9223372036854775807 := by simpa [Lit.wf, IntKind.min, IntKind.max, IntKind.bits, IntKind.signed] using hl
  have hms : b.size ≤ 9223372036854775807 := by unfold maxLen at hms0; omega
  cases hsm : smallB o with
  | false => exact tells_alive hok hr hms w (.inl hsm)
  | true =>
    by_cases h1 : 3000 < r.val.size
    · exact tells_alive hok hr hms w (.inr (.inl ⟨hsm, h1⟩))
    by_cases h2 : 6000 < b.size
    · exact tells_alive hok hr hms w (.inr (.inr ⟨hsm, by omega, h2⟩))
    · exact tells_main hn' hl' hok ⟨he, hnm, by omega⟩ w hsm (by omega) (by omega)
end Go.Proofs.Ytfogoebflfkknaa
