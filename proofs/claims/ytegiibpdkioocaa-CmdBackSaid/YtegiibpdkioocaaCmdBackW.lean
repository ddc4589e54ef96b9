/- The walk of arboretumlaw23.CmdBack. -/
import Derived.Test.YtegiibpdkioocaaCmdG
import Derived.Test.YtegiibpdkioocaaCmdBackP
namespace Go.Proofs.Ytegiibpdkioocaa
open Go.RowKit
set_option linter.unusedVariables false
/-- An operation and a reply that lie side by side; what was there lies as it did. -/
def CB (w W : World) (o : OpV) (r : RepV) : Prop := OpBlk W w.heap.size o ∧ RepBlk W (w.heap.size + 1) r ∧ Below w.heap.size w W
theorem CB.step {w W W' : World} {o : OpV} {r : RepV} (h : CB w W o r) (hb : Below W.heap.size W W') : CB w W' o r :=
  ⟨h.1.below hb, h.2.1.below hb, h.2.2.trans (hb.mono h.2.2.size)⟩
theorem CB.alloc {w W : World} {o : OpV} {r : RepV} (h : CB w W o r) (ob : Obj) : CB w (W.alloc ob) o r := h.step ((Below.refl _ _).alloc (Nat.le_refl _) _)
theorem tail1 (c : UInt8) (L : List UInt8) : ((ByteArray.mk (c :: L).toArray).extract 1 (ByteArray.mk (c :: L).toArray).size).data.toList = L := by
  rw [Lib.extract_data]
  have : (ByteArray.mk (c :: L).toArray).size = L.length + 1 := by show (c :: L).toArray.size = _; simp
  rw [this]
  simp
theorem pre1 (c : UInt8) (L : List UInt8) : isPre ⟨#[c]⟩ (ByteArray.mk (c :: L).toArray) := rfl
theorem npre1 (c d : UInt8) (L : List UInt8) (h : c ≠ d) : ¬ isPre ⟨#[c]⟩ (ByteArray.mk (d :: L).toArray) := by
  intro hp
  have : [d] = [c] := hp
  injection this with h1 _
  exact h h1.symm
theorem var1_ne (v : Int) : var1 v ≠ [] := by
  unfold var1 varFuel
  split <;> simp
theorem mk_size (L : List UInt8) : (ByteArray.mk L.toArray).size = L.length := by show L.toArray.size = _; simp
theorem askB_len {n : Int} {o : OpV} (hv : validV o = 0) : 0 < (askB n o).length ∧ (askB n o).length ≤ 4000 := by
  have hs := validV_sizes hv
  have h1 := vars_len [o.kd, o.ss, o.sq]
  have h2 := textsB_len [o.key, o.val, o.old]
  have h3 := vars_len [n]
  unfold askB opB
  simp at h1 h2 h3 ⊢
  omega
section
variable {n : Int} (hn : -9223372036854775808 ≤ n ∧ n ≤ 9223372036854775807) {o : OpV} (hok : OpOk o) (hv : validV o = 0)
include hn hok hv
theorem asked_back (W : World) : Calls Try.prog 55 #[.string ⟨(askB n o).toArray⟩] W fun e w' => e = .returned (.tuple #[.int .i64 n, o.agg, .int .i64 0]) ∧ Below W.heap.size W w' := by
  have hl := askB_len (n := n) hv
  obtain ⟨s1, s2, s3⟩ := validV_sizes hv
  refine asked_ok ⟨(askB n o).toArray⟩ W (by rw [mk_size]; omega) (pre1 113 _) (n, (opB o, 0)) o ?_ (getOp_put hok s1 s2 s3 hv)
  rw [show askB n o = 113 :: (vars [n] ++ opB o) from rfl, tail1, vars_one, rVar_var1 n _ hn.1 hn.2]
theorem asked_more (more : ByteArray) (hm : 0 < more.size) (hm2 : more.size ≤ 300) (W : World) : Calls Try.prog 55 #[.string ⟨(askB n o ++ more.data.toList).toArray⟩] W fun e w' => e = .returned (.tuple #[.int .i64 0, op0.agg, .int .i64 4]) ∧ Below W.heap.size W w' := by
  have hl := askB_len (n := n) hv
  have hml : more.data.toList.length = more.size := rfl
  obtain ⟨s1, s2, s3⟩ := validV_sizes hv
  have hne : more.data.toList ≠ [] := fun h => by rw [h] at hml; simp at hml; omega
  refine asked_err ⟨(askB n o ++ more.data.toList).toArray⟩ W (by rw [mk_size, List.length_append]; omega) (pre1 113 _) (n, (opB o ++ more.data.toList, 0)) op0 4 (by decide) ?_ (getOp_more hok s1 s2 s3 _ hne)
  rw [show askB n o ++ more.data.toList = 113 :: (vars [n] ++ (opB o ++ more.data.toList)) from by unfold askB; simp, tail1, vars_one, rVar_var1 n _ hn.1 hn.2]
theorem asked_cut (W : World) : Calls Try.prog 55 #[.string ⟨(askB n o).dropLast.toArray⟩] W fun e w' => e = .returned (.tuple #[.int .i64 0, op0.agg, .int .i64 5]) ∧ Below W.heap.size W w' := by
  have hl := askB_len (n := n) hv
  obtain ⟨s1, s2, s3⟩ := validV_sizes hv
  have hne : opB o ≠ [] := by
    rw [opB_eq]
    intro h
    have h0 := (List.append_eq_nil_iff.1 h).1
    have := var1_ne o.kd
    exact this h0
  have e : (askB n o).dropLast = 113 :: (vars [n] ++ (opB o).dropLast) := by
    unfold askB
    rw [show (113 : UInt8) :: (vars [n] ++ opB o) = (113 :: vars [n]) ++ opB o from rfl, List.dropLast_append_of_ne_nil hne]
    rfl
  have hd : (askB n o).dropLast.length ≤ 4000 := by rw [List.length_dropLast]; omega
  rw [e] at hd ⊢
  refine asked_err ⟨(113 :: (vars [n] ++ (opB o).dropLast)).toArray⟩ W (by rw [mk_size]; omega) (pre1 113 _) (n, ((opB o).dropLast, 0)) op0 5 (by decide) ?_ (getOp_cut hok s1 s2 s3)
  rw [tail1, vars_one, rVar_var1 n _ hn.1 hn.2]
end
theorem tellB_len {n l : Int} {r : RepV} (hr : r.val.size ≤ 2000) : (tellB n l r).length ≤ 4000 := by
  have h1 := vars_len [n, l]
  have h2 := textsB_len [r.val]
  have h3 := vars_len [r.err, r.num]
  unfold tellB repB
  simp at h1 h2 h3 ⊢
  omega
section
variable {n l : Int} (hn : -9223372036854775808 ≤ n ∧ n ≤ 9223372036854775807) (hl : -9223372036854775808 ≤ l ∧ l ≤ 9223372036854775807) {r : RepV} (hok : RepOk r) (hr : r.val.size ≤ 2000)
include hn hl hok hr
theorem told_back (W : World) : Calls Try.prog 57 #[.string ⟨(tellB n l r).toArray⟩] W fun e w' => e = .returned (.tuple #[.int .i64 n, .int .i64 l, r.agg, .int .i64 0]) ∧ Below W.heap.size W w' := by
  have hs := tellB_len (n := n) (l := l) hr
  have hg := getRep_put hok hr []
  rw [List.append_nil, if_pos rfl] at hg
  refine told_ok ⟨(tellB n l r).toArray⟩ W (by rw [mk_size]; omega) (pre1 97 _) (n, (var1 l ++ repB r, 0)) (l, (repB r, 0)) r ?_ (rVar_var1 l _ hl.1 hl.2) hg
  rw [show tellB n l r = 97 :: (vars [n, l] ++ repB r) from rfl, tail1, vars_two, List.append_assoc, rVar_var1 n _ hn.1 hn.2]
theorem told_more (more : ByteArray) (hm : 0 < more.size) (hm2 : more.size ≤ 300) (W : World) : Calls Try.prog 57 #[.string ⟨(tellB n l r ++ more.data.toList).toArray⟩] W fun e w' => e = .returned (.tuple #[.int .i64 0, .int .i64 0, rep0.agg, .int .i64 4]) ∧ Below W.heap.size W w' := by
  have hs := tellB_len (n := n) (l := l) hr
  have hml : more.data.toList.length = more.size := rfl
  have hne : more.data.toList ≠ [] := fun h => by rw [h] at hml; simp at hml; omega
  have hg := getRep_put hok hr more.data.toList
  rw [if_neg hne] at hg
  refine told_err ⟨(tellB n l r ++ more.data.toList).toArray⟩ W (by rw [mk_size, List.length_append]; omega) (pre1 97 _) (n, (var1 l ++ (repB r ++ more.data.toList), 0)) (l, (repB r ++ more.data.toList, 0)) rep0 4 (by decide) ?_ (rVar_var1 l _ hl.1 hl.2) hg
  rw [show tellB n l r ++ more.data.toList = 97 :: (vars [n, l] ++ (repB r ++ more.data.toList)) from by unfold tellB; simp, tail1, vars_two, List.append_assoc, rVar_var1 n _ hn.1 hn.2]
end
theorem asked_tell {n l : Int} {r : RepV} (hr : r.val.size ≤ 2000) (W : World) : Calls Try.prog 55 #[.string ⟨(tellB n l r).toArray⟩] W fun e w' => e = .returned (.tuple #[.int .i64 0, op0.agg, .int .i64 4]) ∧ Below W.heap.size W w' := by
  have hs := tellB_len (n := n) (l := l) hr
  exact asked_no ⟨(tellB n l r).toArray⟩ W (by rw [mk_size]; omega) (npre1 113 97 _ (by decide))
theorem CB.new (w : World) (o : OpV) (r : RepV) : CB w ((w.alloc (.cells (opCells o) 64)).alloc (.cells (repCells r) 68)) o r :=
  ⟨old_at _ _ _ _ (heap_alloc_new w _), new_at _ _ _ (by simp), ((Below.refl _ _).alloc (Nat.le_refl _) _).alloc (by simp) _⟩
set_option maxRecDepth 100000 in
set_option maxHeartbeats 4000000 in
theorem back_alive {n : Int} {l : Int} {o : OpV} (hok : OpOk o) {r : RepV} (hr : r.val.size ≤ 140737488351232) {more : ByteArray} (hms : more.size ≤ 9223372036854775807) (w : World)
    (hc : smallB o = false ∨ (smallB o = true ∧ 2000 < r.val.size) ∨ (smallB o = true ∧ r.val.size ≤ 2000 ∧ 300 < more.size) ∨ (smallB o = true ∧ r.val.size ≤ 2000 ∧ more = ⟨#[]⟩)) :
    Calls Try.prog 9 #[o.agg, r.agg, .int .i64 n, .int .i64 l, .string more] w fun e w' => e = .returned (.bool true) ∧ Below w.heap.size w w' := by
  have HSm := Lib.hid (fun W => small_op o hok W)
  have hN := CB.new w o r
  rcases hc with c | ⟨c, c2⟩ | ⟨c, c2, c3⟩ | ⟨c, c2, c3⟩
  all_goals
    rw [c] at HSm
    try subst c3
    clear c hok
    obtain ⟨kd, ss, sq, key, val, old⟩ := o
    obtain ⟨er, nm, vl⟩ := r
    unfold OpV.agg RepV.agg at *
    unfold opCells repCells at hN
    dsimp only at *
    have HN := Lib.hid hN
    clear hN
    go_enter Try.func9, Try.ntmps9
    go_wp2_with fail
    refine (HSm.out _).mono ?_
    rintro e w1 ⟨rfl, hb1⟩
    have HS1 := Lib.hid (HN.out.step hb1)
    clear HN hb1 HSm
    obtain ⟨⟨z0, z1, z2⟩, -⟩ := HS1.out.2.1.facts
    dsimp only at z0 z1 z2
    go_wp2_with fail
    refine (aliveC_any _).mono ?_
    rintro e w2 ⟨rfl, hb2⟩
    go_wp2_with fail
    go_ret
    exact ⟨rfl, (HS1.out.step hb2).2.2⟩
set_option maxRecDepth 100000 in
set_option maxHeartbeats 16000000 in
theorem back_good {n : Int} (hn : -9223372036854775808 ≤ n ∧ n ≤ 9223372036854775807) {l : Int} (hl : -9223372036854775808 ≤ l ∧ l ≤ 9223372036854775807) {o : OpV} (hok : OpOk o) {r : RepV} (hrk : RepOk r) {more : ByteArray} (hms : more.size ≤ 9223372036854775807) (w : World) (hsm : smallB o = true) (hr2 : r.val.size ≤ 2000) (hm0 : 0 < more.size) (hm3 : more.size ≤ 300) (hv : validV o = 0) :
    Calls Try.prog 9 #[o.agg, r.agg, .int .i64 n, .int .i64 l, .string more] w fun e w' => e = .returned (.bool true) ∧ Below w.heap.size w w' := by
  have HSm := Lib.hid (fun W => small_op o hok W)
  rw [hsm] at HSm
  have hmne : more.toList.isEmpty = false := by
    rw [ByteArray.toList_eq]
    have hml : more.data.toList.length = more.size := rfl
    cases hh : more.data.toList with
    | nil => rw [hh] at hml; simp at hml; omega
    | cons a b => rfl
  have HT := Lib.hid (fun W => tell_any n l r hn hl hrk W)
  have HT1 := Lib.hid (fun W => told_back hn hl hrk hr2 W)
  have HT2 := Lib.hid (fun W => told_more hn hl hrk hr2 more hm0 hm3 W)
  have HT3 := Lib.hid (fun W => asked_tell (n := n) (l := l) hr2 W)
  have htl := tellB_len (n := n) (l := l) hr2
  obtain ⟨T, hT⟩ : ∃ T, T = (ByteArray.mk (tellB n l r).toArray) := ⟨_, rfl⟩
  obtain ⟨T2, hT2⟩ : ∃ T, T = (ByteArray.mk (tellB n l r ++ more.data.toList).toArray) := ⟨_, rfl⟩
  have HcatT : Hid (∀ W : World, (Op.stringOp .add T more).run Try.prog W = .ok (.string T2) W) := Lib.hid (fun W => by
    have := cat_run (tellB n l r) more.data.toList W (by have hml : more.data.toList.length = more.size := rfl; omega)
    rw [show (ByteArray.mk more.data.toList.toArray) = more from bs_self more] at this
    rw [hT, hT2]; exact this)
  rw [← hT] at HT HT1 HT3
  rw [← hT2] at HT2
  clear hT hT2 htl
  have HA := Lib.hid (fun W => ask_good n hn o hok hv W)
  have HV := Lib.hid (fun W => valid_any o W)
  rw [hv] at HV
  have HA1 := Lib.hid (fun W => asked_back hn hok hv W)
  have HA2 := Lib.hid (fun W => asked_more hn hok hv more hm0 hm3 W)
  have HA3 := Lib.hid (fun W => asked_cut hn hok hv W)
  have hal := askB_len (n := n) hv
  obtain ⟨S, hS⟩ : ∃ T, T = (ByteArray.mk (askB n o).toArray) := ⟨_, rfl⟩
  obtain ⟨S2, hS2⟩ : ∃ T, T = (ByteArray.mk (askB n o ++ more.data.toList).toArray) := ⟨_, rfl⟩
  have hSz : S.size = (askB n o).length := by rw [hS, mk_size]
  have HcatS : Hid (∀ W : World, (Op.stringOp .add S more).run Try.prog W = .ok (.string S2) W) := Lib.hid (fun W => by
    have := cat_run (askB n o) more.data.toList W (by have hml : more.data.toList.length = more.size := rfl; omega)
    rw [show (ByteArray.mk more.data.toList.toArray) = more from bs_self more] at this
    rw [hS, hS2]; exact this)
  have hcut : (ByteArray.mk (askB n o).dropLast.toArray) = S.extract 0 (S.size - 1) := by
    apply bytes_ext
    rw [Lib.extract_data, hSz, hS, bytes_mk, bytes_mk, List.dropLast_eq_take]
    simp
  have hs1 : 0 < S.size := by omega
  have hs2 : S.size ≤ 4000 := by omega
  rw [hcut] at HA3
  rw [← hS] at HA HA1
  rw [← hS2] at HA2
  clear hS hS2 hal hcut hSz
  have hN := CB.new w o r
  obtain ⟨kd, ss, sq, key, val, old⟩ := o
  obtain ⟨er, nm, vl⟩ := r
  dsimp only at hr2
  have hval : vl.size ≤ 2000 := hr2
  unfold OpV.agg RepV.agg at *
  unfold opCells repCells at hN
  dsimp only [op0, rep0] at *
  have HN := Lib.hid hN
  clear hN hr2 hok hrk hn hl hv hsm
  go_enter Try.func9, Try.ntmps9
  go_wp2_with fail
  refine (HSm.out _).mono ?_
  rintro e w1 ⟨rfl, hb1⟩
  have HS1 := Lib.hid (HN.out.step hb1)
  clear HN hb1 HSm
  obtain ⟨⟨x0, x1, x2⟩, ⟨x3, x4, x5⟩, -⟩ := HS1.out.1.facts
  obtain ⟨⟨z0, z1, z2⟩, -⟩ := HS1.out.2.1.facts
  dsimp only at x0 x1 x2 x3 x4 x5 z0 z1 z2
  go_wp2_with fail
  refine (HA.out _).mono ?_
  rintro e w2 ⟨rfl, hb2⟩
  have HS2 := Lib.hid (HS1.out.step hb2)
  clear HS1 hb2 HA x0 x1 x2 x3 x4 x5 z0 z1 z2
  obtain ⟨⟨x0, x1, x2⟩, ⟨x3, x4, x5⟩, -⟩ := HS2.out.1.facts
  dsimp only at x0 x1 x2 x3 x4 x5
  go_wp2_with fail
  refine (HV.out _).mono ?_
  rintro e w3 ⟨rfl, hb3⟩
  have HS3 := Lib.hid (HS2.out.step hb3)
  clear HS2 hb3 HV x0 x1 x2 x3 x4 x5
  go_wp2_with fail
  refine (HA1.out _).mono ?_
  rintro e w4 ⟨rfl, hb4⟩
  have HS4 := Lib.hid (HS3.out.step hb4)
  clear HS3 hb4 HA1
  have hcat := HcatS.out (w4.alloc (.cells #[.int .i64 kd, .int .i64 ss, .int .i64 sq, .string key, .string val, .string old] 64))
  go_wp2_with fail
  refine (HA2.out _).mono ?_
  rintro e w5 ⟨rfl, hb5⟩
  have HS5 := Lib.hid ((HS4.out.alloc _).step hb5)
  have HO5 : Hid (OpBlk w5 w4.heap.size ⟨kd, ss, sq, key, val, old⟩) := Lib.hid (OpBlk.below (o := ⟨kd, ss, sq, key, val, old⟩) (heap_alloc_new w4 _) hb5)
  clear HS4 hb5 HA2 hcat
  go_wp2_with fail
  refine (HA3.out _).mono ?_
  rintro e w6 ⟨rfl, hb6⟩
  have HS6 := Lib.hid (((HS5.out.alloc _).step hb6).alloc (.cells (opCells op0) 64))
  have HO6 := Lib.hid ((((HO5.out.below ((Below.refl _ _).alloc (Nat.le_refl _) _)).below hb6)).below ((Below.refl _ _).alloc (Nat.le_refl _) (.cells (opCells op0) 64)))
  clear HS5 HO5 hb6 HA3
  obtain ⟨⟨x0, x1, x2⟩, ⟨x3, x4, x5⟩, -⟩ := HS6.out.1.facts
  obtain ⟨⟨y0, y1, y2⟩, ⟨y3, y4, y5⟩, -⟩ := HO6.out.facts
  dsimp only [opCells, op0] at x0 x1 x2 x3 x4 x5 y0 y1 y2 y3 y4 y5
  obtain ⟨⟨z0, z1, z2⟩, -⟩ := HS6.out.2.1.facts
  dsimp only [opCells, op0] at z0 z1 z2
  have HSx := HS6
  go_wp2_with fail
  refine (HT.out _).mono ?_
  rintro e w7 ⟨rfl, hb7⟩
  have HS7 := Lib.hid (HSx.out.step hb7)
  clear HSx hb7 HT z0 z1 z2
  go_wp2_with fail
  refine (HT1.out _).mono ?_
  rintro e w8 ⟨rfl, hb8⟩
  have HS8 := Lib.hid (HS7.out.step hb8)
  clear HS7 hb8 HT1
  have hcat := HcatT.out (w8.alloc (.cells #[.int .i64 er, .string vl, .int .i64 nm] 68))
  go_wp2_with fail
  refine (HT2.out _).mono ?_
  rintro e w9 ⟨rfl, hb9⟩
  have HS9 := Lib.hid ((HS8.out.alloc _).step hb9)
  have HR9 : Hid (RepBlk w9 w8.heap.size ⟨er, nm, vl⟩) := Lib.hid (RepBlk.below (o := ⟨er, nm, vl⟩) (heap_alloc_new w8 _) hb9)
  clear HS8 hb9 HT2 hcat
  go_wp2_with fail
  refine (HT3.out _).mono ?_
  rintro e w10 ⟨rfl, hb10⟩
  have HS10 := Lib.hid ((HS9.out.alloc _).step hb10)
  have HR10 := Lib.hid ((HR9.out.below ((Below.refl _ _).alloc (Nat.le_refl _) _)).below hb10)
  clear HS9 HR9 hb10 HT3
  go_wp2_with fail
  refine (aliveC_any _).mono ?_
  rintro e w11 ⟨rfl, hb11⟩
  have HS11 := Lib.hid ((HS10.out.alloc _).step hb11)
  have HR11 := Lib.hid ((HR10.out.below ((Below.refl _ _).alloc (Nat.le_refl _) _)).below hb11)
  clear HS10 HR10 hb11
  obtain ⟨⟨y0, y1, y2⟩, -⟩ := HR11.out.facts
  obtain ⟨⟨z0, z1, z2⟩, -⟩ := HS11.out.2.1.facts
  dsimp only at y0 y1 y2 z0 z1 z2
  go_wp2_with fail
  go_ret
  exact ⟨rfl, HS11.out.2.2⟩
set_option maxRecDepth 100000 in
set_option maxHeartbeats 16000000 in
theorem back_bad {n : Int} (hn : -9223372036854775808 ≤ n ∧ n ≤ 9223372036854775807) {l : Int} (hl : -9223372036854775808 ≤ l ∧ l ≤ 9223372036854775807) {o : OpV} (hok : OpOk o) {r : RepV} (hrk : RepOk r) {more : ByteArray} (hms : more.size ≤ 9223372036854775807) (w : World) (hsm : smallB o = true) (hr2 : r.val.size ≤ 2000) (hm0 : 0 < more.size) (hm3 : more.size ≤ 300) (hv : validV o ≠ 0) :
    Calls Try.prog 9 #[o.agg, r.agg, .int .i64 n, .int .i64 l, .string more] w fun e w' => e = .returned (.bool true) ∧ Below w.heap.size w w' := by
  have HSm := Lib.hid (fun W => small_op o hok W)
  rw [hsm] at HSm
  have hmne : more.toList.isEmpty = false := by
    rw [ByteArray.toList_eq]
    have hml : more.data.toList.length = more.size := rfl
    cases hh : more.data.toList with
    | nil => rw [hh] at hml; simp at hml; omega
    | cons a b => rfl
  have HT := Lib.hid (fun W => tell_any n l r hn hl hrk W)
  have HT1 := Lib.hid (fun W => told_back hn hl hrk hr2 W)
  have HT2 := Lib.hid (fun W => told_more hn hl hrk hr2 more hm0 hm3 W)
  have HT3 := Lib.hid (fun W => asked_tell (n := n) (l := l) hr2 W)
  have htl := tellB_len (n := n) (l := l) hr2
  obtain ⟨T, hT⟩ : ∃ T, T = (ByteArray.mk (tellB n l r).toArray) := ⟨_, rfl⟩
  obtain ⟨T2, hT2⟩ : ∃ T, T = (ByteArray.mk (tellB n l r ++ more.data.toList).toArray) := ⟨_, rfl⟩
  have HcatT : Hid (∀ W : World, (Op.stringOp .add T more).run Try.prog W = .ok (.string T2) W) := Lib.hid (fun W => by
    have := cat_run (tellB n l r) more.data.toList W (by have hml : more.data.toList.length = more.size := rfl; omega)
    rw [show (ByteArray.mk more.data.toList.toArray) = more from bs_self more] at this
    rw [hT, hT2]; exact this)
  rw [← hT] at HT HT1 HT3
  rw [← hT2] at HT2
  clear hT hT2 htl
  have HA := Lib.hid (fun W => ask_bad n o hok hv W)
  have HV := Lib.hid (fun W => valid_any o W)
  obtain ⟨g, hg⟩ : ∃ g, g = validV o := ⟨_, rfl⟩
  rw [← hg] at HA HV hv
  have hd : (g == 0) = false := by simpa using hv
  clear hg
  have hN := CB.new w o r
  obtain ⟨kd, ss, sq, key, val, old⟩ := o
  obtain ⟨er, nm, vl⟩ := r
  dsimp only at hr2
  have hval : vl.size ≤ 2000 := hr2
  unfold OpV.agg RepV.agg at *
  unfold opCells repCells at hN
  dsimp only [op0, rep0] at *
  have HN := Lib.hid hN
  clear hN hr2 hok hrk hn hl hv hsm
  go_enter Try.func9, Try.ntmps9
  go_wp2_with fail
  refine (HSm.out _).mono ?_
  rintro e w1 ⟨rfl, hb1⟩
  have HS1 := Lib.hid (HN.out.step hb1)
  clear HN hb1 HSm
  obtain ⟨⟨x0, x1, x2⟩, ⟨x3, x4, x5⟩, -⟩ := HS1.out.1.facts
  obtain ⟨⟨z0, z1, z2⟩, -⟩ := HS1.out.2.1.facts
  dsimp only at x0 x1 x2 x3 x4 x5 z0 z1 z2
  go_wp2_with fail
  refine (HA.out _).mono ?_
  rintro e w2 ⟨rfl, hb2⟩
  have HS2 := Lib.hid (HS1.out.step hb2)
  clear HS1 hb2 HA x0 x1 x2 x3 x4 x5 z0 z1 z2
  obtain ⟨⟨x0, x1, x2⟩, ⟨x3, x4, x5⟩, -⟩ := HS2.out.1.facts
  dsimp only at x0 x1 x2 x3 x4 x5
  go_wp2_with fail
  refine (HV.out _).mono ?_
  rintro e w3 ⟨rfl, hb3⟩
  have HS3 := Lib.hid (HS2.out.step hb3)
  clear HS2 hb3 HV x0 x1 x2 x3 x4 x5
  obtain ⟨⟨z0, z1, z2⟩, -⟩ := HS3.out.2.1.facts
  dsimp only at z0 z1 z2
  have HSx := HS3
  go_wp2_with fail
  refine (HT.out _).mono ?_
  rintro e w7 ⟨rfl, hb7⟩
  have HS7 := Lib.hid (HSx.out.step hb7)
  clear HSx hb7 HT z0 z1 z2
  go_wp2_with fail
  refine (HT1.out _).mono ?_
  rintro e w8 ⟨rfl, hb8⟩
  have HS8 := Lib.hid (HS7.out.step hb8)
  clear HS7 hb8 HT1
  have hcat := HcatT.out (w8.alloc (.cells #[.int .i64 er, .string vl, .int .i64 nm] 68))
  go_wp2_with fail
  refine (HT2.out _).mono ?_
  rintro e w9 ⟨rfl, hb9⟩
  have HS9 := Lib.hid ((HS8.out.alloc _).step hb9)
  have HR9 : Hid (RepBlk w9 w8.heap.size ⟨er, nm, vl⟩) := Lib.hid (RepBlk.below (o := ⟨er, nm, vl⟩) (heap_alloc_new w8 _) hb9)
  clear HS8 hb9 HT2 hcat
  go_wp2_with fail
  refine (HT3.out _).mono ?_
  rintro e w10 ⟨rfl, hb10⟩
  have HS10 := Lib.hid ((HS9.out.alloc _).step hb10)
  have HR10 := Lib.hid ((HR9.out.below ((Below.refl _ _).alloc (Nat.le_refl _) _)).below hb10)
  clear HS9 HR9 hb10 HT3
  go_wp2_with fail
  refine (aliveC_any _).mono ?_
  rintro e w11 ⟨rfl, hb11⟩
  have HS11 := Lib.hid ((HS10.out.alloc _).step hb11)
  have HR11 := Lib.hid ((HR10.out.below ((Below.refl _ _).alloc (Nat.le_refl _) _)).below hb11)
  clear HS10 HR10 hb11
  obtain ⟨⟨y0, y1, y2⟩, -⟩ := HR11.out.facts
  obtain ⟨⟨z0, z1, z2⟩, -⟩ := HS11.out.2.1.facts
  dsimp only at y0 y1 y2 z0 z1 z2
  go_wp2_with fail
  go_ret
  exact ⟨rfl, HS11.out.2.2⟩
theorem walk_CmdBack (o : OpV) (hok : OpOk o) (r : RepV) (he : -9223372036854775808 ≤ r.err ∧ r.err ≤ 9223372036854775807) (hnm : -9223372036854775808 ≤ r.num ∧ r.num ≤ 9223372036854775807) (hr : r.val.size ≤ 140737488351232) (n : Int) (hn : (Lit.int .i64 n).wf = true) (l : Int) (hl : (Lit.int .i64 l).wf = true) (more : ByteArray) (hms0 : more.size ≤ maxLen) (w : World) :
    Calls Try.prog 9 #[o.agg, r.agg, .int .i64 n, .int .i64 l, .string more] w fun e w' => e = .returned (.bool true) ∧ Below w.heap.size w w' := by
  have hn' : -9223372036854775808 ≤ n ∧ n ≤ 9223372036854775807 := by simpa [Lit.wf, IntKind.min, IntKind.max, IntKind.bits, IntKind.signed] using hn
  have hl' : -9223372036854775808 ≤ l ∧ l ≤ 9223372036854775807 := by simpa [Lit.wf, IntKind.min, IntKind.max, IntKind.bits, IntKind.signed] using hl
  have hms : more.size ≤ 9223372036854775807 := by unfold maxLen at hms0; omega
  cases hsm : smallB o with
  | false => exact back_alive hok hr hms w (.inl hsm)
  | true =>
    by_cases h1 : 2000 < r.val.size
    · exact back_alive hok hr hms w (.inr (.inl ⟨hsm, h1⟩))
    by_cases h2 : 300 < more.size
    · exact back_alive hok hr hms w (.inr (.inr (.inl ⟨hsm, by omega, h2⟩)))
    by_cases h3 : more.size = 0
    · have : more = ⟨#[]⟩ := by
        rcases more with ⟨⟨l⟩⟩
        have : l = [] := List.eq_nil_of_length_eq_zero h3
        subst this; rfl
      exact back_alive hok hr hms w (.inr (.inr (.inr ⟨hsm, by omega, this⟩)))
    have hrk : RepOk r := ⟨he, hnm, by omega⟩
    by_cases hv : validV o = 0
    · exact back_good hn' hl' hok hrk hms w hsm (by omega) (by omega) (by omega) hv
    · exact back_bad hn' hl' hok hrk hms w hsm (by omega) (by omega) (by omega) hv
end Go.Proofs.Ytegiibpdkioocaa
