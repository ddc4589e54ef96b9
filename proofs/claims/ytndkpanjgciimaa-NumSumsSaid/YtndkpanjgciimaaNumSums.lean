/- What is proved: arboretumlaw1.NumSums answers true for every text and all numbers, and turns no memory that was there. Conditions: none. -/
import Derived.Test.YtndkpanjgciimaaAliveN
import Derived.Test.YtndkpanjgciimaaLift
import Derived.Deep.RegionHeld3
import Derived.Laws.IdiomStrings
namespace Go.Proofs.Ytndkpanjgciimaa
open Go.ChangeShapes Go.WideShapes Go.ChangeAt Go.RowKit
set_option linter.unusedVariables false
theorem crc_one (W : World) (g : Nat) (t : ByteArray) (ht : t.size ≤ 9223372036854775807) (hc : W.cell? ⟨g, 0, none⟩ = some (.string t)) :
    Calls Try.prog 11 #[.slice (some ⟨g, 0, none⟩) 1 1] W fun e w' => e = .returned (.int .i64 (crc t.data.toList)) ∧ W = w' := by
  refine (crc_any (some ⟨g, 0, none⟩) 1 1 [t] W rfl (by omega) (fun k hk => ⟨⟨g, 0, none⟩, rfl, by
      rw [add_lit]
      obtain rfl : k = 0 := by omega
      exact hc⟩) (by
      intro s hs
      have : s = t := by simpa using hs
      rw [this]; exact ht)).mono ?_
  rintro e w' ⟨he, hw⟩
  refine ⟨?_, hw⟩
  rw [he]
  apply ret_int
  have h1 := crcS_lt t.data.toList 4294967295 (by omega)
  show 4294967295 - ((crcS 4294967295 t.data.toList : Nat) : Int) = ((4294967295 - crcS 4294967295 t.data.toList : Nat) : Int)
  omega
theorem crc_two (W : World) (g : Nat) (t u : ByteArray) (ht : t.size ≤ 9223372036854775807) (hu : u.size ≤ 9223372036854775807) (hc : W.cell? ⟨g, 0, none⟩ = some (.string t)) (hd : W.cell? ⟨g, 1, none⟩ = some (.string u)) :
    Calls Try.prog 11 #[.slice (some ⟨g, 0, none⟩) 2 2] W fun e w' => e = .returned (.int .i64 (crc (t.data.toList ++ u.data.toList))) ∧ W = w' := by
  refine (crc_any (some ⟨g, 0, none⟩) 2 2 [t, u] W rfl (by omega) (fun k hk => ⟨⟨g, 0, none⟩, rfl, by
      rw [add_lit]
      rcases (show k = 0 ∨ k = 1 by omega) with rfl | rfl
      · exact hc
      · exact hd⟩) (by
      intro s hs
      have : s = t ∨ s = u := by simpa using hs
      rcases this with h | h
      · rw [h]; exact ht
      · rw [h]; exact hu)).mono ?_
  rintro e w' ⟨he, hw⟩
  refine ⟨?_, hw⟩
  rw [he]
  apply ret_int
  have h1 := crcS_lt (t.data.toList ++ u.data.toList) 4294967295 (by omega)
  have e1 : crcAll 4294967295 [t.data.toList, u.data.toList] = crcS 4294967295 (t.data.toList ++ u.data.toList) := by rw [crcAll_flatten]; simp
  show 4294967295 - ((crcAll 4294967295 [t.data.toList, u.data.toList] : Nat) : Int) = ((4294967295 - crcS 4294967295 (t.data.toList ++ u.data.toList) : Nat) : Int)
  rw [e1]; omega
theorem below_undrew {B : Nat} {a w : World} (h : Below B a.drew w) : Below B a w := ⟨h.os, h.tape, h.output, h.size, h.block⟩
theorem newcell (X : World) (g : Nat) (hg : g = X.heap.size) (cs : Array Value) (e : TypeId) (i : Nat) : (X.alloc (.cells cs e)).cell? ⟨g, i, none⟩ = cs[i]? := by
  subst hg
  exact World.cell?_alloc_new _ _ _ _
theorem crc_range (l : List UInt8) : crc l < 4294967296 := by unfold crc; omega
/-- What a text of which one byte was changed is, as a list. -/
theorem changed_ne (s : ByteArray) (k : Nat) (hk : k < s.size) (c' : UInt8) (h : c' ≠ s[k]) : crc (s.data.toList.set k c') ≠ crc s.data.toList := by
  have hk' : k < s.data.toList.length := hk
  have e1 : s.data.toList.set k c' = s.data.toList.take k ++ c' :: s.data.toList.drop (k + 1) := List.set_eq_take_append_cons_drop ▸ by rw [if_pos hk']
  have e2 : s.data.toList = s.data.toList.take k ++ s[k] :: s.data.toList.drop (k + 1) := by
    conv => lhs; rw [← List.take_append_drop k s.data.toList, List.drop_eq_getElem_cons hk']
    rfl
  rw [e1]
  conv => rhs; rw [e2]
  exact crc_changed _ _ _ _ h
theorem xor_byte (c : UInt8) (v : Int) (h : v % 256 ≠ 0) : ∃ c' : UInt8, c' ≠ c ∧ bits .xor .u8 (c.toNat : Int) (v % 256) = ((c'.toNat : Nat) : Int) := by
  obtain ⟨d, hd⟩ : ∃ d : Nat, v % 256 = (d : Int) := ⟨(v % 256).toNat, by omega⟩
  have hc := c.toNat_lt
  have hd1 : 0 < d := by omega
  have hd2 : d < 256 := by omega
  have hx : c.toNat ^^^ d < 256 := Nat.xor_lt_two_pow (n := 8) hc hd2
  refine ⟨UInt8.ofNat (c.toNat ^^^ d), ?_, ?_⟩
  · intro e
    have e2 := congrArg UInt8.toNat e
    rw [UInt8.toNat_ofNat', Nat.mod_eq_of_lt hx] at e2
    have e3 : c.toNat ^^^ d = c.toNat ^^^ 0 := by rw [Nat.xor_zero]; exact e2
    have := xor_cancel' e3
    omega
  · rw [hd, u8_xor_nat _ _ hc hd2, UInt8.toNat_ofNat', Nat.mod_eq_of_lt hx]
set_option maxHeartbeats 1000000 in
theorem walk_NumSums (s : ByteArray) (hs : s.size ≤ maxLen) (at_ : Int) (ha : (Lit.int .i64 at_).wf = true) (by_ : Int) (hby : (Lit.int .i64 by_).wf = true) (cut : Int) (hcut : (Lit.int .i64 cut).wf = true) (w : World) :
    Calls Try.prog 3 #[.string s, .int .i64 at_, .int .i64 by_, .int .i64 cut] w fun e w' => e = .returned (.bool true) ∧ Below w.heap.size w w' := by
  unfold maxLen at hs
  by_cases hbad : 3000 < s.size ∨ s.size = 0 ∨ by_ % 256 = 0 ∨ at_ < 0 ∨ cut < 0
  · have hg : decide ((3000 : Int) < s.size) = true ∨ (decide ((3000 : Int) < s.size) = false ∧ ((s.size : Int) == 0) = true) ∨ (decide ((3000 : Int) < s.size) = false ∧ ((s.size : Int) == 0) = false ∧ (by_ % 256 == 0) = true) ∨ (decide ((3000 : Int) < s.size) = false ∧ ((s.size : Int) == 0) = false ∧ (by_ % 256 == 0) = false ∧ at_ < 0) ∨ (decide ((3000 : Int) < s.size) = false ∧ ((s.size : Int) == 0) = false ∧ (by_ % 256 == 0) = false ∧ ¬ at_ < 0 ∧ cut < 0) := by
      simp only [decide_eq_true_eq, decide_eq_false_iff_not, beq_iff_eq, beq_eq_false_iff_ne]
      omega
    clear hbad
    rcases hg with h1 | ⟨h1, h2⟩ | ⟨h1, h2, h3⟩ | ⟨h1, h2, h3, h4⟩ | ⟨h1, h2, h3, h4, h5⟩
    all_goals
      go_enter Try.func3, Try.ntmps3
      go_wp2_with (go_at_call 10; refine (alive_any _).mono ?_; rintro e w1 ⟨rfl, hb1⟩)
      go_ret
      exact ⟨rfl, hb1⟩
  · obtain ⟨A, rfl⟩ := Int.eq_ofNat_of_zero_le (show 0 ≤ at_ by omega)
    obtain ⟨C, rfl⟩ := Int.eq_ofNat_of_zero_le (show 0 ≤ cut by omega)
    have h1 : ¬ 3000 < s.size := by omega
    have h2 : ((s.size : Int) == 0) = false := by rw [beq_eq_false_iff_ne]; omega
    have h3 : 0 < s.size := by omega
    have h4 : (by_ % 256 == 0) = false := by
      have : by_ % 256 ≠ 0 := fun h => hbad (.inr (.inr (.inl h)))
      simpa using this
    have hcv := run_bytes_of_string (P := Try.prog) w 9 23 5 s Try.underlying9 Try.underlying23 Try.underlying5
    obtain ⟨cap, hcap⟩ : ∃ cap, cap = grownCap w s.size 0 5 := ⟨_, rfl⟩
    have hcge := grownCap_ge w s.size 0 5
    rw [← hcap] at hcv hcge
    obtain ⟨ROW, hROW⟩ : ∃ ROW, ROW = bytesRow s cap := ⟨_, rfl⟩
    rw [← hROW] at hcv
    have hk : A % s.size < s.size := Nat.mod_lt _ h3
    have hlen : s.data.toList.length = s.size := rfl
    have hcell : ∀ j (hj : j < s.size), ROW[j]? = some (.int .u8 (s[j].toNat : Int)) := by
      intro j hj
      have h1 : j < (s.data.map (fun b => Value.int .u8 b.toNat)).size := by rw [Array.size_map]; exact hj
      rw [hROW, bytesRow, Array.getElem?_append_left h1, Array.getElem?_map, Array.getElem?_eq_getElem (show j < s.data.size from hj)]
      rfl
    have hrs : s.size ≤ ROW.size := by
      rw [hROW, bytesRow, Array.size_append, Array.size_map]
      have : s.data.size = s.size := rfl
      omega
    have hc1 : (w.alloc (.cells ROW 5 (ROW.size, ROW.size + 1))).cell? ⟨w.heap.size, A % s.size, none⟩ = some (.int .u8 (s[A % s.size].toNat : Int)) := by
      rw [World.cell?_alloc_mark]; exact hcell _ hk
    have hf1 : (w.alloc (.cells ROW 5 (ROW.size, ROW.size + 1))).frozen? ⟨w.heap.size, A % s.size, none⟩ = false := by
      rw [World.frozen?_alloc_mark]; simp; omega
    obtain ⟨c', hc', hx⟩ := xor_byte s[A % s.size] by_ (fun h => hbad (.inr (.inr (.inl h))))
    have hne := changed_ne s (A % s.size) hk c' hc'
    have hset : ∀ j, j < s.size → (ROW.setIfInBounds (A % s.size) (.int .u8 (c'.toNat : Int)))[j]? = (Lib.byteCells (s.data.toList.set (A % s.size) c'))[j]? := by
      intro j hj
      rw [Lib.byteCells, List.getElem?_map, List.getElem?_set, Array.getElem?_setIfInBounds]
      by_cases hjk : A % s.size = j
      · subst hjk
        rw [if_pos rfl, if_pos rfl, if_pos (by omega), if_pos (by rw [hlen]; omega)]; rfl
      · rw [if_neg hjk, if_neg hjk, hcell j hj, List.getElem?_eq_getElem (show j < s.data.toList.length from hj)]; rfl
    obtain ⟨T, hT⟩ : ∃ T : ByteArray, T = ⟨(s.data.toList.set (A % s.size) c').toArray⟩ := ⟨_, rfl⟩
    have hTl : T.data.toList = s.data.toList.set (A % s.size) c' := by rw [hT]
    rw [← hTl] at hset hne
    have hTs : T.data.toList.length = s.size := by rw [hTl, List.length_set]; rfl
    have HSet := Lib.hid hset
    have HTs := Lib.hid hTs
    have HNe := Lib.hid hne
    have HLen := Lib.hid hlen
    clear hbad hcell hROW hcap hlen hc' hset hTl hT hTs hne
    go_enter Try.func3, Try.ntmps3
    go_wp2_with fail
    refine (crc_one _ _ s (by omega) (by
      rw [World.cell?_drew]
      have hz : ((w.alloc (.cells ROW 5 (ROW.size, ROW.size + 1))).setCell ⟨w.heap.size, A % s.size, none⟩ (.int .u8 (c'.toNat : Int))).heap.size = w.heap.size + 1 := by simp
      rw [← hz, World.cell?_alloc_new]; rfl)).mono ?_
    rintro e w6 ⟨rfl, hw6⟩
    have hb6 : Below w.heap.size w w6 := by
      rw [← hw6]
      exact ((((Below.refl _ _).alloc (Nat.le_refl _) _).setCell (Nat.le_refl _) _).alloc (by simp) _).drew
    have hcell6 : ∀ j, j < s.size → w6.cell? ⟨w.heap.size, j, none⟩ = (Lib.byteCells T.data.toList)[j]? := by
      intro j hj
      rw [← HSet.out j hj, ← hw6]
      have h1 : ((w.alloc (.cells ROW 5 (ROW.size, ROW.size + 1))).setCell ⟨w.heap.size, A % s.size, none⟩ (.int .u8 (c'.toNat : Int))).heap[w.heap.size]? = some (.cells (ROW.setIfInBounds (A % s.size) (.int .u8 (c'.toNat : Int))) 5 (ROW.size, ROW.size + 1)) := by
        have h0 := heap_alloc_new w (.cells ROW 5 (ROW.size, ROW.size + 1))
        unfold World.setCell
        rw [Array.getElem?_modify, if_pos rfl, h0]
        rfl
      rw [World.cell?_drew, World.cell?_alloc_lt _ _ _ (by simp), cell_of_row _ _ _ _ _ _ h1]
    have hz6 : w.heap.size < w6.heap.size := by rw [← hw6]; simp; omega
    clear hw6 hc1 hf1 hcv
    have HCV := Lib.hid fun (w7 : World) (hb7 : Below w6.heap.size w6 w7) => run_string_at (P := Try.prog) (w := w7) (b := w.heap.size) (q := 0) (len := s.size) (cap := cap) (l := T.data.toList) 23 9 5 Try.underlying23 Try.underlying5 Try.underlying9 HTs.out (fun i hi => by
      rw [Nat.zero_add, hb7.cell (p := ⟨w.heap.size, i, none⟩) hz6]; exact hcell6 i hi)
    have hTz : T.size ≤ 9223372036854775807 := by have : T.data.toList.length = T.size := rfl; rw [HTs.out] at this; omega
    have hne1 : (((crc T.data.toList : Nat) : Int) != ((crc s.data.toList : Nat) : Int)) = true := by
      have := HNe.out
      simp; omega
    have hcr32 := crc_range s.data.toList
    have hck : C % s.size ≤ s.size := Nat.le_of_lt (Nat.mod_lt _ h3)
    have hck1 : (C : Int) % (s.size : Int) ≤ (s.size : Int) := by omega
    have hck2 : (0 : Int) ≤ (C : Int) % (s.size : Int) := by omega
    have hparts : (s.extract 0 (C % s.size)).data.toList ++ (s.extract (C % s.size) s.size).data.toList = s.data.toList := by
      rw [Lib.extract_data, Lib.extract_to_end, List.drop_zero, Nat.sub_zero, List.take_append_drop]
    have hsz1 : (s.extract 0 (C % s.size)).size ≤ 9223372036854775807 := by
      have e := congrArg List.length hparts
      rw [List.length_append] at e
      have e1 : (s.extract 0 (C % s.size)).data.toList.length = (s.extract 0 (C % s.size)).size := rfl
      have e2 : s.data.toList.length = s.size := rfl
      omega
    have hsz2 : (s.extract (C % s.size) s.size).size ≤ 9223372036854775807 := by
      have e := congrArg List.length hparts
      rw [List.length_append] at e
      have e1 : (s.extract (C % s.size) s.size).data.toList.length = (s.extract (C % s.size) s.size).size := rfl
      have e2 : s.data.toList.length = s.size := rfl
      omega
    have HParts := Lib.hid hparts
    have hnat : ((C : Int) % (s.size : Int)).toNat = C % s.size := by rw [← Int.natCast_emod]; rfl
    have HTwo := Lib.hid fun (W : World) (g : Nat) (h1 : W.cell? ⟨g, 0, none⟩ = some (.string (s.extract 0 (C % s.size)))) (h2 : W.cell? ⟨g, 1, none⟩ = some (.string (s.extract (C % s.size) s.size))) => crc_two W g _ _ hsz1 hsz2 h1 h2
    rw [hparts] at HTwo
    have HSz := Lib.hid hz6
    clear hcell6 hparts hsz1 hsz2
    go_wp2_with fail
    go_region_held3 (fun W => (convert 23 9 (.slice (some ⟨w.heap.size, 0, none⟩) s.size cap)).run Try.prog W = .ok (.string T) W) (first | exact HCV.out _ ((Below.refl _ _).drew) | exact HCV.out _ hb7' | exact HCV.out _ (hb7'.alloc hb7'.size _) | exact HCV.out _ ((hb7'.alloc hb7'.size _).alloc (hb7'.alloc hb7'.size _).size _)) (first
      | (go_at_call 10; refine (alive_any _).mono ?_; rintro e w7 ⟨rfl, hb7⟩; have hb7' := below_undrew hb7; clear hb7)
      | (go_at_call 11; ((with_reducible refine (crc_one _ _ T hTz (World.cell?_alloc_new _ _ _ _)).mono ?_); rintro e w8 ⟨rfl, rfl⟩))
      | (go_at_call 11; ((with_reducible refine (HTwo.out _ _ (newcell _ _ (by simp) _ _ 0) (newcell _ _ (by simp) _ _ 1)).mono ?_); rintro e w9 ⟨rfl, rfl⟩)))
    have hb7'' : Below w.heap.size w w7 := hb6.trans (hb7'.mono hb6.size)
    go_wp2
    go_ret
    exact ⟨ret_bool (by simp; omega), (hb7''.alloc hb7''.size _).alloc (hb7''.alloc hb7''.size _).size _⟩
/-! ### The row's step -/
set_option maxRecDepth 100000 in
theorem lifted_NumSums (os : Os) (started : os.Started) (H : Type) (enc : TypeId × Value → H) :
    ReturnsInHanded {} Try.checked os 3 .any (Rows.numSumsSpec.pre6 enc Try.prog Try.f3 Rows.numSumsRow.domain false) (Rows.numSumsSpec.post enc Try.prog Try.f3 false true false false) := by
  refine returnsInHanded_of_change_sized (C := Try.checked) own started (by kernel_rfl) Try.func3
    (ChangeSpec.witness6 (enc := enc) (C := Try.checked) false ⟨#[], #[.string ⟨#[]⟩, .int .i64 0, .int .i64 0, .int .i64 0], []⟩ 8 (by kernel_rfl) (by kernel_rfl) (by kernel_rfl) (by kernel_rfl)) ?_
  intro W base args ds gs before hval0 hW hcnd hsz0 _
  have hval : ∀ (j : Nat) t v, Try.f3.params[j]? = some t → args[j]? = some v → Value.okWide Try.prog W .any base t v := hval0
  have hW' := hW
  obtain ⟨p, q, hA0, hV, rfl, hfz, hnd⟩ := hW
  have hA : DataW.TrodAll enc Try.prog W 0 (fun _ => true) true Try.f3.params.toList args.toList ds p := hA0
  have hsz : (DataW.weightsEach Try.prog (Try.f3.params.toList ++ Rows.numSumsSpec.plain.varTypes Try.prog) (ds ++ gs)).all (· ≤ reachBytes) = true := hsz0
  rw [Try.params3] at hA hval hsz
  obtain ⟨v0, vs0, d0, ds0, p0, q0, hargs, rfl, rfl, h0, r0⟩ := trodAll_cons hA
  obtain ⟨v1, vs1, d1, ds1, p1, q1, rfl, rfl, rfl, h1, r1⟩ := trodAll_cons r0
  obtain ⟨v2, vs2, d2, ds2, p2, q2, rfl, rfl, rfl, h2, r2⟩ := trodAll_cons r1
  obtain ⟨v3, vs3, d3, ds3, p3, q3, rfl, rfl, rfl, h3, r3⟩ := trodAll_cons r2
  obtain ⟨rfl, rfl, rfl⟩ := trodAll_nil r3
  obtain rfl : args = #[v0, v1, v2, v3] := by cases args; simp_all
  obtain ⟨hV1, hV2⟩ := trodVars_none hV
  subst hV1 hV2
  obtain ⟨a0, rfl, rfl, rfl, w0⟩ := Go.ChangeMaps.open_string Try.underlying9 (hval 0 9 v0 rfl rfl) h0
  obtain ⟨a1, rfl, rfl, rfl, w1⟩ := open_int Try.underlying3 (hval 1 3 v1 rfl rfl) h1
  obtain ⟨a2, rfl, rfl, rfl, w2⟩ := open_int Try.underlying3 (hval 2 3 v2 rfl rfl) h2
  obtain ⟨a3, rfl, rfl, rfl, w3⟩ := open_int Try.underlying3 (hval 3 3 v3 rfl rfl) h3
  refine (walk_NumSums a0 w0 a1 w1 a2 w2 a3 w3 W).mono fun e W' ⟨he, hb⟩ => ?_
  subst he
  exact ⟨_, rfl, law_post laidOut (by kernel_rfl) rfl hW' rfl Try.underlying4 rfl hb⟩
theorem over_NumSums : Rows.numSumsRow.holds Try.pinned (OpenSpec.ofChange Rows.numSumsSpec) :=
  OpenClaim.holds_of_wide 3 Try.f3 rfl rfl rfl rfl rfl rfl rfl ⟨rfl, rfl, rfl, rfl, rfl⟩ rfl rfl rfl rfl rfl (by kernel_rfl) Try.func3 (by kernel_rfl)
    (of_decide_eq_true (by kernel_rfl)) (by unfold Func.isWrapper; first | (rw [if_pos (by decide +kernel)]; kernel_rfl) | (rw [if_neg (by decide +kernel)]; exact ⟨rfl, rfl⟩))
    (fun os started H enc _ => lifted_NumSums os started H enc)
/-- The statement. -/
theorem NumSums_holds : Rows.NumSumsSaid := over_NumSums
#print axioms NumSums_holds
end Go.Proofs.Ytndkpanjgciimaa
