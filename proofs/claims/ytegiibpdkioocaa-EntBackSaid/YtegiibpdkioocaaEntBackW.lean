/- The walk of arboretumlaw16.EntBack. -/
import Derived.Test.YtegiibpdkioocaaAliveE
import Derived.Test.YtegiibpdkioocaaSmallE
import Derived.Test.YtegiibpdkioocaaSame
import Derived.Test.YtegiibpdkioocaaEntBackP
namespace Go.Proofs.Ytegiibpdkioocaa
open Go.ChangeShapes Go.WideShapes Go.ChangeAt Go.RowKit
set_option linter.unusedVariables false
theorem own_ints {w : World} {base : Nat} {t : TypeId} {ao : Option Addr} {n cap : Nat} {l : List Int} (h : w.ownsRow base t 1 (.slice ao n cap) n (l.map (Value.int .i64))) (hl : l.length = n) (hv : ∀ v ∈ l, -9223372036854775808 ≤ v ∧ v ≤ 9223372036854775807) : IntsOf w ao n l :=
  ⟨hl, hv, fun hn => by
    obtain ⟨g, cap', hv', hb, hlt⟩ := h.form hn
    injection hv' with hv' _ _
    subst hv'
    refine ⟨g, 0, rfl, hlt, fun k v hk => ?_⟩
    have hkl : k < l.length := (List.getElem?_eq_some_iff.1 hk).1
    rw [Nat.zero_add, h.cellAt k (by omega), List.getElem?_map, hk]
    rfl⟩
set_option maxRecDepth 20000 in
set_option maxHeartbeats 8000000 in
theorem walk_EntBack {w : World} (ao : Option Addr) (n c : Nat) (h0 : ∃ l, EntsIn w ao n c l) (bo : Option Addr) (m d : Nat) (h1 : ∃ vs, IntsIn w bo m d vs) :
    Calls Try.prog 5 #[.slice ao n c, .slice bo m d] w fun e w' => e = .returned (.bool true) ∧ Below w.heap.size w w' := by
  obtain ⟨l, h0⟩ := h0
  obtain ⟨vs, h1⟩ := h1
  have hnn : n ≤ 140737488351232 := by have := h0.sz; have := h0.le; omega
  have hmm : m ≤ 140737488351232 := by have := h1.sz; have := h1.le; omega
  have HE := Lib.hid h0
  have HI := Lib.hid h1.of
  have HLn : Hid (l.length = n) := Lib.hid h0.ents.1
  have HLm : Hid (vs.length = m) := Lib.hid h1.len
  clear h0 h1
  go_enter Try.func5, Try.ntmps5
  go_wp2_with fail
  refine (small_any HE.out).mono ?_
  rintro e w1 ⟨r1, rfl, hr1, hb1⟩
  cases r1 with
  | false =>
    clear hr1
    go_wp2_with fail
    refine (aliveE_any _).mono ?_
    rintro e w2 ⟨rfl, hb2⟩
    go_wp2_with fail
    go_ret
    exact ⟨rfl, hb1.trans (hb2.mono hb1.size)⟩
  | true =>
  obtain ⟨h420, hsum⟩ := hr1 rfl
  by_cases h100 : 100 < m
  · go_wp2_with fail
    refine (aliveE_any _).mono ?_
    rintro e w2 ⟨rfl, hb2⟩
    go_wp2_with fail
    go_ret
    exact ⟨rfl, hb1.trans (hb2.mono hb1.size)⟩
  have h100' : m ≤ 100 := by omega
  have HS : Hid ((l.map (·.dt.size)).sum ≤ 17592186044416) := Lib.hid (by change (l.map (·.dt.size)).sum ≤ 12000 at hsum; omega)
  have hpl : (putB l).length ≤ 100000 := by
    have h1 := var1_len (l.length : Int)
    have h2 := entsB_len l
    change (l.map (·.dt.size)).sum ≤ 12000 at hsum
    have := HLn.out
    unfold putB
    rw [List.length_append]
    omega
  have hent : Ents w1 w1.heap.size ao n l := ((HE.out.ents.below hb1).mono hb1.size)
  have HP := Lib.hid (put_any (c := c) hent HE.out.ok (by omega) HS.out)
  have HPl := Lib.hid hpl
  clear h100 hr1 hent hpl hsum
  go_wp2_with fail
  refine HP.out.mono ?_
  rintro e w2 ⟨rfl, hb2⟩
  have hb12 := hb1.trans (hb2.mono hb1.size)
  clear hb1 hb2 HP
  go_wp2_with fail
  refine (RS.new (w0 := w) (B := w.heap.size) ⟨(putB l).toArray⟩ hb12 hb12.size (by have := HPl.out; show (putB l).toArray.size ≤ _; simp; omega)).mono ?_
  rintro e w3 ⟨b, rfl, R3⟩
  rw [bytes_mk] at R3
  have HR3 := Lib.hid R3
  clear R3 hb12
  go_wp2_with fail
  refine (get_any HR3.out).mono ?_
  rintro e w4 ⟨xo, N, cx, rfl, hox, hNl, R4, hg4⟩
  have hEx := ents_own hox
  obtain ⟨L, hL⟩ : ∃ L, L = getAll (putB l, 0) := ⟨_, rfl⟩
  rw [← hL] at hNl R4 hEx
  have HL := Lib.hid hL
  have HNl := Lib.hid hNl
  have HR4 := Lib.hid R4
  have HEx := Lib.hid hEx
  clear hL hNl R4 hEx hox hg4 HR3
  go_wp2_with fail
  go_loopw [7, 8] (fun x i wr => ∃ k : Nat, k ≤ n ∧ i = .int .i64 k ∧ x = .bool (goodB n l k) ∧ wr = w4) (fun _ i _ => n - (intOf i).toNat)
  case atStart => exact ⟨0, Nat.zero_le _, rfl, by rw [goodB_zero]; first | rfl | (congr 1; apply decide_eq_decide.2; omega) | simp, rfl⟩
  case round =>
    obtain ⟨k, hk, rfl, rfl, rfl⟩ := hrel
    by_cases hlt : k < n
    · obtain ⟨g, o, e, rfl, hgB, hek, q1, q2, q3, q4⟩ := (HE.out.ents.below HR4.out.2.1).get hlt
      have hx1 : (0 : Int) ≤ k := by omega
      have hx2 : (k : Int) < n := by omega
      have hsu := goodB_succ n l k e hek
      obtain ⟨G, hG⟩ : ∃ G, G = goodB n l k := ⟨_, rfl⟩
      rw [← hG] at hsu ⊢
      have HSu := Lib.hid hsu
      clear hG hsu hek q1 q2 q3
      cases G with
      | false =>
        go_wp2_with fail
        go_roundw
        case rel => exact ⟨k + 1, by omega, by go_num, by rw [HSu.out]; rfl, trivial⟩
        case measure => simp [intOf]; omega
      | true =>
        by_cases hs : e.dt.size ≤ 2200
        · have hd : decide ((e.dt.size : Int) ≤ 2200) = true := by simp; omega
          go_wp2_with fail
          go_roundw
          case rel => exact ⟨k + 1, by omega, by go_num, by rw [HSu.out]; simp [hs], trivial⟩
          case measure => simp [intOf]; omega
        · have hd : decide ((e.dt.size : Int) ≤ 2200) = false := by simp; omega
          go_wp2_with fail
          go_roundw
          case rel => exact ⟨k + 1, by omega, by go_num, by rw [HSu.out]; simp [hs], trivial⟩
          case measure => simp [intOf]; omega
    · obtain rfl : k = n := by omega
      have hIm : ∀ W, Below w.heap.size w W → Hid (Calls Try.prog 47 #[.slice bo m d] W fun e w' => e = .returned (.string ⟨(memB vs).toArray⟩) ∧ Below W.heap.size W w') := fun W hb => Lib.hid (putMembers_any (HI.out.below hb) (by omega))
      have HIm := Lib.hid hIm
      have hml : (memB vs).length ≤ 2000 := by
        have h1 := var1_len (vs.length : Int)
        have h2 := vars_len vs
        have := HLm.out
        unfold memB
        rw [List.length_append]
        omega
      have HGm : Hid (∀ W, Calls Try.prog 46 #[.string ⟨(memB vs).toArray⟩] W (MemRes (membersP (memB vs)) W)) := Lib.hid (fun W => getMembers_any ⟨(memB vs).toArray⟩ W (by show (memB vs).toArray.size ≤ _; simp; omega))
      clear hIm hml
      -- the way to the members, in a world that has been reached
      have hxs : Hid ((goodB k l k = true ∧ N = k ∧ Ents wr wr.heap.size xo k l ∧ rEnd (getAll (putB l, 0)).2 = 0) ∨ (goodB k l k = false ∧ N ≠ k ∧ rEnd (getAll (putB l, 0)).2 = 2)) := Lib.hid (by
        cases hG : goodB k l k with
        | true =>
          have h1 := goodB_yes HLn.out hG
          have hg := getAll_good l [] h1.1 (fun e he => ⟨HE.out.ok e he, h1.2 e he⟩)
          rw [List.append_nil] at hg
          have hx := HEx.out
          have hn := HNl.out
          rw [HL.out, hg] at hx hn
          dsimp only at hx hn
          have hNk : N = k := by rw [← hn]; exact HLn.out
          subst hNk
          exact .inl ⟨rfl, rfl, hx, by rw [hg]; rfl⟩
        | false =>
          have h1 := short_or l (goodB_no HLn.out hG)
          have hg := getAll_bad l [] (by rw [HLn.out]; omega) HE.out.ok h1
          rw [List.append_nil] at hg
          have hn := HNl.out
          rw [HL.out, hg.1] at hn
          have hk0 : k ≠ 0 := by
            rintro rfl
            have : l = [] := List.eq_nil_of_length_eq_zero HLn.out
            subst this
            simp [goodB] at hG
          have hN0 : N = 0 := hn.symm
          exact .inr ⟨rfl, by omega, by unfold rEnd; rw [hg.2, if_pos (by decide)]⟩)
      rw [← HL.out] at hxs
      have HFin := Lib.hid HR4.out.fin
      obtain ⟨G, hG⟩ : ∃ G, G = goodB k l k := ⟨_, rfl⟩
      rw [← hG] at hxs ⊢
      clear hG
      have hmain : ∀ W : World, Below w.heap.size w W → True := fun _ _ => trivial
      clear hmain
      rcases hxs.out with ⟨hG, hNk, hEn, hEnd⟩ | ⟨hG, hNk, hEnd⟩
      case' inl =>
        subst hG
        subst hNk
        have hEnd' := Lib.hid hEnd
        rw [hEnd] at HFin
        have HSame := Lib.hid (sameE_yes (c := cx) (d := c) hEn ((HE.out.ents.below HR4.out.2.1).mono HR4.out.2.1.size) (by omega))
        have HB4 := Lib.hid HR4.out.2.1
        clear hxs hEn hEnd
        go_wp2_with fail
        refine HSame.out.mono ?_
        rintro e w5 ⟨rfl, hb5⟩
        have HR5 := Lib.hid (HR4.out.step hb5)
        have HF5 := Lib.hid HR5.out.fin
        rw [show rEnd L.2 = 0 from hEnd'.out] at HF5
        clear hb5
        go_wp2_with fail
        refine HF5.out.mono ?_
        rintro e w6 ⟨rfl, rfl⟩
        have HBx : Hid (Below w.heap.size w w5) := Lib.hid HR5.out.2.1
        clear HF5 HR5 HFin HSame HB4
        go_wp2_with fail
      case' inr =>
        subst hG
        rw [hEnd] at HFin
        have HBx : Hid (Below w.heap.size w wr) := Lib.hid HR4.out.2.1
        clear hxs hEnd
        have hdk : ((k : Int) == 0) = false ∨ True := .inr trivial
        clear hdk
        go_wp2_with fail
        refine (sameE_len (w := wr) (ao := xo) (bo := ao) (c := cx) (d := c) hNk).mono ?_
        rintro e w5 ⟨rfl, rfl⟩
        go_wp2_with fail
        refine HFin.out.mono ?_
        rintro e w6 ⟨rfl, rfl⟩
        go_wp2_with fail
      all_goals
        clear HE HLn HS HPl HL HNl HR4 HEx
        try clear HFin
        refine ((HIm.out _ HBx.out).out).mono ?_
        rintro e w7 ⟨rfl, hb7⟩
        have HB7 : Hid (Below w.heap.size w w7) := Lib.hid (HBx.out.trans (hb7.mono HBx.out.size))
        clear hb7 HBx
        go_wp2_with fail
        refine (HGm.out w7).mono ?_
        rintro e w8 ⟨yo, Ny, cy, rfl, hoy, hly, hb8⟩
        have HB8 : Hid (Below w.heap.size w w8) := Lib.hid (HB7.out.trans (hb8.mono HB7.out.size))
        have HM : Hid ((mayB m vs m = true ∧ (membersP (memB vs)).2 = 0 ∧ Ny = m ∧ IntsOf w8 yo Ny vs) ∨ (mayB m vs m = false ∧ (membersP (memB vs)).2 ≠ 0)) := Lib.hid (by
          cases hG : mayB m vs m with
          | true =>
            have hr := mayB_yes HLm.out HI.out.2.1 hG
            rw [hr] at hoy hly
            dsimp only at hoy hly
            exact .inl ⟨rfl, by rw [hr], by rw [← hly]; exact HLm.out, own_ints hoy hly HI.out.2.1⟩
          | false => exact .inr ⟨rfl, mayB_bad HLm.out (by omega) HI.out.2.1 hG⟩)
        obtain ⟨er, her⟩ : ∃ er, er = (membersP (memB vs)).2 := ⟨_, rfl⟩
        rw [← her] at HM ⊢
        clear her hoy hly hb8 HB7 HIm HGm
        have hm3 : (m ≤ 9 ∧ 0 < m ∧ mayB m vs 0 = true) ∨ (m ≤ 9 ∧ m ≤ 0 ∧ mayB m vs 0 = false) ∨ (9 < m ∧ mayB m vs 0 = false) := by
          rw [mayB_zero]
          simp only [Bool.and_eq_true, decide_eq_true_eq, Bool.and_eq_false_iff, decide_eq_false_iff_not]
          omega
        have hfin : ∀ (er : Int) (W : World), True := fun _ _ => trivial
        clear hfin
        rcases hm3 with ⟨hm9, hm0, hz⟩ | ⟨hm9, hm0, hz⟩ | ⟨hm9, hz⟩
        case' inl =>
          have HZ := Lib.hid hz
          clear hz
          go_wp2_with fail
          go_loopw [11, 12] (fun x i wi => ∃ j : Nat, j ≤ m ∧ i = .int .i64 j ∧ x = .bool (mayB m vs j) ∧ Hid (∃ q, wi = w8.drewN q)) (fun _ i _ => m - (intOf i).toNat)
          case atStart => exact ⟨0, Nat.zero_le _, rfl, by rw [HZ.out], Lib.hid ⟨0, rfl⟩⟩
          case' round =>
            obtain ⟨j, hj, rfl, rfl, hq⟩ := hrel
            obtain ⟨q, hq⟩ := hq.out
            subst hq
            by_cases hjl : j < m
            case' pos =>
              obtain ⟨g, o, v, rfl, hgB, hv, q1⟩ := (HI.out.below HB8.out).get hjl
              have hx1 : (0 : Int) ≤ j := by omega
              have hx2 : (j : Int) < m := by omega
              obtain ⟨M, hM⟩ : ∃ M, M = mayB m vs j := ⟨_, rfl⟩
              cases M with
              | false =>
                have HN := Lib.hid (mayB_no v hv hM.symm)
                rw [← hM]
                clear hM hv
                go_wp2_with fail
                go_quiet (fail)
                go_wp2_with fail
                go_roundw
                case rel => exact ⟨j + 1, by omega, by go_num, by rw [HN.out], Lib.hid ⟨_, rfl⟩⟩
                case measure => simp [intOf] <;> omega
              | true =>
                rcases Nat.eq_zero_or_pos j with hj0 | hj0
                · have HN : Hid (mayB m vs (j + 1) = (decide (1 ≤ v) && decide (v ≤ 64))) := Lib.hid (by subst hj0; exact mayB_first v hv hM.symm)
                  have hne : ((j : Int) == 0) = true := by simp [hj0]
                  rw [← hM]
                  clear hM hv hj0
                  by_cases v1 : 1 ≤ v
                  · have d1 : decide (1 ≤ v) = true := by simpa using v1
                    by_cases v2 : v ≤ 64
                    · have d2 : decide (v ≤ 64) = true := by simpa using v2
                      go_wp2_with fail
                      go_quiet (fail)
                      go_wp2_with fail
                      go_roundw
                      case rel => exact ⟨j + 1, by omega, by go_num, by rw [HN.out, d1, d2]; rfl, Lib.hid ⟨_, rfl⟩⟩
                      case measure => simp [intOf] <;> omega
                    · have d2 : decide (v ≤ 64) = false := by simpa using v2
                      go_wp2_with fail
                      go_quiet (fail)
                      go_wp2_with fail
                      go_roundw
                      case rel => exact ⟨j + 1, by omega, by go_num, by rw [HN.out, d2, Bool.and_false], Lib.hid ⟨_, rfl⟩⟩
                      case measure => simp [intOf] <;> omega
                  · have d1 : decide (1 ≤ v) = false := by simpa using v1
                    go_wp2_with fail
                    go_quiet (fail)
                    go_wp2_with fail
                    go_roundw
                    case rel => exact ⟨j + 1, by omega, by go_num, by rw [HN.out, d1]; rfl, Lib.hid ⟨_, rfl⟩⟩
                    case measure => simp [intOf] <;> omega
                · obtain ⟨t, hjt⟩ : ∃ t, j = t + 1 := ⟨j - 1, by omega⟩
                  obtain ⟨p, hp⟩ : ∃ p, vs[t]? = some p := ⟨_, List.getElem?_eq_getElem (by rw [HLm.out]; omega)⟩
                  have hpp : 1 ≤ p ∧ mayB m vs (j + 1) = (decide (p < v) && decide (v ≤ 64)) := by subst hjt; exact mayB_next p v hp hv hM.symm
                  have HN := Lib.hid hpp.2
                  have hp1 := hpp.1
                  obtain ⟨g', o', p', ha', _, hp', r1⟩ := (HI.out.below HB8.out).get (k := t) (by omega)
                  injection ha' with ha'
                  injection ha' with hg' ho' _
                  subst hg'
                  subst ho'
                  rw [hp] at hp'
                  injection hp' with hp'
                  subst hp'
                  have y1 : IntKind.i64.wrap ((j : Int) - 1) = (t : Int) := by rw [IntWalk.i64_in _ (by omega)]; omega
                  have hy1 : (0 : Int) ≤ t := by omega
                  have hy2 : (t : Int) < m := by omega
                  have hne : ((j : Int) == 0) = false := by rw [beq_eq_false_iff_ne]; omega
                  rw [← hM]
                  clear hM hv hp hpp hj0 hjt
                  by_cases v2 : v ≤ 64
                  · have d2 : decide (v ≤ 64) = true := by simpa using v2
                    by_cases v1 : p < v
                    · have d1 : decide (p < v) = true := by simpa using v1
                      have d0 : decide (1 ≤ v) = true := by simp; omega
                      go_wp2_with fail
                      go_quiet (fail)
                      go_wp2_with fail
                      go_roundw
                      case rel => exact ⟨j + 1, by omega, by go_num, by rw [HN.out, d1, d2]; rfl, Lib.hid ⟨_, rfl⟩⟩
                      case measure => simp [intOf] <;> omega
                    · have d1 : decide (p < v) = false := by simpa using v1
                      by_cases v0 : 1 ≤ v
                      · have d0 : decide (1 ≤ v) = true := by simpa using v0
                        go_wp2_with fail
                        go_quiet (fail)
                        go_wp2_with fail
                        go_roundw
                        case rel => exact ⟨j + 1, by omega, by go_num, by rw [HN.out, d1]; rfl, Lib.hid ⟨_, rfl⟩⟩
                        case measure => simp [intOf] <;> omega
                      · have d0 : decide (1 ≤ v) = false := by simpa using v0
                        go_wp2_with fail
                        go_quiet (fail)
                        go_wp2_with fail
                        go_roundw
                        case rel => exact ⟨j + 1, by omega, by go_num, by rw [HN.out, d1]; rfl, Lib.hid ⟨_, rfl⟩⟩
                        case measure => simp [intOf] <;> omega
                  · have d2 : decide (v ≤ 64) = false := by simpa using v2
                    by_cases v0 : 1 ≤ v
                    · have d0 : decide (1 ≤ v) = true := by simpa using v0
                      go_wp2_with fail
                      go_quiet (fail)
                      go_wp2_with fail
                      go_roundw
                      case rel => exact ⟨j + 1, by omega, by go_num, by rw [HN.out, d2, Bool.and_false], Lib.hid ⟨_, rfl⟩⟩
                      case measure => simp [intOf] <;> omega
                    · have d0 : decide (1 ≤ v) = false := by simpa using v0
                      go_wp2_with fail
                      go_quiet (fail)
                      go_wp2_with fail
                      go_roundw
                      case rel => exact ⟨j + 1, by omega, by go_num, by rw [HN.out, d2, Bool.and_false], Lib.hid ⟨_, rfl⟩⟩
                      case measure => simp [intOf] <;> omega
        case' inr.inl =>
          have hzz : ∀ j, j ≤ m → mayB m vs j = false := by
            intro j hj
            obtain rfl : j = 0 := by omega
            exact hz
          have HZ := Lib.hid hzz
          clear hzz
          clear hz
          go_wp2_with fail
          go_loopw [11, 12] (fun x i wi => ∃ j : Nat, j ≤ m ∧ i = .int .i64 j ∧ x = .bool (mayB m vs j) ∧ Hid (∃ q, wi = w8.drewN q)) (fun _ i _ => m - (intOf i).toNat)
          case atStart => exact ⟨0, Nat.zero_le _, rfl, by rw [HZ.out 0 (Nat.zero_le _)]; try (congr 1; simp; omega), Lib.hid ⟨0, rfl⟩⟩
          case' round =>
            obtain ⟨j, hj, rfl, rfl, hq⟩ := hrel
            obtain ⟨q, hq⟩ := hq.out
            subst hq
            have hjl : ¬ j < m := by omega
        case' inr.inr =>
          have HZ := Lib.hid hz
          clear hz
          go_wp2_with fail
          go_loopw [11, 12] (fun x i wi => ∃ j : Nat, j ≤ m ∧ i = .int .i64 j ∧ x = .bool false ∧ Hid (mayB m vs j = false) ∧ Hid (∃ q, wi = w8.drewN q)) (fun _ i _ => m - (intOf i).toNat)
          case atStart => exact ⟨0, Nat.zero_le _, rfl, rfl, HZ, Lib.hid ⟨0, rfl⟩⟩
          case' round =>
            obtain ⟨j, hj, rfl, rfl, HF, hq⟩ := hrel
            obtain ⟨q, hq⟩ := hq.out
            subst hq
            by_cases hjl : j < m
            case' pos =>
              obtain ⟨g, o, v, rfl, hgB, hv, q1⟩ := (HI.out.below HB8.out).get hjl
              have hx1 : (0 : Int) ≤ j := by omega
              have hx2 : (j : Int) < m := by omega
              have HN := Lib.hid (mayB_no v hv HF.out)
              clear hv
              go_wp2_with fail
              go_quiet (fail)
              go_wp2_with fail
              go_roundw
              case rel => exact ⟨j + 1, by omega, by go_num, rfl, HN, Lib.hid ⟨_, rfl⟩⟩
              case measure => simp [intOf] <;> omega
        all_goals
          obtain rfl : j = m := by omega
          rcases HM.out with ⟨hM, he0, hNy, hIy⟩ | ⟨hM, he0⟩
          · first
              | (exfalso; have hh := HF.out; rw [hM] at hh; cases hh; done)
              | (rw [hM]
                 subst he0
                 subst hNy
                 have HIy := Lib.hid hIy
                 have hbq := below_drewN (Below.refl w8.heap.size w8) q
                 clear hM HM hIy
                 go_wp2_with fail
                 refine (aliveE_any _).mono ?_
                 rintro e w9 ⟨rfl, hb9⟩
                 have hb89 : Below w8.heap.size w8 w9 := hbq.trans hb9
                 have HS2 := Lib.hid (sameI_yes (c := cy) (d := d) (HIy.out.below hb89) ((HI.out.below HB8.out).below hb89) (by omega))
                 go_wp2_with fail
                 refine HS2.out.mono ?_
                 rintro e w10 ⟨rfl, hb10⟩
                 go_wp2_with fail
                 go_ret
                 exact ⟨rfl, HB8.out.trans ((hb89.trans (hb10.mono hb89.size)).mono HB8.out.size)⟩)
          · try rw [hM]
            have hd : (er == 0) = false := by simpa using he0
            have hbq := below_drewN (Below.refl w8.heap.size w8) q
            clear hM HM he0
            go_wp2_with fail
            refine (aliveE_any _).mono ?_
            rintro e w9 ⟨rfl, hb9⟩
            have hb89 : Below w8.heap.size w8 w9 := hbq.trans hb9
            go_wp2_with fail
            go_ret
            exact ⟨rfl, HB8.out.trans (hb89.mono HB8.out.size)⟩
end Go.Proofs.Ytegiibpdkioocaa
