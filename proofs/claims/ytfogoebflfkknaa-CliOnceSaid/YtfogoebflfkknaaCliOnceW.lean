/- The walk of arboretumlaw29.CliOnce (printed by wip/gen_clionce.py). -/
import Derived.Test.YtfogoebflfkknaaCliO
import Derived.Test.YtfogoebflfkknaaLightL
import Derived.Laws.Bits64b
namespace Go.Proofs.Ytfogoebflfkknaa
open Go.RowKit
set_option linter.unusedVariables false
theorem and31 (a : Int) : ∃ m : Nat, m ≤ 31 ∧ bits BinOp.and IntKind.i64 a 31 = (m : Int) := by
  have h : (BitVec.ofInt 64 a &&& BitVec.ofInt 64 31).toNat ≤ 31 := by
    rw [BitVec.toNat_and]
    exact Nat.le_trans Nat.and_le_right (by decide)
  refine ⟨_, h, ?_⟩
  show IntKind.i64.wrap ((BitVec.ofInt 64 a &&& BitVec.ofInt 64 31).toNat : Int) = _
  exact IntWalk.i64_in _ (by omega)
theorem three_at (w : World) : ∀ j x, ([1, 2, 3] : List Int)[j]? = some x → (w.alloc (.cells #[.int .i64 1, .int .i64 2, .int .i64 3] 3)).cell? ((⟨w.heap.size, 0, none⟩ : Addr).add j) = some (.int .i64 x) := by
  intro j x hj
  rw [add_lit, blk_cell (heap_alloc_new w _)]
  rcases j with _ | _ | _ | j
  · simp at hj; subst hj; rfl
  · simp at hj; subst hj; rfl
  · simp at hj; subst hj; rfl
  · simp at hj
/-- A step that lies in a block of its own. -/
def LBlk (w : World) (g : Nat) (e : LOp) : Prop := w.heap[g]? = some (.cells e.cells.toArray 71 (0, 0))
theorem LBlk.farC {w0 w w' : World} {B b gn ch cap g : Nat} {v : CliV} {q : List (Int × RepV)} {r : LOp} (h : LBlk w g r) (hC : Cli w0 w B b gn ch cap v q) (hF : FarC w w' b ch) : LBlk w' g r := by
  refine (hF.2 g (blk_lt h) ?_ ?_).trans h
  · intro e
    have := hC.blk
    unfold LBlk at h
    rw [← e, h] at this
    injection this with this
    injection this with _ this
    exact absurd this (by decide)
  · intro e
    obtain ⟨s, r, hc⟩ := hC.chn
    unfold LBlk at h
    rw [← e, h] at hc
    cases hc
theorem LBlk.below {w w' : World} {g : Nat} {r : LOp} (h : LBlk w g r) (hb : Below w.heap.size w w') : LBlk w' g r := (hb.block g (blk_lt h)).trans h
/-- The reply as the law turns it. -/
def fixR (r : RepV) (i : Nat) : RepV := ⟨if r.err = 24 then 0 else r.err, if (if r.err = 24 then 0 else r.err) = 0 ∧ r.num < 1 then 1 + (i : Int) else r.num, r.val⟩
theorem fixR_ok {r : RepV} {i : Nat} (hi : i ≤ 200) (h1 : -9223372036854775808 ≤ r.err ∧ r.err ≤ 9223372036854775807) (h2 : -9223372036854775808 ≤ r.num ∧ r.num ≤ 9223372036854775807) (h3 : r.val.size ≤ 1000) :
    RepOk (fixR r i) ∧ (fixR r i).err ≠ 24 ∧ ((fixR r i).err = 0 → 1 ≤ (fixR r i).num ∧ (fixR r i).num ≤ 9223372036854775807) ∧ (fixR r i).val.size ≤ 2000 := by
  unfold fixR RepOk
  dsimp only
  by_cases a : r.err = 24
  · rw [if_pos a]
    by_cases b : r.num < 1
    · rw [if_pos ⟨rfl, b⟩]; refine ⟨⟨by omega, by omega, by omega⟩, by omega, fun _ => by omega, by omega⟩
    · rw [if_neg (fun h => b h.2)]; refine ⟨⟨by omega, by omega, by omega⟩, by omega, fun _ => by omega, by omega⟩
  · rw [if_neg a]
    by_cases b : r.err = 0 ∧ r.num < 1
    · rw [if_pos b]; refine ⟨⟨by omega, by omega, by omega⟩, by omega, fun _ => by omega, by omega⟩
    · rw [if_neg b]; refine ⟨⟨by omega, by omega, by omega⟩, by omega, fun h => by omega, by omega⟩
/-- What stands at the head of a round. -/
def OnceH (W0 W : World) (b gn ch cap : Nat) (v : CliV) (se sq : Int) (i dn : Nat) : Prop :=
  Cli W0 W W0.heap.size b gn ch cap v [] ∧ CI v se sq i 0 i ∧ dn + (if v.asked then 1 else 0) = v.number
/-- What stands at the head of a tick. -/
def OnceT (W0 W : World) (b gn ch cap : Nat) (v : CliV) (se sq : Int) (i t nb g : Nat) (e : LOp) : Prop :=
  Cli W0 W W0.heap.size b gn ch cap v [] ∧ CI v se sq i t (i + 1) ∧ v.asked = true ∧ v.number = nb ∧ (1 ≤ t → v.opn = true) ∧ LBlk W g e
/-- What stands at the head of the packets' loop. -/
def OnceJ (W0 w4 ws : World) (b gn ch cap : Nat) (v3 v4 : CliV) (se sq : Int) (i t nb g : Nat) (e : LOp) (s5 s6 s7 s16 : Value) : Prop :=
  (s16 = .int .i64 0 ∧ s5 = .int .i64 se ∧ s6 = .int .i64 sq ∧ s7 = .int .i64 v3.num ∧ ws = w4) ∨
  (s16 = .int .i64 1 ∧ ∃ se4 sq4, s5 = .int .i64 se4 ∧ s6 = .int .i64 sq4 ∧ s7 = .int .i64 v4.num ∧ OnceT W0 ws b gn ch cap v4 se4 sq4 i (t + 1) nb g e)

set_option maxRecDepth 20000 in
set_option maxHeartbeats 16000000 in
theorem once_main {ao : Option Addr} {n c : Nat} {l : List LOp} {w : World} (hE : LOps w w.heap.size ao n l) (hok : ∀ e ∈ l, LOpOk e) (hn : n ≤ 4611686018427387904) : Calls Try.prog 6 #[.slice ao n c] w fun e w' => e = .returned (.bool true) ∧ Below w.heap.size w w' := by
  have HLt := Lib.hid (light_any (c := c) hE hn)
  have HE := Lib.hid hE
  have HOk := Lib.hid hok
  have HNw := Lib.hid (new_any ⟨w.heap.size, 0, none⟩ 3 3 [1, 2, 3] (w.alloc (.cells #[.int .i64 1, .int .i64 2, .int .i64 3] 3)) rfl (by omega) (by omega) (by simp) (three_at w) 101 (by omega))
  have HB0 : Hid (Below w.heap.size w (w.alloc (.cells #[.int .i64 1, .int .i64 2, .int .i64 3] 3))) := Lib.hid ((Below.refl _ _).alloc (Nat.le_refl _) _)
  clear hE hok hn
  go_enter Try.func6, Try.ntmps6
  go_wp2_with fail
  refine HLt.out.mono ?_
  rintro e w1 ⟨x, rfl, hx, rfl⟩
  have HX := Lib.hid hx
  clear hx HLt
  cases x
  · clear HX HNw HB0
    go_wp2_with fail
    refine (aliveCl_any _).mono ?_
    rintro e w2 ⟨rfl, hb2⟩
    have HB2 := Lib.hid hb2
    clear hb2
    go_wp2_with fail
    go_ret
    exact ⟨rfl, HB2.out⟩
  · have hn2 : n ≤ 200 := (HX.out rfl).1
    have HFw := Lib.hid (HX.out rfl).2
    clear HX
    go_wp2_with fail
    refine HNw.out.mono ?_
    rintro e w1 ⟨b, gn, ch, cap, rfl, h1⟩
    generalize w.alloc (.cells #[.int .i64 1, .int .i64 2, .int .i64 3] 3) = W0 at h1 HB0
    have HH0 : Hid (OnceH W0 w1 b gn ch cap (newV 101 [1, 2, 3]) 0 0 0 0) := Lib.hid ⟨h1, ⟨rfl, rfl, Nat.zero_le _, Nat.zero_le _, .inl rfl, ⟨by show (0 : Int) ≤ 0; omega, by show (0 : Int) ≤ ((0 : Nat) : Int); omega⟩, by show (0 : Int) ≤ 0 ∧ (0 : Int) ≤ 20; omega, (fun hx => by cases hx), (fun hx => by cases hx), (fun hx => by cases hx)⟩, rfl⟩
    clear h1 HNw
    go_wp2_with fail
    go_loopw [5, 6, 7, 8, 9, 10] (fun s5 s6 s7 s8 s9 s10 wr => ∃ (i : Nat) (v : CliV) (se sq : Int) (dn : Nat), i ≤ n ∧ s5 = .int .i64 se ∧ s6 = .int .i64 sq ∧ s7 = .int .i64 v.num ∧ s8 = .int .i64 v.number ∧ s9 = .int .i64 dn ∧ s10 = .int .i64 i ∧ Hid (OnceH W0 wr b gn ch cap v se sq i dn)) (fun _ _ _ _ _ i _ => n - (intOf i).toNat)
    case atStart => exact ⟨0, newV 101 [1, 2, 3], 0, 0, 0, Nat.zero_le _, rfl, rfl, rfl, rfl, rfl, rfl, HH0⟩
    case round =>
      clear HH0
      obtain ⟨i, v, se, sq, dn, hi, rfl, rfl, rfl, rfl, rfl, rfl, HH⟩ := hrel
      rename World => wA
      have hBA : Below w.heap.size w wA := HB0.out.trans (HH.out.1.below.mono HB0.out.size)
      have HBA := Lib.hid hBA
      by_cases hlt : i < n
      · obtain ⟨bl, oo, rfl, hbl, hc⟩ := HE.out.2 (by omega)
        obtain ⟨e, he⟩ : ∃ e, l[i]? = some e := ⟨l[i]'(by rw [HE.out.1]; exact hlt), List.getElem?_eq_getElem (by rw [HE.out.1]; exact hlt)⟩
        have hmem := List.mem_of_getElem? he
        have hfe := HFw.out e hmem
        have hoe := HOk.out e hmem
        have hcell : ∀ j v, e.cells[j]? = some v → wA.cell? ⟨bl, oo + i * 10 + j, none⟩ = some v := fun j v hj => (hBA.cell (p := ⟨bl, oo + i * 10 + j, none⟩) hbl).trans (hc i e he j v hj)
        obtain ⟨ekd, ea, eb, ekey, eval_, eold, ⟨er, nm, vl⟩, edt⟩ := e
        have y0 : wA.cell? ⟨bl, oo + i * 10, none⟩ = some (.int .i64 ekd) := hcell 0 _ rfl
        have y1 := hcell 1 _ rfl
        have y2 := hcell 2 _ rfl
        have y3 := hcell 3 _ rfl
        have y4 := hcell 4 _ rfl
        have y5 := hcell 5 _ rfl
        have y6 := hcell 6 _ rfl
        have y7 := hcell 7 _ rfl
        have y8 := hcell 8 _ rfl
        have y9 := hcell 9 _ rfl
        have hx1 : (0 : Int) ≤ i := by omega
        have hx2 : (i : Int) < n := by omega
        obtain ⟨m, hm, hand⟩ := and31 ea
        have HA := Lib.hid hand
        have HF := Lib.hid (fixR_ok (r := ⟨er, nm, vl⟩) (i := i) (by omega) hoe.2.2.2.1 hoe.2.2.2.2.1 hfe.2.2.2.1)
        have HEb := Lib.hid hoe.2.2.1
        clear hc he hmem hfe hoe hcell hBA hand
        dsimp only at y1 y2 y3 y4 y5 y6 y7 y8 y9
        have hAl : Below wA.heap.size wA (wA.alloc (.cells #[.int .i64 ekd, .int .i64 ea, .int .i64 eb, .string ekey, .string eval_, .string eold, .int .i64 er, .string vl, .int .i64 nm, .string edt] 71)) := (Below.refl _ _).alloc (Nat.le_refl _) _
        have HC1 := Lib.hid (HH.out.1.step hAl)
        have HL1 : Hid (LBlk (wA.alloc (.cells #[.int .i64 ekd, .int .i64 ea, .int .i64 eb, .string ekey, .string eval_, .string eold, .int .i64 er, .string vl, .int .i64 nm, .string edt] 71)) wA.heap.size ⟨ekd, ea, eb, ekey, eval_, eold, ⟨er, nm, vl⟩, edt⟩) := Lib.hid (heap_alloc_new wA _)
        clear hAl
        go_wp2_with fail
        generalize wA.heap.size = g1 at HL1 ⊢
        generalize wA.alloc (.cells #[.int .i64 ekd, .int .i64 ea, .int .i64 eb, .string ekey, .string eval_, .string eold, .int .i64 er, .string vl, .int .i64 nm, .string edt] 71) = W1 at HC1 HL1 ⊢
        have HS := Lib.hid (ask_once HC1.out HH.out.2.1 (by omega))
        clear y0 y1 y2 y3 y4 y5 y6 y7 y8 y9
        refine HS.out.mono ?_
        rintro e w2 ⟨v2, c2, f2, ha2, hnum2, hcase⟩
        have HL2 := Lib.hid (HL1.out.farC HC1.out f2)
        have HC2 := Lib.hid c2
        have hdn : dn + 1 = v2.number ∧ ∃ se2 sq2, CI v2 se2 sq2 i 0 (i + 1) ∧ ((v.asked = true ∧ se2 = se ∧ sq2 = sq ∧ v2.number = v.number) ∨ (v.asked = false ∧ se2 = 0 ∧ sq2 = 0 ∧ v2.number = v.number + 1)) := by
          have hd := HH.out.2.2
          rcases hcase with ⟨h1, -, h2, h3⟩ | ⟨h1, -, h2, h3⟩
          · rw [if_pos h1] at hd
            exact ⟨by omega, se, sq, h3, .inl ⟨h1, rfl, rfl, h2⟩⟩
          · rw [h1, if_neg (by decide)] at hd
            exact ⟨by omega, 0, 0, h3, .inr ⟨h1, rfl, rfl, h2⟩⟩
        obtain ⟨hdn1, se2, sq2, hci2, hcs⟩ := hdn
        have HD1 := Lib.hid hdn1
        have HI2 := Lib.hid hci2
        have HA2 := Lib.hid (And.intro ha2 hnum2)
        have hee : (e = .returned (.tuple #[.int .i64 0, .int .i64 22]) ∧ se2 = se ∧ sq2 = sq ∧ v2.number = v.number) ∨ (e = .returned (.tuple #[.int .i64 ((v.number : Int) + 1), .int .i64 0]) ∧ se2 = 0 ∧ sq2 = 0 ∧ v2.number = v.number + 1) := by
          rcases hcase with ⟨h1, h2, -, -⟩ | ⟨h1, h2, -, -⟩
          · rcases hcs with ⟨-, h3⟩ | ⟨h3, -⟩
            · exact .inl ⟨h2, h3⟩
            · rw [h1] at h3; cases h3
          · rcases hcs with ⟨h3, -⟩ | ⟨-, h3⟩
            · rw [h1] at h3; cases h3
            · exact .inr ⟨h2, h3⟩
        have hvb : (v.number : Int) ≤ 1000 := by have := HH.out.2.1.number; omega
        have hvb0 : (0 : Int) ≤ v.number := by omega
        clear hcase hcs c2 f2 ha2 hdn1 hci2 HS HC1 HL1 HH
        rcases hee with ⟨rfl, rfl, rfl, hnb⟩ | ⟨rfl, rfl, rfl, hnb⟩
        all_goals
          have hnv : (v.num : Int) = (v2.num : Int) := by omega
          have HNB := Lib.hid hnb
          have HNV := Lib.hid hnv
          clear hnb hnv hnum2
          go_wp2_with fail
        · have hnw : (v.number : Int) = (v2.number : Int) := by have := HNB.out; omega
          rw [HNV.out, hnw]
          clear hnw
          as_aux_lemma =>
            go_loopw [5, 6, 7, 14] (fun s5 s6 s7 s14 wr => ∃ (t : Nat) (v3 : CliV) (se3 sq3 : Int), t ≤ 32 ∧ s5 = .int .i64 se3 ∧ s6 = .int .i64 sq3 ∧ s7 = .int .i64 v3.num ∧ s14 = .int .i64 t ∧ Hid (t ≤ m + 1) ∧ Hid (OnceT W0 wr b gn ch cap v3 se3 sq3 i t v2.number g1 ⟨ekd, ea, eb, ekey, eval_, eold, ⟨er, nm, vl⟩, edt⟩)) (fun _ _ _ k _ => 32 - (intOf k).toNat)
            case atStart => exact ⟨0, v2, se2, sq2, by omega, rfl, rfl, rfl, rfl, Lib.hid (by omega), Lib.hid ⟨HC2.out, HI2.out, HA2.out.1, rfl, (fun h => by omega), HL2.out⟩⟩
            case round =>
              obtain ⟨t, v3, se3, sq3, ht, rfl, rfl, rfl, rfl, HM, HT⟩ := hrel
              rename World => wB
              have z1 : wB.cell? ⟨g1, 1, none⟩ = some (.int .i64 ea) := blk_cell HT.out.2.2.2.2.2 1
              have hand := HA.out
              clear HC2 HI2 HA2 HL2
              by_cases hle : t ≤ m
              · as_aux_lemma =>
                  have q1 : decide (t ≤ m) = true := by simpa using hle
                  have HS := Lib.hid (tick_once HT.out.1 HT.out.2.1 HT.out.2.2.1 (by omega) (by omega))
                  go_wp2_with fail
                  refine HS.out.mono ?_
                  rintro e w4 ⟨v4, c4, f4, ha4, ho4, hn4, hcase⟩
                  have HL4 := Lib.hid (HT.out.2.2.2.2.2.farC HT.out.1 f4)
                  have HC4 := Lib.hid c4
                  have HN4 : Hid (v4.number = v2.number) := Lib.hid (hn4.trans HT.out.2.2.2.1)
                  have HA4 := Lib.hid (And.intro ha4 ho4)
                  have HLE := Lib.hid hle
                  clear c4 f4 ha4 ho4 hn4 HS z1 hand q1 hle
                  rcases hcase with ⟨rfl, hnum4, hci4⟩ | ⟨g4, nd, rfl, hp4, hd1, hd2, hnm, hnb4, hok4, hvl4, hq⟩
                  · have HO4 : Hid (OnceT W0 w4 b gn ch cap v4 se3 sq3 i (t + 1) v2.number g1 ⟨ekd, ea, eb, ekey, eval_, eold, ⟨er, nm, vl⟩, edt⟩) := Lib.hid ⟨HC4.out, hci4, HA4.out.1, HN4.out, (fun _ => HA4.out.2), HL4.out⟩
                    have HNu := Lib.hid hnum4
                    clear hci4 hnum4 HC4 HL4
                    go_wp2_with fail
                    go_loop [5, 6, 7, 16] (fun s5 s6 s7 s16 => s5 = .int .i64 se3 ∧ s6 = .int .i64 sq3 ∧ s7 = .int .i64 v3.num ∧ s16 = .int .i64 0) (fun _ _ _ _ => 0)
                    case atStart => exact ⟨rfl, rfl, rfl, rfl⟩
                    case round =>
                      obtain ⟨rfl, rfl, rfl, rfl⟩ := hrel
                      go_wp2_with fail
                      go_roundw
                      case rel => exact ⟨t + 1, v4, se3, sq3, by have := HLE.out; omega, rfl, rfl, by rw [HNu.out], by go_num, Lib.hid (by have := HLE.out; omega), HO4⟩
                      case measure => have := HLE.out; simp [intOf]; omega
                  · have HP4 := Lib.hid hp4
                    obtain ⟨D, hD⟩ : ∃ D, D = (⟨(askB v4.num v4.qu).toArray⟩ : ByteArray) := ⟨_, rfl⟩
                    have HQ := Lib.hid (fun W => rasked_of (n := (v4.num : Int)) (by omega) hok4 hvl4 W)
                    rw [← hD] at HQ HP4
                    have HQq := Lib.hid hq
                    have HNm := Lib.hid (And.intro hnm hnb4)
                    have k1 : decide (nd < 1) = false := by simp; omega
                    have k2 : decide (3 < nd) = false := by simp; omega
                    clear hp4 hD hq hnm hnb4 hok4 hvl4 hd1 hd2
                    go_wp2_with fail
                    go_loopw [5, 6, 7, 16] (fun s5 s6 s7 s16 ws => OnceJ W0 w4 ws b gn ch cap v3 v4 se3 sq3 i t v2.number g1 ⟨ekd, ea, eb, ekey, eval_, eold, ⟨er, nm, vl⟩, edt⟩ s5 s6 s7 s16) (fun _ _ _ j _ => 1 - (intOf j).toNat)
                    case atStart => exact .inl ⟨rfl, rfl, rfl, rfl, rfl⟩
                    case round =>
                      rcases hrel with ⟨rfl, rfl, rfl, rfl, rfl⟩ | ⟨rfl, se4, sq4, rfl, rfl, rfl, hO⟩
                      · as_aux_lemma =>
                          obtain ⟨-, p1, p2⟩ := HP4.out.facts
                          rcases HQq.out with ⟨hqr, hci⟩ | ⟨qa, qc, hqr, hse, hci⟩
                          · rw [hqr] at HQ
                            unfold RegO OpV.agg at HQ
                            have HCI := Lib.hid hci
                            clear hqr hci HQq
                            go_wp2_with fail
                            refine (HQ.out _).mono ?_
                            rintro e w5 ⟨rfl, hb5⟩
                            have hp5 := HP4.out.below hb5
                            obtain ⟨-, p1, p2⟩ := hp5.facts
                            have hg4 := blk_lt hp5
                            have hnm3 := HNm.out.1
                            have k3 : decide (v4.num < v3.num) = false := by simp; omega
                            have k4 : decide ((v3.num : Int) + 1 < (v4.num : Int)) = false := by simp; omega
                            have k5 : decide (v3.num + 1 < v4.num) = false := by simp; omega
                            have hv3 : (v3.num : Int) ≤ 1000000 := by have := HNm.out; omega
                            have hv0 : (0 : Int) ≤ v3.num := by omega
                            have hal := (Below.refl w5.heap.size w5).alloc (Nat.le_refl _) (.cells #[.int .i64 5, .int .i64 0, .int .i64 101, .string ⟨#[]⟩, .string ⟨#[]⟩, .string ⟨#[]⟩] 23)
                            have HO5 : Hid (OnceT W0 (w5.alloc (.cells #[.int .i64 5, .int .i64 0, .int .i64 101, .string ⟨#[]⟩, .string ⟨#[]⟩, .string ⟨#[]⟩] 23)) b gn ch cap v4 se3 sq3 i (t + 1) v2.number g1 ⟨ekd, ea, eb, ekey, eval_, eold, ⟨er, nm, vl⟩, edt⟩) := Lib.hid ⟨(HC4.out.step hb5).step hal, HCI.out, HA4.out.1, HN4.out, (fun _ => HA4.out.2), (HL4.out.below hb5).below hal⟩
                            clear hp5 hnm3 hal hb5 HQ
                            go_wp2_with fail
                            go_roundw
                            case rel => exact .inr ⟨rfl, se3, sq3, rfl, rfl, rfl, HO5.out⟩
                            case measure => simp [intOf]
                          · rw [hqr] at HQ
                            unfold PutO OpV.agg at HQ
                            have HCI := Lib.hid hci
                            have HSe := Lib.hid hse
                            clear hqr hci hse HQq
                            go_wp2_with fail
                            refine (HQ.out _).mono ?_
                            rintro e w5 ⟨rfl, hb5⟩
                            have hp5 := HP4.out.below hb5
                            obtain ⟨-, p1, p2⟩ := hp5.facts
                            have hg4 := blk_lt hp5
                            have hnm3 := HNm.out.1
                            have k3 : decide (v4.num < v3.num) = false := by simp; omega
                            have k4 : decide ((v3.num : Int) + 1 < (v4.num : Int)) = false := by simp; omega
                            have k5 : decide (v3.num + 1 < v4.num) = false := by simp; omega
                            have hv3 : (v3.num : Int) ≤ 1000000 := by have := HNm.out; omega
                            have hv0 : (0 : Int) ≤ v3.num := by omega
                            have hal := (Below.refl w5.heap.size w5).alloc (Nat.le_refl _) (.cells #[.int .i64 1, .int .i64 qa, .int .i64 qc, .string ⟨#[107]⟩, .string ⟨#[118]⟩, .string ⟨#[]⟩] 23)
                            have HO5 : Hid (OnceT W0 (w5.alloc (.cells #[.int .i64 1, .int .i64 qa, .int .i64 qc, .string ⟨#[107]⟩, .string ⟨#[118]⟩, .string ⟨#[]⟩] 23)) b gn ch cap v4 qa qc i (t + 1) v2.number g1 ⟨ekd, ea, eb, ekey, eval_, eold, ⟨er, nm, vl⟩, edt⟩) := Lib.hid ⟨(HC4.out.step hb5).step hal, HCI.out, HA4.out.1, HN4.out, (fun _ => HA4.out.2), (HL4.out.below hb5).below hal⟩
                            clear hp5 hnm3 hal hb5 HQ
                            have hzz : ((se3 != 0) = false) ∨ ((se3 != 0) = true ∧ (qa != se3) = false ∧ (qc != sq3) = false) := by
                              by_cases hz : se3 = 0
                              · exact .inl (by simp [hz])
                              · rcases HSe.out with h | ⟨h, h'⟩
                                · exact absurd h hz
                                · exact .inr ⟨by simpa using hz, by simp [h], by simp [h']⟩
                            rcases hzz with k6 | ⟨k6, k7, k8⟩
                            all_goals
                              go_wp2_with fail
                              go_quiet (fail)
                              have HO6 : Hid (OnceT W0 ((w5.alloc (.cells #[.int .i64 1, .int .i64 qa, .int .i64 qc, .string ⟨#[107]⟩, .string ⟨#[118]⟩, .string ⟨#[]⟩] 23)).drewN nq) b gn ch cap v4 qa qc i (t + 1) v2.number g1 ⟨ekd, ea, eb, ekey, eval_, eold, ⟨er, nm, vl⟩, edt⟩) := Lib.hid ⟨HO5.out.1.step (below_drewN (Below.refl _ _) nq), HO5.out.2.1, HO5.out.2.2.1, HO5.out.2.2.2.1, HO5.out.2.2.2.2.1, HO5.out.2.2.2.2.2⟩
                              go_wp2_with fail
                              go_roundw
                              case rel => exact .inr ⟨rfl, qa, qc, rfl, rfl, rfl, HO6.out⟩
                              case measure => simp [intOf]
                      · have HO := Lib.hid hO
                        clear hO HQ HQq HP4 k1 k2
                        go_wp2_with fail
                        go_roundw
                        case rel => exact ⟨t + 1, v4, se4, sq4, by have := HLE.out; omega, rfl, rfl, rfl, by go_num, Lib.hid (by have := HLE.out; omega), HO⟩
                        case measure => have := HLE.out; simp [intOf]; omega
              · have htm : t = m + 1 := by have := HM.out; omega
                have HO3 : Hid (v3.opn = true) := Lib.hid (HT.out.2.2.2.2.1 (by omega))
                have q1 : decide (t ≤ m) = false := by simp; omega
                have hLB := HT.out.2.2.2.2.2
                have z2 : wB.cell? ⟨g1, 2, none⟩ = some (.int .i64 eb) := blk_cell hLB 2
                have z6 : wB.cell? ⟨g1, 6, none⟩ = some (.int .i64 er) := blk_cell hLB 6
                have z7 : wB.cell? ⟨g1, 7, none⟩ = some (.string vl) := blk_cell hLB 7
                have z8 : wB.cell? ⟨g1, 8, none⟩ = some (.int .i64 nm) := blk_cell hLB 8
                have hg1 := blk_lt hLB
                have hi200 : (i : Int) ≤ 200 := by omega
                clear hle hLB htm
                by_cases e24 : er = 24
                · have c1 : (er == 24) = true := by simpa using e24
                  by_cases n1 : nm < 1
                  · have c2 : decide (nm < 1) = true := by simpa using n1
                    have hfix : fixR ⟨er, nm, vl⟩ i = ⟨0, 1 + (i : Int), vl⟩ := by unfold fixR; dsimp only; rw [if_pos e24, if_pos ⟨rfl, n1⟩]
                    as_aux_lemma =>
                      have hFx := HF.out
                      rw [hfix] at hFx
                      have HFx := Lib.hid hFx
                      have hvn : (v3.num : Int) ≤ 1000000 := by have := HT.out.2.1.num; omega
                      have HTe := Lib.hid (fun W => rtell_any (v3.num : Int) eb ⟨0, (1 + (i : Int)), vl⟩ (by omega) HEb.out HFx.out.1 W)
                      have HTo := Lib.hid (fun W => told_of (n := (v3.num : Int)) (l := eb) (r := ⟨0, (1 + (i : Int)), vl⟩) (by omega) HEb.out HFx.out.1 HFx.out.2.2.2 W)
                      obtain ⟨DT, hDT⟩ : ∃ D, D = (⟨(tellB (v3.num : Int) eb ⟨0, (1 + (i : Int)), vl⟩).toArray⟩ : ByteArray) := ⟨_, rfl⟩
                      rw [← hDT] at HTe HTo
                      unfold RepV.agg at HTe
                      dsimp only at HTe
                      have hal := (Below.refl wB.heap.size wB).alloc (Nat.le_refl _) (.cells #[.int .i64 0, .string vl, .int .i64 (1 + (i : Int))] 26)
                      have HC5 := Lib.hid (HT.out.1.step hal)
                      clear hfix hFx hvn hDT hal
                      go_wp2_with fail
                      refine (HTe.out _).mono ?_
                      rintro e w6 ⟨rfl, hb6⟩
                      have HC6 := Lib.hid (HC5.out.step hb6)
                      have HS := Lib.hid (take_once HC6.out HT.out.2.1 HT.out.2.2.1 HO3.out (by omega) DT eb ⟨0, (1 + (i : Int)), vl⟩ HFx.out.2.1 (fun h => HFx.out.2.2.1 (by first | exact h | trivial)) HTo.out)
                      clear hb6 HC5 HTe HTo
                      go_wp2_with fail
                      refine HS.out.mono ?_
                      rintro e w7 ⟨rfl, v5, q5, c7, -, hn5, hm5, hq5, hci5⟩
                      have HN5 : Hid (v5.number = v2.number ∧ v5.num = v3.num) := Lib.hid ⟨hn5.trans HT.out.2.2.2.1, hm5⟩
                      have HI5 := Lib.hid hci5
                      rw [show (v3.number : Int) = (v2.number : Int) by have := HT.out.2.2.2.1; omega] at hq5
                      clear hn5 hm5 hci5 HS HC6 HFx
                      rcases hq5 with ⟨rfl, ha5⟩ | ⟨rfl, ha5⟩
                      · have HA5 := Lib.hid ha5
                        have HR := Lib.hid (result_none c7)
                        clear ha5 c7
                        go_wp2_with fail
                        refine HR.out.mono ?_
                        rintro e w8 ⟨rfl, c8, -⟩
                        have HC8 := Lib.hid (c8.step ((Below.refl w8.heap.size w8).alloc (Nat.le_refl _) (.cells #[.int .i64 0, .string ⟨#[]⟩, .int .i64 0] 26)))
                        clear c8 HR
                        go_wp2_with fail
                        go_roundw
                        case rel => exact ⟨i + 1, v5, se3, sq3, dn, by omega, rfl, rfl, by rw [HN5.out.2], by rw [HN5.out.1], rfl, by go_num, Lib.hid ⟨HC8.out, HI5.out, by rw [if_pos HA5.out, HN5.out.1]; exact HD1.out⟩⟩
                        case measure => simp [intOf]; omega
                      · have HA5 := Lib.hid ha5
                        have HR := Lib.hid (result_some c7)
                        clear ha5 c7
                        go_wp2_with fail
                        refine HR.out.mono ?_
                        rintro e w8 ⟨rfl, c8, -⟩
                        have HC8 := Lib.hid (c8.step ((Below.refl w8.heap.size w8).alloc (Nat.le_refl _) (.cells #[.int .i64 0, .string vl, .int .i64 (1 + (i : Int))] 26)))
                        have hd := HD1.out
                        have u1 : decide ((v2.number : Int) < (dn : Int) + 1) = false := by simp; omega
                        have u2 : decide (v2.number < dn + 1) = false := by simp; omega
                        have u3 : (dn : Int) ≤ 1000 := by have := HNB.out; omega
                        have u4 : (0 : Int) ≤ dn := by omega
                        clear c8 HR hd
                        go_wp2_with fail
                        go_roundw
                        case rel => exact ⟨i + 1, v5, se3, sq3, dn + 1, by omega, rfl, rfl, by rw [HN5.out.2], by rw [HN5.out.1], by go_num, by go_num, Lib.hid ⟨HC8.out, HI5.out, by rw [HA5.out, if_neg (by decide), HN5.out.1]; exact HD1.out⟩⟩
                        case measure => simp [intOf]; omega
                  · have c2 : decide (nm < 1) = false := by simpa using n1
                    have hfix : fixR ⟨er, nm, vl⟩ i = ⟨0, nm, vl⟩ := by unfold fixR; dsimp only; rw [if_pos e24, if_neg (fun h => n1 h.2)]
                    as_aux_lemma =>
                      have hFx := HF.out
                      rw [hfix] at hFx
                      have HFx := Lib.hid hFx
                      have hvn : (v3.num : Int) ≤ 1000000 := by have := HT.out.2.1.num; omega
                      have HTe := Lib.hid (fun W => rtell_any (v3.num : Int) eb ⟨0, nm, vl⟩ (by omega) HEb.out HFx.out.1 W)
                      have HTo := Lib.hid (fun W => told_of (n := (v3.num : Int)) (l := eb) (r := ⟨0, nm, vl⟩) (by omega) HEb.out HFx.out.1 HFx.out.2.2.2 W)
                      obtain ⟨DT, hDT⟩ : ∃ D, D = (⟨(tellB (v3.num : Int) eb ⟨0, nm, vl⟩).toArray⟩ : ByteArray) := ⟨_, rfl⟩
                      rw [← hDT] at HTe HTo
                      unfold RepV.agg at HTe
                      dsimp only at HTe
                      have hal := (Below.refl wB.heap.size wB).alloc (Nat.le_refl _) (.cells #[.int .i64 0, .string vl, .int .i64 nm] 26)
                      have HC5 := Lib.hid (HT.out.1.step hal)
                      clear hfix hFx hvn hDT hal
                      go_wp2_with fail
                      refine (HTe.out _).mono ?_
                      rintro e w6 ⟨rfl, hb6⟩
                      have HC6 := Lib.hid (HC5.out.step hb6)
                      have HS := Lib.hid (take_once HC6.out HT.out.2.1 HT.out.2.2.1 HO3.out (by omega) DT eb ⟨0, nm, vl⟩ HFx.out.2.1 (fun h => HFx.out.2.2.1 (by first | exact h | trivial)) HTo.out)
                      clear hb6 HC5 HTe HTo
                      go_wp2_with fail
                      refine HS.out.mono ?_
                      rintro e w7 ⟨rfl, v5, q5, c7, -, hn5, hm5, hq5, hci5⟩
                      have HN5 : Hid (v5.number = v2.number ∧ v5.num = v3.num) := Lib.hid ⟨hn5.trans HT.out.2.2.2.1, hm5⟩
                      have HI5 := Lib.hid hci5
                      rw [show (v3.number : Int) = (v2.number : Int) by have := HT.out.2.2.2.1; omega] at hq5
                      clear hn5 hm5 hci5 HS HC6 HFx
                      rcases hq5 with ⟨rfl, ha5⟩ | ⟨rfl, ha5⟩
                      · have HA5 := Lib.hid ha5
                        have HR := Lib.hid (result_none c7)
                        clear ha5 c7
                        go_wp2_with fail
                        refine HR.out.mono ?_
                        rintro e w8 ⟨rfl, c8, -⟩
                        have HC8 := Lib.hid (c8.step ((Below.refl w8.heap.size w8).alloc (Nat.le_refl _) (.cells #[.int .i64 0, .string ⟨#[]⟩, .int .i64 0] 26)))
                        clear c8 HR
                        go_wp2_with fail
                        go_roundw
                        case rel => exact ⟨i + 1, v5, se3, sq3, dn, by omega, rfl, rfl, by rw [HN5.out.2], by rw [HN5.out.1], rfl, by go_num, Lib.hid ⟨HC8.out, HI5.out, by rw [if_pos HA5.out, HN5.out.1]; exact HD1.out⟩⟩
                        case measure => simp [intOf]; omega
                      · have HA5 := Lib.hid ha5
                        have HR := Lib.hid (result_some c7)
                        clear ha5 c7
                        go_wp2_with fail
                        refine HR.out.mono ?_
                        rintro e w8 ⟨rfl, c8, -⟩
                        have HC8 := Lib.hid (c8.step ((Below.refl w8.heap.size w8).alloc (Nat.le_refl _) (.cells #[.int .i64 0, .string vl, .int .i64 nm] 26)))
                        have hd := HD1.out
                        have u1 : decide ((v2.number : Int) < (dn : Int) + 1) = false := by simp; omega
                        have u2 : decide (v2.number < dn + 1) = false := by simp; omega
                        have u3 : (dn : Int) ≤ 1000 := by have := HNB.out; omega
                        have u4 : (0 : Int) ≤ dn := by omega
                        clear c8 HR hd
                        go_wp2_with fail
                        go_roundw
                        case rel => exact ⟨i + 1, v5, se3, sq3, dn + 1, by omega, rfl, rfl, by rw [HN5.out.2], by rw [HN5.out.1], by go_num, by go_num, Lib.hid ⟨HC8.out, HI5.out, by rw [HA5.out, if_neg (by decide), HN5.out.1]; exact HD1.out⟩⟩
                        case measure => simp [intOf]; omega
                · have c1 : (er == 24) = false := by simpa using e24
                  by_cases e0 : er = 0
                  · have c3 : (er == 0) = true := by simpa using e0
                    by_cases n1 : nm < 1
                    · have c2 : decide (nm < 1) = true := by simpa using n1
                      have hfix : fixR ⟨er, nm, vl⟩ i = ⟨er, 1 + (i : Int), vl⟩ := by unfold fixR; dsimp only; rw [if_neg e24, if_pos ⟨e0, n1⟩]
                      clear e0
                      as_aux_lemma =>
                        have hFx := HF.out
                        rw [hfix] at hFx
                        have HFx := Lib.hid hFx
                        have hvn : (v3.num : Int) ≤ 1000000 := by have := HT.out.2.1.num; omega
                        have HTe := Lib.hid (fun W => rtell_any (v3.num : Int) eb ⟨er, (1 + (i : Int)), vl⟩ (by omega) HEb.out HFx.out.1 W)
                        have HTo := Lib.hid (fun W => told_of (n := (v3.num : Int)) (l := eb) (r := ⟨er, (1 + (i : Int)), vl⟩) (by omega) HEb.out HFx.out.1 HFx.out.2.2.2 W)
                        obtain ⟨DT, hDT⟩ : ∃ D, D = (⟨(tellB (v3.num : Int) eb ⟨er, (1 + (i : Int)), vl⟩).toArray⟩ : ByteArray) := ⟨_, rfl⟩
                        rw [← hDT] at HTe HTo
                        unfold RepV.agg at HTe
                        dsimp only at HTe
                        have hal := (Below.refl wB.heap.size wB).alloc (Nat.le_refl _) (.cells #[.int .i64 er, .string vl, .int .i64 (1 + (i : Int))] 26)
                        have HC5 := Lib.hid (HT.out.1.step hal)
                        clear hfix hFx hvn hDT hal
                        go_wp2_with fail
                        refine (HTe.out _).mono ?_
                        rintro e w6 ⟨rfl, hb6⟩
                        have HC6 := Lib.hid (HC5.out.step hb6)
                        have HS := Lib.hid (take_once HC6.out HT.out.2.1 HT.out.2.2.1 HO3.out (by omega) DT eb ⟨er, (1 + (i : Int)), vl⟩ HFx.out.2.1 (fun h => HFx.out.2.2.1 (by first | exact h | trivial)) HTo.out)
                        clear hb6 HC5 HTe HTo
                        go_wp2_with fail
                        refine HS.out.mono ?_
                        rintro e w7 ⟨rfl, v5, q5, c7, -, hn5, hm5, hq5, hci5⟩
                        have HN5 : Hid (v5.number = v2.number ∧ v5.num = v3.num) := Lib.hid ⟨hn5.trans HT.out.2.2.2.1, hm5⟩
                        have HI5 := Lib.hid hci5
                        rw [show (v3.number : Int) = (v2.number : Int) by have := HT.out.2.2.2.1; omega] at hq5
                        clear hn5 hm5 hci5 HS HC6 HFx
                        rcases hq5 with ⟨rfl, ha5⟩ | ⟨rfl, ha5⟩
                        · have HA5 := Lib.hid ha5
                          have HR := Lib.hid (result_none c7)
                          clear ha5 c7
                          go_wp2_with fail
                          refine HR.out.mono ?_
                          rintro e w8 ⟨rfl, c8, -⟩
                          have HC8 := Lib.hid (c8.step ((Below.refl w8.heap.size w8).alloc (Nat.le_refl _) (.cells #[.int .i64 0, .string ⟨#[]⟩, .int .i64 0] 26)))
                          clear c8 HR
                          go_wp2_with fail
                          go_roundw
                          case rel => exact ⟨i + 1, v5, se3, sq3, dn, by omega, rfl, rfl, by rw [HN5.out.2], by rw [HN5.out.1], rfl, by go_num, Lib.hid ⟨HC8.out, HI5.out, by rw [if_pos HA5.out, HN5.out.1]; exact HD1.out⟩⟩
                          case measure => simp [intOf]; omega
                        · have HA5 := Lib.hid ha5
                          have HR := Lib.hid (result_some c7)
                          clear ha5 c7
                          go_wp2_with fail
                          refine HR.out.mono ?_
                          rintro e w8 ⟨rfl, c8, -⟩
                          have HC8 := Lib.hid (c8.step ((Below.refl w8.heap.size w8).alloc (Nat.le_refl _) (.cells #[.int .i64 er, .string vl, .int .i64 (1 + (i : Int))] 26)))
                          have hd := HD1.out
                          have u1 : decide ((v2.number : Int) < (dn : Int) + 1) = false := by simp; omega
                          have u2 : decide (v2.number < dn + 1) = false := by simp; omega
                          have u3 : (dn : Int) ≤ 1000 := by have := HNB.out; omega
                          have u4 : (0 : Int) ≤ dn := by omega
                          clear c8 HR hd
                          go_wp2_with fail
                          go_roundw
                          case rel => exact ⟨i + 1, v5, se3, sq3, dn + 1, by omega, rfl, rfl, by rw [HN5.out.2], by rw [HN5.out.1], by go_num, by go_num, Lib.hid ⟨HC8.out, HI5.out, by rw [HA5.out, if_neg (by decide), HN5.out.1]; exact HD1.out⟩⟩
                          case measure => simp [intOf]; omega
                    · have c2 : decide (nm < 1) = false := by simpa using n1
                      have hfix : fixR ⟨er, nm, vl⟩ i = ⟨er, nm, vl⟩ := by unfold fixR; dsimp only; rw [if_neg e24, if_neg (fun h => n1 h.2)]
                      clear e0
                      as_aux_lemma =>
                        have hFx := HF.out
                        rw [hfix] at hFx
                        have HFx := Lib.hid hFx
                        have hvn : (v3.num : Int) ≤ 1000000 := by have := HT.out.2.1.num; omega
                        have HTe := Lib.hid (fun W => rtell_any (v3.num : Int) eb ⟨er, nm, vl⟩ (by omega) HEb.out HFx.out.1 W)
                        have HTo := Lib.hid (fun W => told_of (n := (v3.num : Int)) (l := eb) (r := ⟨er, nm, vl⟩) (by omega) HEb.out HFx.out.1 HFx.out.2.2.2 W)
                        obtain ⟨DT, hDT⟩ : ∃ D, D = (⟨(tellB (v3.num : Int) eb ⟨er, nm, vl⟩).toArray⟩ : ByteArray) := ⟨_, rfl⟩
                        rw [← hDT] at HTe HTo
                        unfold RepV.agg at HTe
                        dsimp only at HTe
                        have hal := (Below.refl wB.heap.size wB).alloc (Nat.le_refl _) (.cells #[.int .i64 er, .string vl, .int .i64 nm] 26)
                        have HC5 := Lib.hid (HT.out.1.step hal)
                        clear hfix hFx hvn hDT hal
                        go_wp2_with fail
                        refine (HTe.out _).mono ?_
                        rintro e w6 ⟨rfl, hb6⟩
                        have HC6 := Lib.hid (HC5.out.step hb6)
                        have HS := Lib.hid (take_once HC6.out HT.out.2.1 HT.out.2.2.1 HO3.out (by omega) DT eb ⟨er, nm, vl⟩ HFx.out.2.1 (fun h => HFx.out.2.2.1 (by first | exact h | trivial)) HTo.out)
                        clear hb6 HC5 HTe HTo
                        go_wp2_with fail
                        refine HS.out.mono ?_
                        rintro e w7 ⟨rfl, v5, q5, c7, -, hn5, hm5, hq5, hci5⟩
                        have HN5 : Hid (v5.number = v2.number ∧ v5.num = v3.num) := Lib.hid ⟨hn5.trans HT.out.2.2.2.1, hm5⟩
                        have HI5 := Lib.hid hci5
                        rw [show (v3.number : Int) = (v2.number : Int) by have := HT.out.2.2.2.1; omega] at hq5
                        clear hn5 hm5 hci5 HS HC6 HFx
                        rcases hq5 with ⟨rfl, ha5⟩ | ⟨rfl, ha5⟩
                        · have HA5 := Lib.hid ha5
                          have HR := Lib.hid (result_none c7)
                          clear ha5 c7
                          go_wp2_with fail
                          refine HR.out.mono ?_
                          rintro e w8 ⟨rfl, c8, -⟩
                          have HC8 := Lib.hid (c8.step ((Below.refl w8.heap.size w8).alloc (Nat.le_refl _) (.cells #[.int .i64 0, .string ⟨#[]⟩, .int .i64 0] 26)))
                          clear c8 HR
                          go_wp2_with fail
                          go_roundw
                          case rel => exact ⟨i + 1, v5, se3, sq3, dn, by omega, rfl, rfl, by rw [HN5.out.2], by rw [HN5.out.1], rfl, by go_num, Lib.hid ⟨HC8.out, HI5.out, by rw [if_pos HA5.out, HN5.out.1]; exact HD1.out⟩⟩
                          case measure => simp [intOf]; omega
                        · have HA5 := Lib.hid ha5
                          have HR := Lib.hid (result_some c7)
                          clear ha5 c7
                          go_wp2_with fail
                          refine HR.out.mono ?_
                          rintro e w8 ⟨rfl, c8, -⟩
                          have HC8 := Lib.hid (c8.step ((Below.refl w8.heap.size w8).alloc (Nat.le_refl _) (.cells #[.int .i64 er, .string vl, .int .i64 nm] 26)))
                          have hd := HD1.out
                          have u1 : decide ((v2.number : Int) < (dn : Int) + 1) = false := by simp; omega
                          have u2 : decide (v2.number < dn + 1) = false := by simp; omega
                          have u3 : (dn : Int) ≤ 1000 := by have := HNB.out; omega
                          have u4 : (0 : Int) ≤ dn := by omega
                          clear c8 HR hd
                          go_wp2_with fail
                          go_roundw
                          case rel => exact ⟨i + 1, v5, se3, sq3, dn + 1, by omega, rfl, rfl, by rw [HN5.out.2], by rw [HN5.out.1], by go_num, by go_num, Lib.hid ⟨HC8.out, HI5.out, by rw [HA5.out, if_neg (by decide), HN5.out.1]; exact HD1.out⟩⟩
                          case measure => simp [intOf]; omega
                  · have c3 : (er == 0) = false := by simpa using e0
                    have hfix : fixR ⟨er, nm, vl⟩ i = ⟨er, nm, vl⟩ := by unfold fixR; dsimp only; rw [if_neg e24, if_neg (fun h => e0 h.1)]
                    as_aux_lemma =>
                      have hFx := HF.out
                      rw [hfix] at hFx
                      have HFx := Lib.hid hFx
                      have hvn : (v3.num : Int) ≤ 1000000 := by have := HT.out.2.1.num; omega
                      have HTe := Lib.hid (fun W => rtell_any (v3.num : Int) eb ⟨er, nm, vl⟩ (by omega) HEb.out HFx.out.1 W)
                      have HTo := Lib.hid (fun W => told_of (n := (v3.num : Int)) (l := eb) (r := ⟨er, nm, vl⟩) (by omega) HEb.out HFx.out.1 HFx.out.2.2.2 W)
                      obtain ⟨DT, hDT⟩ : ∃ D, D = (⟨(tellB (v3.num : Int) eb ⟨er, nm, vl⟩).toArray⟩ : ByteArray) := ⟨_, rfl⟩
                      rw [← hDT] at HTe HTo
                      unfold RepV.agg at HTe
                      dsimp only at HTe
                      have hal := (Below.refl wB.heap.size wB).alloc (Nat.le_refl _) (.cells #[.int .i64 er, .string vl, .int .i64 nm] 26)
                      have HC5 := Lib.hid (HT.out.1.step hal)
                      clear hfix hFx hvn hDT hal
                      go_wp2_with fail
                      refine (HTe.out _).mono ?_
                      rintro e w6 ⟨rfl, hb6⟩
                      have HC6 := Lib.hid (HC5.out.step hb6)
                      have HS := Lib.hid (take_once HC6.out HT.out.2.1 HT.out.2.2.1 HO3.out (by omega) DT eb ⟨er, nm, vl⟩ HFx.out.2.1 (fun h => HFx.out.2.2.1 (by first | exact h | trivial)) HTo.out)
                      clear hb6 HC5 HTe HTo
                      go_wp2_with fail
                      refine HS.out.mono ?_
                      rintro e w7 ⟨rfl, v5, q5, c7, -, hn5, hm5, hq5, hci5⟩
                      have HN5 : Hid (v5.number = v2.number ∧ v5.num = v3.num) := Lib.hid ⟨hn5.trans HT.out.2.2.2.1, hm5⟩
                      have HI5 := Lib.hid hci5
                      rw [show (v3.number : Int) = (v2.number : Int) by have := HT.out.2.2.2.1; omega] at hq5
                      clear hn5 hm5 hci5 HS HC6 HFx
                      rcases hq5 with ⟨rfl, ha5⟩ | ⟨rfl, ha5⟩
                      · have HA5 := Lib.hid ha5
                        have HR := Lib.hid (result_none c7)
                        clear ha5 c7
                        go_wp2_with fail
                        refine HR.out.mono ?_
                        rintro e w8 ⟨rfl, c8, -⟩
                        have HC8 := Lib.hid (c8.step ((Below.refl w8.heap.size w8).alloc (Nat.le_refl _) (.cells #[.int .i64 0, .string ⟨#[]⟩, .int .i64 0] 26)))
                        clear c8 HR
                        go_wp2_with fail
                        go_roundw
                        case rel => exact ⟨i + 1, v5, se3, sq3, dn, by omega, rfl, rfl, by rw [HN5.out.2], by rw [HN5.out.1], rfl, by go_num, Lib.hid ⟨HC8.out, HI5.out, by rw [if_pos HA5.out, HN5.out.1]; exact HD1.out⟩⟩
                        case measure => simp [intOf]; omega
                      · have HA5 := Lib.hid ha5
                        have HR := Lib.hid (result_some c7)
                        clear ha5 c7
                        go_wp2_with fail
                        refine HR.out.mono ?_
                        rintro e w8 ⟨rfl, c8, -⟩
                        have HC8 := Lib.hid (c8.step ((Below.refl w8.heap.size w8).alloc (Nat.le_refl _) (.cells #[.int .i64 er, .string vl, .int .i64 nm] 26)))
                        have hd := HD1.out
                        have u1 : decide ((v2.number : Int) < (dn : Int) + 1) = false := by simp; omega
                        have u2 : decide (v2.number < dn + 1) = false := by simp; omega
                        have u3 : (dn : Int) ≤ 1000 := by have := HNB.out; omega
                        have u4 : (0 : Int) ≤ dn := by omega
                        clear c8 HR hd
                        go_wp2_with fail
                        go_roundw
                        case rel => exact ⟨i + 1, v5, se3, sq3, dn + 1, by omega, rfl, rfl, by rw [HN5.out.2], by rw [HN5.out.1], by go_num, by go_num, Lib.hid ⟨HC8.out, HI5.out, by rw [HA5.out, if_neg (by decide), HN5.out.1]; exact HD1.out⟩⟩
                        case measure => simp [intOf]; omega
        · have hnw : (v.number : Int) + 1 = (v2.number : Int) := by have := HNB.out; omega
          rw [HNV.out, hnw]
          clear hnw
          as_aux_lemma =>
            go_loopw [5, 6, 7, 14] (fun s5 s6 s7 s14 wr => ∃ (t : Nat) (v3 : CliV) (se3 sq3 : Int), t ≤ 32 ∧ s5 = .int .i64 se3 ∧ s6 = .int .i64 sq3 ∧ s7 = .int .i64 v3.num ∧ s14 = .int .i64 t ∧ Hid (t ≤ m + 1) ∧ Hid (OnceT W0 wr b gn ch cap v3 se3 sq3 i t v2.number g1 ⟨ekd, ea, eb, ekey, eval_, eold, ⟨er, nm, vl⟩, edt⟩)) (fun _ _ _ k _ => 32 - (intOf k).toNat)
            case atStart => exact ⟨0, v2, 0, 0, by omega, rfl, rfl, rfl, rfl, Lib.hid (by omega), Lib.hid ⟨HC2.out, HI2.out, HA2.out.1, rfl, (fun h => by omega), HL2.out⟩⟩
            case round =>
              obtain ⟨t, v3, se3, sq3, ht, rfl, rfl, rfl, rfl, HM, HT⟩ := hrel
              rename World => wB
              have z1 : wB.cell? ⟨g1, 1, none⟩ = some (.int .i64 ea) := blk_cell HT.out.2.2.2.2.2 1
              have hand := HA.out
              clear HC2 HI2 HA2 HL2
              by_cases hle : t ≤ m
              · as_aux_lemma =>
                  have q1 : decide (t ≤ m) = true := by simpa using hle
                  have HS := Lib.hid (tick_once HT.out.1 HT.out.2.1 HT.out.2.2.1 (by omega) (by omega))
                  go_wp2_with fail
                  refine HS.out.mono ?_
                  rintro e w4 ⟨v4, c4, f4, ha4, ho4, hn4, hcase⟩
                  have HL4 := Lib.hid (HT.out.2.2.2.2.2.farC HT.out.1 f4)
                  have HC4 := Lib.hid c4
                  have HN4 : Hid (v4.number = v2.number) := Lib.hid (hn4.trans HT.out.2.2.2.1)
                  have HA4 := Lib.hid (And.intro ha4 ho4)
                  have HLE := Lib.hid hle
                  clear c4 f4 ha4 ho4 hn4 HS z1 hand q1 hle
                  rcases hcase with ⟨rfl, hnum4, hci4⟩ | ⟨g4, nd, rfl, hp4, hd1, hd2, hnm, hnb4, hok4, hvl4, hq⟩
                  · have HO4 : Hid (OnceT W0 w4 b gn ch cap v4 se3 sq3 i (t + 1) v2.number g1 ⟨ekd, ea, eb, ekey, eval_, eold, ⟨er, nm, vl⟩, edt⟩) := Lib.hid ⟨HC4.out, hci4, HA4.out.1, HN4.out, (fun _ => HA4.out.2), HL4.out⟩
                    have HNu := Lib.hid hnum4
                    clear hci4 hnum4 HC4 HL4
                    go_wp2_with fail
                    go_loop [5, 6, 7, 16] (fun s5 s6 s7 s16 => s5 = .int .i64 se3 ∧ s6 = .int .i64 sq3 ∧ s7 = .int .i64 v3.num ∧ s16 = .int .i64 0) (fun _ _ _ _ => 0)
                    case atStart => exact ⟨rfl, rfl, rfl, rfl⟩
                    case round =>
                      obtain ⟨rfl, rfl, rfl, rfl⟩ := hrel
                      go_wp2_with fail
                      go_roundw
                      case rel => exact ⟨t + 1, v4, se3, sq3, by have := HLE.out; omega, rfl, rfl, by rw [HNu.out], by go_num, Lib.hid (by have := HLE.out; omega), HO4⟩
                      case measure => have := HLE.out; simp [intOf]; omega
                  · have HP4 := Lib.hid hp4
                    obtain ⟨D, hD⟩ : ∃ D, D = (⟨(askB v4.num v4.qu).toArray⟩ : ByteArray) := ⟨_, rfl⟩
                    have HQ := Lib.hid (fun W => rasked_of (n := (v4.num : Int)) (by omega) hok4 hvl4 W)
                    rw [← hD] at HQ HP4
                    have HQq := Lib.hid hq
                    have HNm := Lib.hid (And.intro hnm hnb4)
                    have k1 : decide (nd < 1) = false := by simp; omega
                    have k2 : decide (3 < nd) = false := by simp; omega
                    clear hp4 hD hq hnm hnb4 hok4 hvl4 hd1 hd2
                    go_wp2_with fail
                    go_loopw [5, 6, 7, 16] (fun s5 s6 s7 s16 ws => OnceJ W0 w4 ws b gn ch cap v3 v4 se3 sq3 i t v2.number g1 ⟨ekd, ea, eb, ekey, eval_, eold, ⟨er, nm, vl⟩, edt⟩ s5 s6 s7 s16) (fun _ _ _ j _ => 1 - (intOf j).toNat)
                    case atStart => exact .inl ⟨rfl, rfl, rfl, rfl, rfl⟩
                    case round =>
                      rcases hrel with ⟨rfl, rfl, rfl, rfl, rfl⟩ | ⟨rfl, se4, sq4, rfl, rfl, rfl, hO⟩
                      · as_aux_lemma =>
                          obtain ⟨-, p1, p2⟩ := HP4.out.facts
                          rcases HQq.out with ⟨hqr, hci⟩ | ⟨qa, qc, hqr, hse, hci⟩
                          · rw [hqr] at HQ
                            unfold RegO OpV.agg at HQ
                            have HCI := Lib.hid hci
                            clear hqr hci HQq
                            go_wp2_with fail
                            refine (HQ.out _).mono ?_
                            rintro e w5 ⟨rfl, hb5⟩
                            have hp5 := HP4.out.below hb5
                            obtain ⟨-, p1, p2⟩ := hp5.facts
                            have hg4 := blk_lt hp5
                            have hnm3 := HNm.out.1
                            have k3 : decide (v4.num < v3.num) = false := by simp; omega
                            have k4 : decide ((v3.num : Int) + 1 < (v4.num : Int)) = false := by simp; omega
                            have k5 : decide (v3.num + 1 < v4.num) = false := by simp; omega
                            have hv3 : (v3.num : Int) ≤ 1000000 := by have := HNm.out; omega
                            have hv0 : (0 : Int) ≤ v3.num := by omega
                            have hal := (Below.refl w5.heap.size w5).alloc (Nat.le_refl _) (.cells #[.int .i64 5, .int .i64 0, .int .i64 101, .string ⟨#[]⟩, .string ⟨#[]⟩, .string ⟨#[]⟩] 23)
                            have HO5 : Hid (OnceT W0 (w5.alloc (.cells #[.int .i64 5, .int .i64 0, .int .i64 101, .string ⟨#[]⟩, .string ⟨#[]⟩, .string ⟨#[]⟩] 23)) b gn ch cap v4 se3 sq3 i (t + 1) v2.number g1 ⟨ekd, ea, eb, ekey, eval_, eold, ⟨er, nm, vl⟩, edt⟩) := Lib.hid ⟨(HC4.out.step hb5).step hal, HCI.out, HA4.out.1, HN4.out, (fun _ => HA4.out.2), (HL4.out.below hb5).below hal⟩
                            clear hp5 hnm3 hal hb5 HQ
                            go_wp2_with fail
                            go_roundw
                            case rel => exact .inr ⟨rfl, se3, sq3, rfl, rfl, rfl, HO5.out⟩
                            case measure => simp [intOf]
                          · rw [hqr] at HQ
                            unfold PutO OpV.agg at HQ
                            have HCI := Lib.hid hci
                            have HSe := Lib.hid hse
                            clear hqr hci hse HQq
                            go_wp2_with fail
                            refine (HQ.out _).mono ?_
                            rintro e w5 ⟨rfl, hb5⟩
                            have hp5 := HP4.out.below hb5
                            obtain ⟨-, p1, p2⟩ := hp5.facts
                            have hg4 := blk_lt hp5
                            have hnm3 := HNm.out.1
                            have k3 : decide (v4.num < v3.num) = false := by simp; omega
                            have k4 : decide ((v3.num : Int) + 1 < (v4.num : Int)) = false := by simp; omega
                            have k5 : decide (v3.num + 1 < v4.num) = false := by simp; omega
                            have hv3 : (v3.num : Int) ≤ 1000000 := by have := HNm.out; omega
                            have hv0 : (0 : Int) ≤ v3.num := by omega
                            have hal := (Below.refl w5.heap.size w5).alloc (Nat.le_refl _) (.cells #[.int .i64 1, .int .i64 qa, .int .i64 qc, .string ⟨#[107]⟩, .string ⟨#[118]⟩, .string ⟨#[]⟩] 23)
                            have HO5 : Hid (OnceT W0 (w5.alloc (.cells #[.int .i64 1, .int .i64 qa, .int .i64 qc, .string ⟨#[107]⟩, .string ⟨#[118]⟩, .string ⟨#[]⟩] 23)) b gn ch cap v4 qa qc i (t + 1) v2.number g1 ⟨ekd, ea, eb, ekey, eval_, eold, ⟨er, nm, vl⟩, edt⟩) := Lib.hid ⟨(HC4.out.step hb5).step hal, HCI.out, HA4.out.1, HN4.out, (fun _ => HA4.out.2), (HL4.out.below hb5).below hal⟩
                            clear hp5 hnm3 hal hb5 HQ
                            have hzz : ((se3 != 0) = false) ∨ ((se3 != 0) = true ∧ (qa != se3) = false ∧ (qc != sq3) = false) := by
                              by_cases hz : se3 = 0
                              · exact .inl (by simp [hz])
                              · rcases HSe.out with h | ⟨h, h'⟩
                                · exact absurd h hz
                                · exact .inr ⟨by simpa using hz, by simp [h], by simp [h']⟩
                            rcases hzz with k6 | ⟨k6, k7, k8⟩
                            all_goals
                              go_wp2_with fail
                              go_quiet (fail)
                              have HO6 : Hid (OnceT W0 ((w5.alloc (.cells #[.int .i64 1, .int .i64 qa, .int .i64 qc, .string ⟨#[107]⟩, .string ⟨#[118]⟩, .string ⟨#[]⟩] 23)).drewN nq) b gn ch cap v4 qa qc i (t + 1) v2.number g1 ⟨ekd, ea, eb, ekey, eval_, eold, ⟨er, nm, vl⟩, edt⟩) := Lib.hid ⟨HO5.out.1.step (below_drewN (Below.refl _ _) nq), HO5.out.2.1, HO5.out.2.2.1, HO5.out.2.2.2.1, HO5.out.2.2.2.2.1, HO5.out.2.2.2.2.2⟩
                              go_wp2_with fail
                              go_roundw
                              case rel => exact .inr ⟨rfl, qa, qc, rfl, rfl, rfl, HO6.out⟩
                              case measure => simp [intOf]
                      · have HO := Lib.hid hO
                        clear hO HQ HQq HP4 k1 k2
                        go_wp2_with fail
                        go_roundw
                        case rel => exact ⟨t + 1, v4, se4, sq4, by have := HLE.out; omega, rfl, rfl, rfl, by go_num, Lib.hid (by have := HLE.out; omega), HO⟩
                        case measure => have := HLE.out; simp [intOf]; omega
              · have htm : t = m + 1 := by have := HM.out; omega
                have HO3 : Hid (v3.opn = true) := Lib.hid (HT.out.2.2.2.2.1 (by omega))
                have q1 : decide (t ≤ m) = false := by simp; omega
                have hLB := HT.out.2.2.2.2.2
                have z2 : wB.cell? ⟨g1, 2, none⟩ = some (.int .i64 eb) := blk_cell hLB 2
                have z6 : wB.cell? ⟨g1, 6, none⟩ = some (.int .i64 er) := blk_cell hLB 6
                have z7 : wB.cell? ⟨g1, 7, none⟩ = some (.string vl) := blk_cell hLB 7
                have z8 : wB.cell? ⟨g1, 8, none⟩ = some (.int .i64 nm) := blk_cell hLB 8
                have hg1 := blk_lt hLB
                have hi200 : (i : Int) ≤ 200 := by omega
                clear hle hLB htm
                by_cases e24 : er = 24
                · have c1 : (er == 24) = true := by simpa using e24
                  by_cases n1 : nm < 1
                  · have c2 : decide (nm < 1) = true := by simpa using n1
                    have hfix : fixR ⟨er, nm, vl⟩ i = ⟨0, 1 + (i : Int), vl⟩ := by unfold fixR; dsimp only; rw [if_pos e24, if_pos ⟨rfl, n1⟩]
                    as_aux_lemma =>
                      have hFx := HF.out
                      rw [hfix] at hFx
                      have HFx := Lib.hid hFx
                      have hvn : (v3.num : Int) ≤ 1000000 := by have := HT.out.2.1.num; omega
                      have HTe := Lib.hid (fun W => rtell_any (v3.num : Int) eb ⟨0, (1 + (i : Int)), vl⟩ (by omega) HEb.out HFx.out.1 W)
                      have HTo := Lib.hid (fun W => told_of (n := (v3.num : Int)) (l := eb) (r := ⟨0, (1 + (i : Int)), vl⟩) (by omega) HEb.out HFx.out.1 HFx.out.2.2.2 W)
                      obtain ⟨DT, hDT⟩ : ∃ D, D = (⟨(tellB (v3.num : Int) eb ⟨0, (1 + (i : Int)), vl⟩).toArray⟩ : ByteArray) := ⟨_, rfl⟩
                      rw [← hDT] at HTe HTo
                      unfold RepV.agg at HTe
                      dsimp only at HTe
                      have hal := (Below.refl wB.heap.size wB).alloc (Nat.le_refl _) (.cells #[.int .i64 0, .string vl, .int .i64 (1 + (i : Int))] 26)
                      have HC5 := Lib.hid (HT.out.1.step hal)
                      clear hfix hFx hvn hDT hal
                      go_wp2_with fail
                      refine (HTe.out _).mono ?_
                      rintro e w6 ⟨rfl, hb6⟩
                      have HC6 := Lib.hid (HC5.out.step hb6)
                      have HS := Lib.hid (take_once HC6.out HT.out.2.1 HT.out.2.2.1 HO3.out (by omega) DT eb ⟨0, (1 + (i : Int)), vl⟩ HFx.out.2.1 (fun h => HFx.out.2.2.1 (by first | exact h | trivial)) HTo.out)
                      clear hb6 HC5 HTe HTo
                      go_wp2_with fail
                      refine HS.out.mono ?_
                      rintro e w7 ⟨rfl, v5, q5, c7, -, hn5, hm5, hq5, hci5⟩
                      have HN5 : Hid (v5.number = v2.number ∧ v5.num = v3.num) := Lib.hid ⟨hn5.trans HT.out.2.2.2.1, hm5⟩
                      have HI5 := Lib.hid hci5
                      rw [show (v3.number : Int) = (v2.number : Int) by have := HT.out.2.2.2.1; omega] at hq5
                      clear hn5 hm5 hci5 HS HC6 HFx
                      rcases hq5 with ⟨rfl, ha5⟩ | ⟨rfl, ha5⟩
                      · have HA5 := Lib.hid ha5
                        have HR := Lib.hid (result_none c7)
                        clear ha5 c7
                        go_wp2_with fail
                        refine HR.out.mono ?_
                        rintro e w8 ⟨rfl, c8, -⟩
                        have HC8 := Lib.hid (c8.step ((Below.refl w8.heap.size w8).alloc (Nat.le_refl _) (.cells #[.int .i64 0, .string ⟨#[]⟩, .int .i64 0] 26)))
                        clear c8 HR
                        go_wp2_with fail
                        go_roundw
                        case rel => exact ⟨i + 1, v5, se3, sq3, dn, by omega, rfl, rfl, by rw [HN5.out.2], by rw [HN5.out.1], rfl, by go_num, Lib.hid ⟨HC8.out, HI5.out, by rw [if_pos HA5.out, HN5.out.1]; exact HD1.out⟩⟩
                        case measure => simp [intOf]; omega
                      · have HA5 := Lib.hid ha5
                        have HR := Lib.hid (result_some c7)
                        clear ha5 c7
                        go_wp2_with fail
                        refine HR.out.mono ?_
                        rintro e w8 ⟨rfl, c8, -⟩
                        have HC8 := Lib.hid (c8.step ((Below.refl w8.heap.size w8).alloc (Nat.le_refl _) (.cells #[.int .i64 0, .string vl, .int .i64 (1 + (i : Int))] 26)))
                        have hd := HD1.out
                        have u1 : decide ((v2.number : Int) < (dn : Int) + 1) = false := by simp; omega
                        have u2 : decide (v2.number < dn + 1) = false := by simp; omega
                        have u3 : (dn : Int) ≤ 1000 := by have := HNB.out; omega
                        have u4 : (0 : Int) ≤ dn := by omega
                        clear c8 HR hd
                        go_wp2_with fail
                        go_roundw
                        case rel => exact ⟨i + 1, v5, se3, sq3, dn + 1, by omega, rfl, rfl, by rw [HN5.out.2], by rw [HN5.out.1], by go_num, by go_num, Lib.hid ⟨HC8.out, HI5.out, by rw [HA5.out, if_neg (by decide), HN5.out.1]; exact HD1.out⟩⟩
                        case measure => simp [intOf]; omega
                  · have c2 : decide (nm < 1) = false := by simpa using n1
                    have hfix : fixR ⟨er, nm, vl⟩ i = ⟨0, nm, vl⟩ := by unfold fixR; dsimp only; rw [if_pos e24, if_neg (fun h => n1 h.2)]
                    as_aux_lemma =>
                      have hFx := HF.out
                      rw [hfix] at hFx
                      have HFx := Lib.hid hFx
                      have hvn : (v3.num : Int) ≤ 1000000 := by have := HT.out.2.1.num; omega
                      have HTe := Lib.hid (fun W => rtell_any (v3.num : Int) eb ⟨0, nm, vl⟩ (by omega) HEb.out HFx.out.1 W)
                      have HTo := Lib.hid (fun W => told_of (n := (v3.num : Int)) (l := eb) (r := ⟨0, nm, vl⟩) (by omega) HEb.out HFx.out.1 HFx.out.2.2.2 W)
                      obtain ⟨DT, hDT⟩ : ∃ D, D = (⟨(tellB (v3.num : Int) eb ⟨0, nm, vl⟩).toArray⟩ : ByteArray) := ⟨_, rfl⟩
                      rw [← hDT] at HTe HTo
                      unfold RepV.agg at HTe
                      dsimp only at HTe
                      have hal := (Below.refl wB.heap.size wB).alloc (Nat.le_refl _) (.cells #[.int .i64 0, .string vl, .int .i64 nm] 26)
                      have HC5 := Lib.hid (HT.out.1.step hal)
                      clear hfix hFx hvn hDT hal
                      go_wp2_with fail
                      refine (HTe.out _).mono ?_
                      rintro e w6 ⟨rfl, hb6⟩
                      have HC6 := Lib.hid (HC5.out.step hb6)
                      have HS := Lib.hid (take_once HC6.out HT.out.2.1 HT.out.2.2.1 HO3.out (by omega) DT eb ⟨0, nm, vl⟩ HFx.out.2.1 (fun h => HFx.out.2.2.1 (by first | exact h | trivial)) HTo.out)
                      clear hb6 HC5 HTe HTo
                      go_wp2_with fail
                      refine HS.out.mono ?_
                      rintro e w7 ⟨rfl, v5, q5, c7, -, hn5, hm5, hq5, hci5⟩
                      have HN5 : Hid (v5.number = v2.number ∧ v5.num = v3.num) := Lib.hid ⟨hn5.trans HT.out.2.2.2.1, hm5⟩
                      have HI5 := Lib.hid hci5
                      rw [show (v3.number : Int) = (v2.number : Int) by have := HT.out.2.2.2.1; omega] at hq5
                      clear hn5 hm5 hci5 HS HC6 HFx
                      rcases hq5 with ⟨rfl, ha5⟩ | ⟨rfl, ha5⟩
                      · have HA5 := Lib.hid ha5
                        have HR := Lib.hid (result_none c7)
                        clear ha5 c7
                        go_wp2_with fail
                        refine HR.out.mono ?_
                        rintro e w8 ⟨rfl, c8, -⟩
                        have HC8 := Lib.hid (c8.step ((Below.refl w8.heap.size w8).alloc (Nat.le_refl _) (.cells #[.int .i64 0, .string ⟨#[]⟩, .int .i64 0] 26)))
                        clear c8 HR
                        go_wp2_with fail
                        go_roundw
                        case rel => exact ⟨i + 1, v5, se3, sq3, dn, by omega, rfl, rfl, by rw [HN5.out.2], by rw [HN5.out.1], rfl, by go_num, Lib.hid ⟨HC8.out, HI5.out, by rw [if_pos HA5.out, HN5.out.1]; exact HD1.out⟩⟩
                        case measure => simp [intOf]; omega
                      · have HA5 := Lib.hid ha5
                        have HR := Lib.hid (result_some c7)
                        clear ha5 c7
                        go_wp2_with fail
                        refine HR.out.mono ?_
                        rintro e w8 ⟨rfl, c8, -⟩
                        have HC8 := Lib.hid (c8.step ((Below.refl w8.heap.size w8).alloc (Nat.le_refl _) (.cells #[.int .i64 0, .string vl, .int .i64 nm] 26)))
                        have hd := HD1.out
                        have u1 : decide ((v2.number : Int) < (dn : Int) + 1) = false := by simp; omega
                        have u2 : decide (v2.number < dn + 1) = false := by simp; omega
                        have u3 : (dn : Int) ≤ 1000 := by have := HNB.out; omega
                        have u4 : (0 : Int) ≤ dn := by omega
                        clear c8 HR hd
                        go_wp2_with fail
                        go_roundw
                        case rel => exact ⟨i + 1, v5, se3, sq3, dn + 1, by omega, rfl, rfl, by rw [HN5.out.2], by rw [HN5.out.1], by go_num, by go_num, Lib.hid ⟨HC8.out, HI5.out, by rw [HA5.out, if_neg (by decide), HN5.out.1]; exact HD1.out⟩⟩
                        case measure => simp [intOf]; omega
                · have c1 : (er == 24) = false := by simpa using e24
                  by_cases e0 : er = 0
                  · have c3 : (er == 0) = true := by simpa using e0
                    by_cases n1 : nm < 1
                    · have c2 : decide (nm < 1) = true := by simpa using n1
                      have hfix : fixR ⟨er, nm, vl⟩ i = ⟨er, 1 + (i : Int), vl⟩ := by unfold fixR; dsimp only; rw [if_neg e24, if_pos ⟨e0, n1⟩]
                      clear e0
                      as_aux_lemma =>
                        have hFx := HF.out
                        rw [hfix] at hFx
                        have HFx := Lib.hid hFx
                        have hvn : (v3.num : Int) ≤ 1000000 := by have := HT.out.2.1.num; omega
                        have HTe := Lib.hid (fun W => rtell_any (v3.num : Int) eb ⟨er, (1 + (i : Int)), vl⟩ (by omega) HEb.out HFx.out.1 W)
                        have HTo := Lib.hid (fun W => told_of (n := (v3.num : Int)) (l := eb) (r := ⟨er, (1 + (i : Int)), vl⟩) (by omega) HEb.out HFx.out.1 HFx.out.2.2.2 W)
                        obtain ⟨DT, hDT⟩ : ∃ D, D = (⟨(tellB (v3.num : Int) eb ⟨er, (1 + (i : Int)), vl⟩).toArray⟩ : ByteArray) := ⟨_, rfl⟩
                        rw [← hDT] at HTe HTo
                        unfold RepV.agg at HTe
                        dsimp only at HTe
                        have hal := (Below.refl wB.heap.size wB).alloc (Nat.le_refl _) (.cells #[.int .i64 er, .string vl, .int .i64 (1 + (i : Int))] 26)
                        have HC5 := Lib.hid (HT.out.1.step hal)
                        clear hfix hFx hvn hDT hal
                        go_wp2_with fail
                        refine (HTe.out _).mono ?_
                        rintro e w6 ⟨rfl, hb6⟩
                        have HC6 := Lib.hid (HC5.out.step hb6)
                        have HS := Lib.hid (take_once HC6.out HT.out.2.1 HT.out.2.2.1 HO3.out (by omega) DT eb ⟨er, (1 + (i : Int)), vl⟩ HFx.out.2.1 (fun h => HFx.out.2.2.1 (by first | exact h | trivial)) HTo.out)
                        clear hb6 HC5 HTe HTo
                        go_wp2_with fail
                        refine HS.out.mono ?_
                        rintro e w7 ⟨rfl, v5, q5, c7, -, hn5, hm5, hq5, hci5⟩
                        have HN5 : Hid (v5.number = v2.number ∧ v5.num = v3.num) := Lib.hid ⟨hn5.trans HT.out.2.2.2.1, hm5⟩
                        have HI5 := Lib.hid hci5
                        rw [show (v3.number : Int) = (v2.number : Int) by have := HT.out.2.2.2.1; omega] at hq5
                        clear hn5 hm5 hci5 HS HC6 HFx
                        rcases hq5 with ⟨rfl, ha5⟩ | ⟨rfl, ha5⟩
                        · have HA5 := Lib.hid ha5
                          have HR := Lib.hid (result_none c7)
                          clear ha5 c7
                          go_wp2_with fail
                          refine HR.out.mono ?_
                          rintro e w8 ⟨rfl, c8, -⟩
                          have HC8 := Lib.hid (c8.step ((Below.refl w8.heap.size w8).alloc (Nat.le_refl _) (.cells #[.int .i64 0, .string ⟨#[]⟩, .int .i64 0] 26)))
                          clear c8 HR
                          go_wp2_with fail
                          go_roundw
                          case rel => exact ⟨i + 1, v5, se3, sq3, dn, by omega, rfl, rfl, by rw [HN5.out.2], by rw [HN5.out.1], rfl, by go_num, Lib.hid ⟨HC8.out, HI5.out, by rw [if_pos HA5.out, HN5.out.1]; exact HD1.out⟩⟩
                          case measure => simp [intOf]; omega
                        · have HA5 := Lib.hid ha5
                          have HR := Lib.hid (result_some c7)
                          clear ha5 c7
                          go_wp2_with fail
                          refine HR.out.mono ?_
                          rintro e w8 ⟨rfl, c8, -⟩
                          have HC8 := Lib.hid (c8.step ((Below.refl w8.heap.size w8).alloc (Nat.le_refl _) (.cells #[.int .i64 er, .string vl, .int .i64 (1 + (i : Int))] 26)))
                          have hd := HD1.out
                          have u1 : decide ((v2.number : Int) < (dn : Int) + 1) = false := by simp; omega
                          have u2 : decide (v2.number < dn + 1) = false := by simp; omega
                          have u3 : (dn : Int) ≤ 1000 := by have := HNB.out; omega
                          have u4 : (0 : Int) ≤ dn := by omega
                          clear c8 HR hd
                          go_wp2_with fail
                          go_roundw
                          case rel => exact ⟨i + 1, v5, se3, sq3, dn + 1, by omega, rfl, rfl, by rw [HN5.out.2], by rw [HN5.out.1], by go_num, by go_num, Lib.hid ⟨HC8.out, HI5.out, by rw [HA5.out, if_neg (by decide), HN5.out.1]; exact HD1.out⟩⟩
                          case measure => simp [intOf]; omega
                    · have c2 : decide (nm < 1) = false := by simpa using n1
                      have hfix : fixR ⟨er, nm, vl⟩ i = ⟨er, nm, vl⟩ := by unfold fixR; dsimp only; rw [if_neg e24, if_neg (fun h => n1 h.2)]
                      clear e0
                      as_aux_lemma =>
                        have hFx := HF.out
                        rw [hfix] at hFx
                        have HFx := Lib.hid hFx
                        have hvn : (v3.num : Int) ≤ 1000000 := by have := HT.out.2.1.num; omega
                        have HTe := Lib.hid (fun W => rtell_any (v3.num : Int) eb ⟨er, nm, vl⟩ (by omega) HEb.out HFx.out.1 W)
                        have HTo := Lib.hid (fun W => told_of (n := (v3.num : Int)) (l := eb) (r := ⟨er, nm, vl⟩) (by omega) HEb.out HFx.out.1 HFx.out.2.2.2 W)
                        obtain ⟨DT, hDT⟩ : ∃ D, D = (⟨(tellB (v3.num : Int) eb ⟨er, nm, vl⟩).toArray⟩ : ByteArray) := ⟨_, rfl⟩
                        rw [← hDT] at HTe HTo
                        unfold RepV.agg at HTe
                        dsimp only at HTe
                        have hal := (Below.refl wB.heap.size wB).alloc (Nat.le_refl _) (.cells #[.int .i64 er, .string vl, .int .i64 nm] 26)
                        have HC5 := Lib.hid (HT.out.1.step hal)
                        clear hfix hFx hvn hDT hal
                        go_wp2_with fail
                        refine (HTe.out _).mono ?_
                        rintro e w6 ⟨rfl, hb6⟩
                        have HC6 := Lib.hid (HC5.out.step hb6)
                        have HS := Lib.hid (take_once HC6.out HT.out.2.1 HT.out.2.2.1 HO3.out (by omega) DT eb ⟨er, nm, vl⟩ HFx.out.2.1 (fun h => HFx.out.2.2.1 (by first | exact h | trivial)) HTo.out)
                        clear hb6 HC5 HTe HTo
                        go_wp2_with fail
                        refine HS.out.mono ?_
                        rintro e w7 ⟨rfl, v5, q5, c7, -, hn5, hm5, hq5, hci5⟩
                        have HN5 : Hid (v5.number = v2.number ∧ v5.num = v3.num) := Lib.hid ⟨hn5.trans HT.out.2.2.2.1, hm5⟩
                        have HI5 := Lib.hid hci5
                        rw [show (v3.number : Int) = (v2.number : Int) by have := HT.out.2.2.2.1; omega] at hq5
                        clear hn5 hm5 hci5 HS HC6 HFx
                        rcases hq5 with ⟨rfl, ha5⟩ | ⟨rfl, ha5⟩
                        · have HA5 := Lib.hid ha5
                          have HR := Lib.hid (result_none c7)
                          clear ha5 c7
                          go_wp2_with fail
                          refine HR.out.mono ?_
                          rintro e w8 ⟨rfl, c8, -⟩
                          have HC8 := Lib.hid (c8.step ((Below.refl w8.heap.size w8).alloc (Nat.le_refl _) (.cells #[.int .i64 0, .string ⟨#[]⟩, .int .i64 0] 26)))
                          clear c8 HR
                          go_wp2_with fail
                          go_roundw
                          case rel => exact ⟨i + 1, v5, se3, sq3, dn, by omega, rfl, rfl, by rw [HN5.out.2], by rw [HN5.out.1], rfl, by go_num, Lib.hid ⟨HC8.out, HI5.out, by rw [if_pos HA5.out, HN5.out.1]; exact HD1.out⟩⟩
                          case measure => simp [intOf]; omega
                        · have HA5 := Lib.hid ha5
                          have HR := Lib.hid (result_some c7)
                          clear ha5 c7
                          go_wp2_with fail
                          refine HR.out.mono ?_
                          rintro e w8 ⟨rfl, c8, -⟩
                          have HC8 := Lib.hid (c8.step ((Below.refl w8.heap.size w8).alloc (Nat.le_refl _) (.cells #[.int .i64 er, .string vl, .int .i64 nm] 26)))
                          have hd := HD1.out
                          have u1 : decide ((v2.number : Int) < (dn : Int) + 1) = false := by simp; omega
                          have u2 : decide (v2.number < dn + 1) = false := by simp; omega
                          have u3 : (dn : Int) ≤ 1000 := by have := HNB.out; omega
                          have u4 : (0 : Int) ≤ dn := by omega
                          clear c8 HR hd
                          go_wp2_with fail
                          go_roundw
                          case rel => exact ⟨i + 1, v5, se3, sq3, dn + 1, by omega, rfl, rfl, by rw [HN5.out.2], by rw [HN5.out.1], by go_num, by go_num, Lib.hid ⟨HC8.out, HI5.out, by rw [HA5.out, if_neg (by decide), HN5.out.1]; exact HD1.out⟩⟩
                          case measure => simp [intOf]; omega
                  · have c3 : (er == 0) = false := by simpa using e0
                    have hfix : fixR ⟨er, nm, vl⟩ i = ⟨er, nm, vl⟩ := by unfold fixR; dsimp only; rw [if_neg e24, if_neg (fun h => e0 h.1)]
                    as_aux_lemma =>
                      have hFx := HF.out
                      rw [hfix] at hFx
                      have HFx := Lib.hid hFx
                      have hvn : (v3.num : Int) ≤ 1000000 := by have := HT.out.2.1.num; omega
                      have HTe := Lib.hid (fun W => rtell_any (v3.num : Int) eb ⟨er, nm, vl⟩ (by omega) HEb.out HFx.out.1 W)
                      have HTo := Lib.hid (fun W => told_of (n := (v3.num : Int)) (l := eb) (r := ⟨er, nm, vl⟩) (by omega) HEb.out HFx.out.1 HFx.out.2.2.2 W)
                      obtain ⟨DT, hDT⟩ : ∃ D, D = (⟨(tellB (v3.num : Int) eb ⟨er, nm, vl⟩).toArray⟩ : ByteArray) := ⟨_, rfl⟩
                      rw [← hDT] at HTe HTo
                      unfold RepV.agg at HTe
                      dsimp only at HTe
                      have hal := (Below.refl wB.heap.size wB).alloc (Nat.le_refl _) (.cells #[.int .i64 er, .string vl, .int .i64 nm] 26)
                      have HC5 := Lib.hid (HT.out.1.step hal)
                      clear hfix hFx hvn hDT hal
                      go_wp2_with fail
                      refine (HTe.out _).mono ?_
                      rintro e w6 ⟨rfl, hb6⟩
                      have HC6 := Lib.hid (HC5.out.step hb6)
                      have HS := Lib.hid (take_once HC6.out HT.out.2.1 HT.out.2.2.1 HO3.out (by omega) DT eb ⟨er, nm, vl⟩ HFx.out.2.1 (fun h => HFx.out.2.2.1 (by first | exact h | trivial)) HTo.out)
                      clear hb6 HC5 HTe HTo
                      go_wp2_with fail
                      refine HS.out.mono ?_
                      rintro e w7 ⟨rfl, v5, q5, c7, -, hn5, hm5, hq5, hci5⟩
                      have HN5 : Hid (v5.number = v2.number ∧ v5.num = v3.num) := Lib.hid ⟨hn5.trans HT.out.2.2.2.1, hm5⟩
                      have HI5 := Lib.hid hci5
                      rw [show (v3.number : Int) = (v2.number : Int) by have := HT.out.2.2.2.1; omega] at hq5
                      clear hn5 hm5 hci5 HS HC6 HFx
                      rcases hq5 with ⟨rfl, ha5⟩ | ⟨rfl, ha5⟩
                      · have HA5 := Lib.hid ha5
                        have HR := Lib.hid (result_none c7)
                        clear ha5 c7
                        go_wp2_with fail
                        refine HR.out.mono ?_
                        rintro e w8 ⟨rfl, c8, -⟩
                        have HC8 := Lib.hid (c8.step ((Below.refl w8.heap.size w8).alloc (Nat.le_refl _) (.cells #[.int .i64 0, .string ⟨#[]⟩, .int .i64 0] 26)))
                        clear c8 HR
                        go_wp2_with fail
                        go_roundw
                        case rel => exact ⟨i + 1, v5, se3, sq3, dn, by omega, rfl, rfl, by rw [HN5.out.2], by rw [HN5.out.1], rfl, by go_num, Lib.hid ⟨HC8.out, HI5.out, by rw [if_pos HA5.out, HN5.out.1]; exact HD1.out⟩⟩
                        case measure => simp [intOf]; omega
                      · have HA5 := Lib.hid ha5
                        have HR := Lib.hid (result_some c7)
                        clear ha5 c7
                        go_wp2_with fail
                        refine HR.out.mono ?_
                        rintro e w8 ⟨rfl, c8, -⟩
                        have HC8 := Lib.hid (c8.step ((Below.refl w8.heap.size w8).alloc (Nat.le_refl _) (.cells #[.int .i64 er, .string vl, .int .i64 nm] 26)))
                        have hd := HD1.out
                        have u1 : decide ((v2.number : Int) < (dn : Int) + 1) = false := by simp; omega
                        have u2 : decide (v2.number < dn + 1) = false := by simp; omega
                        have u3 : (dn : Int) ≤ 1000 := by have := HNB.out; omega
                        have u4 : (0 : Int) ≤ dn := by omega
                        clear c8 HR hd
                        go_wp2_with fail
                        go_roundw
                        case rel => exact ⟨i + 1, v5, se3, sq3, dn + 1, by omega, rfl, rfl, by rw [HN5.out.2], by rw [HN5.out.1], by go_num, by go_num, Lib.hid ⟨HC8.out, HI5.out, by rw [HA5.out, if_neg (by decide), HN5.out.1]; exact HD1.out⟩⟩
                        case measure => simp [intOf]; omega
      · have hin : decide (i < n) = false := by simp; omega
        have hin2 : decide ((i : Int) < (n : Int)) = false := by simp; omega
        clear hlt HH
        go_wp2_with fail
        refine (aliveCl_any _).mono ?_
        rintro e w2 ⟨rfl, hb2⟩
        have HB2 := Lib.hid (HBA.out.trans (hb2.mono HBA.out.size))
        clear hb2
        go_wp2_with fail
        go_ret
        exact ⟨rfl, HB2.out⟩
theorem walk_CliOnce (ao : Option Addr) (n c : Nat) {w : World} (z : ∃ l, LOpsIn w ao n c l) : Calls Try.prog 6 #[.slice ao n c] w fun e w' => e = .returned (.bool true) ∧ Below w.heap.size w w' := by
  obtain ⟨l, hl⟩ := z
  exact once_main hl.ops hl.ok (by have := hl.le; have := hl.sz; omega)
end Go.Proofs.Ytfogoebflfkknaa
