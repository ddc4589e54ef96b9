/- The walks of msg.Get and msg.Valid (printed by wip/gen_msgget.py). -/
import Derived.Test.YtmdidmllaldbaaaMsgRead
import Derived.Test.YtmdidmllaldbaaaCutPre
namespace Go.Proofs.Ytmdidmllaldbaaa
open Go.RowKit
set_option linter.unusedVariables false
set_option linter.unusedSimpArgs false
theorem MsgOwn.zero (W : World) (base : Nat) : MsgOwn W base ⟨msg00, none, 0, 0, none, 0, 0, none, 0, 0⟩ :=
  ⟨World.ownsRow_nil _ _ _ _, World.ownsRow_nil _ _ _ _, World.ownsRow_nil _ _ _ _, rfl, rfl, rfl⟩
theorem MsgOwn.low {W : World} {base base' : Nat} {m : MsgR} (h : MsgOwn W base m) (hb : base' ≤ base) : MsgOwn W base' m := ⟨own_lowM h.es hb, own_lowM h.ms hb, own_lowM h.ps hb, h.el, h.ml, h.pl⟩
theorem MsgOwn.below {W W' : World} {base : Nat} {m : MsgR} (h : MsgOwn W base m) (hb : Below W.heap.size W W') : MsgOwn W' base m := ⟨own_below h.es hb, own_below h.ms hb, own_below h.ps hb, h.el, h.ml, h.pl⟩
theorem MsgOwn.far {W W' : World} {base g : Nat} {m : MsgR} (h : MsgOwn W base m) (hg : W.grownBy W' (some g)) (hb : g < base) : MsgOwn W' base m := ⟨own_far h.es hg hb, own_far h.ms hg hb, own_far h.ps hg hb, h.el, h.ml, h.pl⟩
theorem isPre_m (s : ByteArray) : isPre ⟨#[109]⟩ s ↔ s.data.toList.head? = some 109 := by
  unfold isPre
  show s.data.toList.take 1 = [109] ↔ _
  cases s.data.toList with
  | nil => simp
  | cons a l => simp
theorem getMsgV_a {l : List UInt8} (h : l.head? ≠ some 109) : getMsgV l = (msg00, 4) := by unfold getMsgV; rw [if_pos h]
theorem getMsgV_b {l : List UInt8} (h : l.head? = some 109) (h5 : l.length < 5) : getMsgV l = (msg00, 5) := by unfold getMsgV; rw [if_neg (by rw [h]; simp), if_pos h5]
theorem getMsgV_c {l : List UInt8} {A : Nat} (h : l.head? = some 109) (hA : l.length = A + 4) (h1 : 1 ≤ A) (hu : unfixB (l.drop A) ≠ crc (l.take A)) : getMsgV l = (msg00, 6) := by
  unfold getMsgV
  rw [if_neg (by rw [h]; simp), if_neg (by omega), show l.length - 4 = A from by omega, if_pos hu]
theorem getMsgV_d {l : List UInt8} {A : Nat} (h : l.head? = some 109) (hA : l.length = A + 4) (h1 : 1 ≤ A) (hu : unfixB (l.drop A) = crc (l.take A)) (hg : rEnd (readMsg ((l.take A).drop 1, 0)).2 ≠ 0) : getMsgV l = (msg00, rEnd (readMsg ((l.take A).drop 1, 0)).2) := by
  unfold getMsgV
  rw [if_neg (by rw [h]; simp), if_neg (by omega), show l.length - 4 = A from by omega, if_neg (by rw [hu]; simp), if_pos hg]
theorem getMsgV_e {l : List UInt8} {A : Nat} (h : l.head? = some 109) (hA : l.length = A + 4) (h1 : 1 ≤ A) (hu : unfixB (l.drop A) = crc (l.take A)) (hg : rEnd (readMsg ((l.take A).drop 1, 0)).2 = 0) : getMsgV l = ((readMsg ((l.take A).drop 1, 0)).1, 0) := by
  unfold getMsgV
  rw [if_neg (by rw [h]; simp), if_neg (by omega), show l.length - 4 = A from by omega, if_neg (by rw [hu]; simp), if_neg (by rw [hg]; simp)]
set_option maxRecDepth 20000 in
set_option maxHeartbeats 8000000 in
theorem mget_any (s : ByteArray) (w : World) (hs : s.size ≤ 281474976710656) :
    Calls Try.prog 7 #[.string s] w fun e w' => ∃ m : MsgR, e = .returned (.tuple #[m.agg, .int .i64 (getMsgV s.data.toList).2]) ∧ m.v = (getMsgV s.data.toList).1 ∧ MsgOwn w' w.heap.size m ∧ Below w.heap.size w w' := by
  have hk0 := heap_alloc_new w (.cells #[.int .i64 0, .int .i64 0, .int .i64 0, .int .i64 0, .int .i64 0, .int .i64 0, .int .i64 0, .int .i64 0, .bool false, .bool false, .slice none 0 0, .slice none 0 0, .int .i64 0, .slice none 0 0] 26)
  have hb0 : Below w.heap.size w (w.alloc (.cells #[.int .i64 0, .int .i64 0, .int .i64 0, .int .i64 0, .int .i64 0, .int .i64 0, .int .i64 0, .int .i64 0, .bool false, .bool false, .slice none 0 0, .slice none 0 0, .int .i64 0, .slice none 0 0] 26)) := (Below.refl _ _).alloc (Nat.le_refl _) _
  have HK0 : Hid ((w.alloc (.cells #[.int .i64 0, .int .i64 0, .int .i64 0, .int .i64 0, .int .i64 0, .int .i64 0, .int .i64 0, .int .i64 0, .bool false, .bool false, .slice none 0 0, .slice none 0 0, .int .i64 0, .slice none 0 0] 26)).heap[w.heap.size]? = some (.cells msgZ 26 (0, 0))) := Lib.hid hk0
  have HB0 := Lib.hid hb0
  have HSz : Hid ((w.alloc (.cells #[.int .i64 0, .int .i64 0, .int .i64 0, .int .i64 0, .int .i64 0, .int .i64 0, .int .i64 0, .int .i64 0, .bool false, .bool false, .slice none 0 0, .slice none 0 0, .int .i64 0, .slice none 0 0] 26)).heap.size = w.heap.size + 1) := Lib.hid (by simp)
  clear hk0 hb0
  have hll : s.data.toList.length = s.size := rfl
  by_cases hp : isPre ⟨#[109]⟩ s
  case neg =>
    have hg := getMsgV_a (l := s.data.toList) (fun h => hp ((isPre_m s).2 h))
    have HG := Lib.hid hg
    have HCut := Lib.hid (fun W => cut_no s ⟨#[109]⟩ W (by omega) (by decide) hp)
    clear hg hp
    go_enter Try.func7, Try.ntmps7
    go_wp2_with fail
    refine (HCut.out _).mono ?_
    rintro e w1 ⟨rfl, rfl⟩
    go_wp2_with fail
    obtain ⟨x0, x1, x2, x3, x4, x5, x6, x7, x8, x9, x10, x11, x12, x13⟩ := msgCells HK0.out
    refine bodyPost_ret (v := .tuple #[.agg #[.int .i64 0, .int .i64 0, .int .i64 0, .int .i64 0, .int .i64 0, .int .i64 0, .int .i64 0, .int .i64 0, .bool false, .bool false, .slice none 0 0, .slice none 0 0, .int .i64 0, .slice none 0 0], .int .i64 4]) (by simp [results, Try.results7, go_sem, x0, x1, x2, x3, x4, x5, x6, x7, x8, x9, x10, x11, x12, x13]; try rfl) rfl ?_
    exact ⟨⟨msg00, none, 0, 0, none, 0, 0, none, 0, 0⟩, by rw [HG.out]; rfl, by rw [HG.out], MsgOwn.zero _ _, HB0.out⟩
  case pos =>
    have hd := (isPre_m s).1 hp
    have HCut := Lib.hid (fun W => cut_yes s ⟨#[109]⟩ W (by omega) hp)
    have hsz1 : 1 ≤ s.size := isPre_size hp
    by_cases h5 : s.size < 5
    · have hg := getMsgV_b hd (by omega)
      have HG := Lib.hid hg
      have hx : decide ((s.extract 1 s.size).size < 4) = true := by rw [ByteArray.size_extract]; simp; omega
      clear hg hp hd
      go_enter Try.func7, Try.ntmps7
      go_wp2_with fail
      refine (HCut.out _).mono ?_
      rintro e w1 ⟨rfl, rfl⟩
      go_wp2_with fail
      obtain ⟨x0, x1, x2, x3, x4, x5, x6, x7, x8, x9, x10, x11, x12, x13⟩ := msgCells HK0.out
      refine bodyPost_ret (v := .tuple #[.agg #[.int .i64 0, .int .i64 0, .int .i64 0, .int .i64 0, .int .i64 0, .int .i64 0, .int .i64 0, .int .i64 0, .bool false, .bool false, .slice none 0 0, .slice none 0 0, .int .i64 0, .slice none 0 0], .int .i64 5]) (by simp [results, Try.results7, go_sem, x0, x1, x2, x3, x4, x5, x6, x7, x8, x9, x10, x11, x12, x13]; try rfl) rfl ?_
      exact ⟨⟨msg00, none, 0, 0, none, 0, 0, none, 0, 0⟩, by rw [HG.out]; rfl, by rw [HG.out], MsgOwn.zero _ _, HB0.out⟩
    obtain ⟨A, hA⟩ : ∃ A, s.size = A + 4 := ⟨s.size - 4, by omega⟩
    have hx : decide ((s.extract 1 s.size).size < 4) = false := by rw [ByteArray.size_extract]; simp; omega
    have hw : IntKind.i64.wrap ((s.size : Int) - 4) = (A : Int) := by rw [IntWalk.i64_in _ (by omega)]; omega
    have hA2 : (A : Int) ≤ s.size := by omega
    have hA3 : (1 : Int) ≤ A := by omega
    have hA4 : A ≤ s.size := by omega
    have hA5 : 1 ≤ A := by omega
    obtain ⟨U, hU⟩ : ∃ U, U = unfixB (s.data.toList.drop A) := ⟨_, rfl⟩
    obtain ⟨C, hC⟩ : ∃ C, C = crc (s.data.toList.take A) := ⟨_, rfl⟩
    have HUn : Hid (∀ W, Calls Try.prog 22 #[.string s, .int .i64 A, .int .i64 4] W fun e w' => e = .returned (.tuple #[.int .i64 U, .int .i64 0]) ∧ W = w') := Lib.hid (fun W => by
      have h := unfix_good s A 4 W (by omega) (by omega) (by omega) (by omega)
      rw [List.take_of_length_le (by rw [List.length_drop]; omega), ← hU] at h
      refine h.mono ?_
      rintro e w' ⟨rfl, rfl⟩
      exact ⟨rfl, rfl⟩)
    have HCr : Hid (∀ (W : World) (g : Nat) (t : TypeId), W.heap[g]? = some (.cells #[.string (s.extract 0 A)] t (0, 0)) → Calls Try.prog 19 #[.slice (some ⟨g, 0, none⟩) 1 1] W fun e w' => e = .returned (.int .i64 C) ∧ W = w') := Lib.hid (fun W g t h => by
      have h2 := crc_row (s.extract 0 A) h (by rw [ByteArray.size_extract]; omega)
      rw [Lib.extract_data, List.drop_zero, Nat.sub_zero, ← hC] at h2
      exact h2)
    have HUU := Lib.hid hU
    have HCC := Lib.hid hC
    have HDh := Lib.hid hd
    have hAl : s.data.toList.length = A + 4 := by omega
    have HAl := Lib.hid hAl
    clear hU hC hd hp hAl
    by_cases hne : U = C
    case neg =>
      have hg := getMsgV_c HDh.out HAl.out hA5 (by rw [← HUU.out, ← HCC.out]; exact hne)
      have HG := Lib.hid hg
      have hn1 : (U != C) = true := by simpa using hne
      have hn2 : ((U : Int) != (C : Int)) = true := by simp; omega
      clear hg hne
      go_enter Try.func7, Try.ntmps7
      go_wp2_with fail
      refine (HCut.out _).mono ?_
      rintro e w1 ⟨rfl, rfl⟩
      go_wp2_with fail
      refine (HUn.out _).mono ?_
      rintro e w1 ⟨rfl, rfl⟩
      go_wp2_with fail
      refine (HCr.out _ _ _ (new_at _ _ _ (by simp))).mono ?_
      rintro e w1 ⟨rfl, rfl⟩
      go_wp2_with fail
      obtain ⟨x0, x1, x2, x3, x4, x5, x6, x7, x8, x9, x10, x11, x12, x13⟩ := msgCells (old_at _ _ (.cells #[.string (s.extract 0 A)] 9) _ HK0.out)
      refine bodyPost_ret (v := .tuple #[.agg #[.int .i64 0, .int .i64 0, .int .i64 0, .int .i64 0, .int .i64 0, .int .i64 0, .int .i64 0, .int .i64 0, .bool false, .bool false, .slice none 0 0, .slice none 0 0, .int .i64 0, .slice none 0 0], .int .i64 6]) (by simp [results, Try.results7, go_sem, x0, x1, x2, x3, x4, x5, x6, x7, x8, x9, x10, x11, x12, x13]; try rfl) rfl ?_
      exact ⟨⟨msg00, none, 0, 0, none, 0, 0, none, 0, 0⟩, by rw [HG.out]; rfl, by rw [HG.out], MsgOwn.zero _ _, HB0.out.alloc (by simp) _⟩
    case pos =>
      subst hne
      have hn1 : (U != U) = false := by simp
      have hn2 : ((U : Int) != (U : Int)) = false := by simp
      obtain ⟨P, hP⟩ : ∃ P, P = readMsg ((s.data.toList.take A).drop 1, 0) := ⟨_, rfl⟩
      have hex : (s.extract 1 A).data.toList = (s.data.toList.take A).drop 1 := by rw [Lib.extract_data, List.drop_take]
      have HRd : Hid (∀ {w0 W : World} {B b : Nat}, RS w0 W B b ((s.extract 1 A).data.toList, 0) → Calls Try.prog 24 #[.pointer (some ⟨b, 0, none⟩)] W fun e w' => ∃ m : MsgR, e = .returned m.agg ∧ m.v = P.1 ∧ MsgOwn w' W.heap.size m ∧ RS w0 w' B b P.2 ∧ W.grownBy w' (some b)) := Lib.hid (fun R => by rw [hP, ← hex]; exact mread_any R)
      obtain ⟨g, hgE⟩ : ∃ g, g = rEnd P.2 := ⟨_, rfl⟩
      have HGe := Lib.hid hgE
      have HPp := Lib.hid hP
      have HRS : Hid (∀ W, Below (w.heap.size + 1) (w.alloc (.cells #[.int .i64 0, .int .i64 0, .int .i64 0, .int .i64 0, .int .i64 0, .int .i64 0, .int .i64 0, .int .i64 0, .bool false, .bool false, .slice none 0 0, .slice none 0 0, .int .i64 0, .slice none 0 0] 26)) W → w.heap.size + 1 ≤ W.heap.size → Calls Try.prog 23 #[.string (s.extract 1 A)] W fun e w' => ∃ b, e = .returned (.pointer (some ⟨b, 0, none⟩)) ∧ RS (w.alloc (.cells #[.int .i64 0, .int .i64 0, .int .i64 0, .int .i64 0, .int .i64 0, .int .i64 0, .int .i64 0, .int .i64 0, .bool false, .bool false, .slice none 0 0, .slice none 0 0, .int .i64 0, .slice none 0 0] 26)) w' (w.heap.size + 1) b ((s.extract 1 A).data.toList, 0)) := Lib.hid (fun W hb hB => RS.new (s.extract 1 A) hb hB (by rw [ByteArray.size_extract]; omega))
      have hRow : Hid (Below (w.heap.size + 1) (w.alloc (.cells #[.int .i64 0, .int .i64 0, .int .i64 0, .int .i64 0, .int .i64 0, .int .i64 0, .int .i64 0, .int .i64 0, .bool false, .bool false, .slice none 0 0, .slice none 0 0, .int .i64 0, .slice none 0 0] 26)) ((w.alloc (.cells #[.int .i64 0, .int .i64 0, .int .i64 0, .int .i64 0, .int .i64 0, .int .i64 0, .int .i64 0, .int .i64 0, .bool false, .bool false, .slice none 0 0, .slice none 0 0, .int .i64 0, .slice none 0 0] 26)).alloc (.cells #[.string (s.extract 0 A)] 9))) := Lib.hid ((Below.refl _ _).alloc (by simp) _)
      clear hP hex hgE
      go_enter Try.func7, Try.ntmps7
      go_wp2_with fail
      refine (HCut.out _).mono ?_
      rintro e w1 ⟨rfl, rfl⟩
      go_wp2_with fail
      refine (HUn.out _).mono ?_
      rintro e w1 ⟨rfl, rfl⟩
      go_wp2_with fail
      refine (HCr.out _ _ _ (new_at _ _ _ (by simp))).mono ?_
      rintro e w1 ⟨rfl, rfl⟩
      go_wp2_with fail
      refine (HRS.out _ hRow.out (by simp)).mono ?_
      rintro e w2 ⟨b, rfl, R2⟩
      have HRd2 := Lib.hid (HRd.out R2)
      have hz2 : w.heap.size + 1 ≤ w2.heap.size := R2.size
      clear R2 HRd HRS hRow
      go_wp2_with fail
      refine HRd2.out.mono ?_
      rintro e w3 ⟨m, rfl, hmv, hmo, R3, hg3⟩
      have hz3 : w2.heap.size ≤ w3.heap.size := hg3.size
      have HK3 : Hid (w3.heap[w.heap.size]? = some (.cells msgZ 26 (0, 0))) := Lib.hid ((R3.2.1.block _ (by omega)).trans HK0.out)
      have HB3 : Hid (Below w.heap.size w w3) := Lib.hid (HB0.out.trans (R3.2.1.mono (by omega)))
      have HR3 := Lib.hid R3
      have HMv := Lib.hid hmv
      have HMo := Lib.hid hmo
      have HE := Lib.hid ((R3.alloc (.cells #[.int .i64 m.v.kd, .int .i64 m.v.frm, .int .i64 m.v.dst, .int .i64 m.v.tm, .int .i64 m.v.ix, .int .i64 m.v.lt, .int .i64 m.v.cm, .int .i64 m.v.rd, .bool m.v.ok, .bool m.v.dn, .slice m.eo m.en m.ec, .slice m.mo m.mn m.mc, .int .i64 m.v.off, .slice m.po m.pn m.pc] 26)).fin)
      rw [← HGe.out] at HE
      have HK4 : Hid ((w3.alloc (.cells #[.int .i64 m.v.kd, .int .i64 m.v.frm, .int .i64 m.v.dst, .int .i64 m.v.tm, .int .i64 m.v.ix, .int .i64 m.v.lt, .int .i64 m.v.cm, .int .i64 m.v.rd, .bool m.v.ok, .bool m.v.dn, .slice m.eo m.en m.ec, .slice m.mo m.mn m.mc, .int .i64 m.v.off, .slice m.po m.pn m.pc] 26)).heap[w.heap.size]? = some (.cells msgZ 26 (0, 0))) := Lib.hid (old_at _ _ _ _ HK3.out)
      have HN4 : Hid ((w3.alloc (.cells #[.int .i64 m.v.kd, .int .i64 m.v.frm, .int .i64 m.v.dst, .int .i64 m.v.tm, .int .i64 m.v.ix, .int .i64 m.v.lt, .int .i64 m.v.cm, .int .i64 m.v.rd, .bool m.v.ok, .bool m.v.dn, .slice m.eo m.en m.ec, .slice m.mo m.mn m.mc, .int .i64 m.v.off, .slice m.po m.pn m.pc] 26)).heap[w3.heap.size]? = some (.cells #[.int .i64 m.v.kd, .int .i64 m.v.frm, .int .i64 m.v.dst, .int .i64 m.v.tm, .int .i64 m.v.ix, .int .i64 m.v.lt, .int .i64 m.v.cm, .int .i64 m.v.rd, .bool m.v.ok, .bool m.v.dn, .slice m.eo m.en m.ec, .slice m.mo m.mn m.mc, .int .i64 m.v.off, .slice m.po m.pn m.pc] 26 (0, 0))) := Lib.hid (heap_alloc_new _ _)
      have HB4 : Hid (Below w.heap.size w (w3.alloc (.cells #[.int .i64 m.v.kd, .int .i64 m.v.frm, .int .i64 m.v.dst, .int .i64 m.v.tm, .int .i64 m.v.ix, .int .i64 m.v.lt, .int .i64 m.v.cm, .int .i64 m.v.rd, .bool m.v.ok, .bool m.v.dn, .slice m.eo m.en m.ec, .slice m.mo m.mn m.mc, .int .i64 m.v.off, .slice m.po m.pn m.pc] 26))) := Lib.hid (HB3.out.alloc (by omega) _)
      have HMo4 : Hid (MsgOwn (w3.alloc (.cells #[.int .i64 m.v.kd, .int .i64 m.v.frm, .int .i64 m.v.dst, .int .i64 m.v.tm, .int .i64 m.v.ix, .int .i64 m.v.lt, .int .i64 m.v.cm, .int .i64 m.v.rd, .bool m.v.ok, .bool m.v.dn, .slice m.eo m.en m.ec, .slice m.mo m.mn m.mc, .int .i64 m.v.off, .slice m.po m.pn m.pc] 26)) (w.heap.size + 1) m) := Lib.hid ((HMo.out.low (show w.heap.size + 1 ≤ w2.heap.size from hz2)).below ((Below.refl _ _).alloc (Nat.le_refl _) _))
      unfold MsgR.agg
      clear R3 hmv hmo hg3 HRd2
      by_cases hg0 : g = 0
      case neg =>
        have hgv := getMsgV_d HDh.out HAl.out hA5 (by rw [← HUU.out, ← HCC.out]) (by rw [← HPp.out, ← HGe.out]; exact hg0)
        rw [← HPp.out, ← HGe.out] at hgv
        have HG := Lib.hid hgv
        have hd3 : (g != 0) = true := by simpa using hg0
        clear hgv hg0
        go_wp2_with fail
        refine HE.out.mono ?_
        rintro e w4 ⟨rfl, rfl⟩
        obtain ⟨z0, z1, z2, z3, z4, z5, z6, z7, z8, z9, z10, z11, z12, z13⟩ := msgCells HK4.out
        have zf := fun i => blk_frozen HK4.out i
        have zf0 := zf 0
        have zf1 := zf 1
        have zf2 := zf 2
        have zf3 := zf 3
        have zf4 := zf 4
        have zf5 := zf 5
        have zf6 := zf 6
        have zf7 := zf 7
        have zf8 := zf 8
        have zf9 := zf 9
        have zf10 := zf 10
        have zf11 := zf 11
        have zf12 := zf 12
        have zf13 := zf 13
        clear zf
        go_wp2_with fail
        obtain ⟨hz, hg⟩ := set14 HK4.out (.int .i64 0) (.int .i64 0) (.int .i64 0) (.int .i64 0) (.int .i64 0) (.int .i64 0) (.int .i64 0) (.int .i64 0) (.bool false) (.bool false) (.slice none 0 0) (.slice none 0 0) (.int .i64 0) (.slice none 0 0)
        have HBf := Lib.hid ((HB4.out).grown hg (by have := (HB4.out).size; omega) (fun k hk => by injection hk with hk; omega))
        have HFin : Hid True := Lib.hid trivial
        generalize ((((((((((((((w3.alloc (.cells #[.int .i64 m.v.kd, .int .i64 m.v.frm, .int .i64 m.v.dst, .int .i64 m.v.tm, .int .i64 m.v.ix, .int .i64 m.v.lt, .int .i64 m.v.cm, .int .i64 m.v.rd, .bool m.v.ok, .bool m.v.dn, .slice m.eo m.en m.ec, .slice m.mo m.mn m.mc, .int .i64 m.v.off, .slice m.po m.pn m.pc] 26)).setCell ⟨w.heap.size, 0, none⟩ (.int .i64 0)).setCell ⟨w.heap.size, 1, none⟩ (.int .i64 0)).setCell ⟨w.heap.size, 2, none⟩ (.int .i64 0)).setCell ⟨w.heap.size, 3, none⟩ (.int .i64 0)).setCell ⟨w.heap.size, 4, none⟩ (.int .i64 0)).setCell ⟨w.heap.size, 5, none⟩ (.int .i64 0)).setCell ⟨w.heap.size, 6, none⟩ (.int .i64 0)).setCell ⟨w.heap.size, 7, none⟩ (.int .i64 0)).setCell ⟨w.heap.size, 8, none⟩ (.bool false)).setCell ⟨w.heap.size, 9, none⟩ (.bool false)).setCell ⟨w.heap.size, 10, none⟩ (.slice none 0 0)).setCell ⟨w.heap.size, 11, none⟩ (.slice none 0 0)).setCell ⟨w.heap.size, 12, none⟩ (.int .i64 0)).setCell ⟨w.heap.size, 13, none⟩ (.slice none 0 0) = Wf at hz HBf HFin ⊢
        obtain ⟨x0, x1, x2, x3, x4, x5, x6, x7, x8, x9, x10, x11, x12, x13⟩ := msgCells hz
        clear hz hg
        refine bodyPost_ret (v := .tuple #[.agg #[.int .i64 0, .int .i64 0, .int .i64 0, .int .i64 0, .int .i64 0, .int .i64 0, .int .i64 0, .int .i64 0, .bool false, .bool false, .slice none 0 0, .slice none 0 0, .int .i64 0, .slice none 0 0], .int .i64 g]) (by simp [results, Try.results7, go_sem, x0, x1, x2, x3, x4, x5, x6, x7, x8, x9, x10, x11, x12, x13]; try rfl) rfl ?_
        exact ⟨⟨msg00, none, 0, 0, none, 0, 0, none, 0, 0⟩, by rw [HG.out]; rfl, by rw [HG.out], MsgOwn.zero _ _, HBf.out⟩
      case pos =>
        subst hg0
        have hgv := getMsgV_e HDh.out HAl.out hA5 (by rw [← HUU.out, ← HCC.out]) (by rw [← HPp.out, ← HGe.out])
        rw [← HPp.out] at hgv
        have HG := Lib.hid hgv
        clear hgv
        go_wp2_with fail
        refine HE.out.mono ?_
        rintro e w4 ⟨rfl, rfl⟩
        obtain ⟨z0, z1, z2, z3, z4, z5, z6, z7, z8, z9, z10, z11, z12, z13⟩ := msgCells HK4.out
        obtain ⟨y0, y1, y2, y3, y4, y5, y6, y7, y8, y9, y10, y11, y12, y13⟩ := msgCells HN4.out
        have zf := fun i => blk_frozen HK4.out i
        have zf0 := zf 0
        have zf1 := zf 1
        have zf2 := zf 2
        have zf3 := zf 3
        have zf4 := zf 4
        have zf5 := zf 5
        have zf6 := zf 6
        have zf7 := zf 7
        have zf8 := zf 8
        have zf9 := zf 9
        have zf10 := zf 10
        have zf11 := zf 11
        have zf12 := zf 12
        have zf13 := zf 13
        clear zf
        go_wp2_with fail
        obtain ⟨hz, hg⟩ := set14 HK4.out (.int .i64 m.v.kd) (.int .i64 m.v.frm) (.int .i64 m.v.dst) (.int .i64 m.v.tm) (.int .i64 m.v.ix) (.int .i64 m.v.lt) (.int .i64 m.v.cm) (.int .i64 m.v.rd) (.bool m.v.ok) (.bool m.v.dn) (.slice m.eo m.en m.ec) (.slice m.mo m.mn m.mc) (.int .i64 m.v.off) (.slice m.po m.pn m.pc)
        have HBf := Lib.hid ((HB4.out).grown hg (by have := (HB4.out).size; omega) (fun k hk => by injection hk with hk; omega))
        have HFin := Lib.hid ((HMo4.out.far hg (by omega)).low (show w.heap.size ≤ w.heap.size + 1 by omega))
        generalize ((((((((((((((w3.alloc (.cells #[.int .i64 m.v.kd, .int .i64 m.v.frm, .int .i64 m.v.dst, .int .i64 m.v.tm, .int .i64 m.v.ix, .int .i64 m.v.lt, .int .i64 m.v.cm, .int .i64 m.v.rd, .bool m.v.ok, .bool m.v.dn, .slice m.eo m.en m.ec, .slice m.mo m.mn m.mc, .int .i64 m.v.off, .slice m.po m.pn m.pc] 26)).setCell ⟨w.heap.size, 0, none⟩ (.int .i64 m.v.kd)).setCell ⟨w.heap.size, 1, none⟩ (.int .i64 m.v.frm)).setCell ⟨w.heap.size, 2, none⟩ (.int .i64 m.v.dst)).setCell ⟨w.heap.size, 3, none⟩ (.int .i64 m.v.tm)).setCell ⟨w.heap.size, 4, none⟩ (.int .i64 m.v.ix)).setCell ⟨w.heap.size, 5, none⟩ (.int .i64 m.v.lt)).setCell ⟨w.heap.size, 6, none⟩ (.int .i64 m.v.cm)).setCell ⟨w.heap.size, 7, none⟩ (.int .i64 m.v.rd)).setCell ⟨w.heap.size, 8, none⟩ (.bool m.v.ok)).setCell ⟨w.heap.size, 9, none⟩ (.bool m.v.dn)).setCell ⟨w.heap.size, 10, none⟩ (.slice m.eo m.en m.ec)).setCell ⟨w.heap.size, 11, none⟩ (.slice m.mo m.mn m.mc)).setCell ⟨w.heap.size, 12, none⟩ (.int .i64 m.v.off)).setCell ⟨w.heap.size, 13, none⟩ (.slice m.po m.pn m.pc) = Wf at hz HBf HFin ⊢
        obtain ⟨x0, x1, x2, x3, x4, x5, x6, x7, x8, x9, x10, x11, x12, x13⟩ := msgCells hz
        clear hz hg
        refine bodyPost_ret (v := .tuple #[.agg #[.int .i64 m.v.kd, .int .i64 m.v.frm, .int .i64 m.v.dst, .int .i64 m.v.tm, .int .i64 m.v.ix, .int .i64 m.v.lt, .int .i64 m.v.cm, .int .i64 m.v.rd, .bool m.v.ok, .bool m.v.dn, .slice m.eo m.en m.ec, .slice m.mo m.mn m.mc, .int .i64 m.v.off, .slice m.po m.pn m.pc], .int .i64 0]) (by simp [results, Try.results7, go_sem, x0, x1, x2, x3, x4, x5, x6, x7, x8, x9, x10, x11, x12, x13]; try rfl) rfl ?_
        exact ⟨m, by rw [HG.out]; rfl, by rw [HG.out]; exact HMv.out, HFin.out, HBf.out⟩
end Go.Proofs.Ytmdidmllaldbaaa
