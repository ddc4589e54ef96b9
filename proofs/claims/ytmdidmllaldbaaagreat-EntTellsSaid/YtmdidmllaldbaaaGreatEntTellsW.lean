/- The walk of arboretumlaw16.EntTells. -/
import Derived.Test.YtmdidmllaldbaaaGreatBsEI
import Derived.Test.YtmdidmllaldbaaaGreatRefEntP
import Derived.Test.YtmdidmllaldbaaaGreatLentE
import Derived.Test.YtmdidmllaldbaaaGreatLent
import Derived.Test.YtmdidmllaldbaaaGreatAliveE
import Derived.Test.YtmdidmllaldbaaaGreatSmallE
import Derived.Laws.StructEq
import Derived.Deep.QuietTactic
namespace Go.Proofs.YtmdidmllaldbaaaGreat
open Go.RowKit
set_option linter.unusedVariables false
theorem EntsIn.keep {w W : World} {ao : Option Addr} {n c : Nat} {l : List Ent} (h : EntsIn w ao n c l) (hb : Below w.heap.size w W) : EntsIn W ao n c l :=
  ⟨(h.ents.below hb).mono hb.size, h.le, h.nil_, h.sz, h.ok⟩
theorem IntsIn.keep {w W : World} {ao : Option Addr} {n c : Nat} {l : List Int} (h : IntsIn w ao n c l) (hb : Below w.heap.size w W) : IntsIn W ao n c l :=
  { h with cell := (fun hn => by (obtain ⟨b, o, ha, hlt, hc⟩ := h.cell hn; exact ⟨b, o, ha, Nat.lt_of_lt_of_le hlt hb.size, fun k v hv => (hb.cell (p := ⟨b, o + k, none⟩) hlt).trans (hc k v hv)⟩)) }
theorem getLoop_len : ∀ (n : Nat) (st : RSt) (acc : List Ent), (getLoop n st acc).1.length ≤ acc.length + n := by
  intro n
  induction n with
  | zero => intro st acc; exact Nat.le_refl _
  | succ n ih =>
    intro st acc
    rw [getLoop]
    split
    · exact Nat.le_add_right _ _
    · have := ih (getEnt st).2 (acc ++ [(getEnt st).1])
      simp at this
      omega
theorem getAll_len (st : RSt) : (getAll st).1.length ≤ 400 := by
  have h1 := rCount_range 400 st (by decide)
  have h2 := getLoop_len (rCount 400 st).1.toNat (rCount 400 st).2 []
  unfold getAll
  split
  · exact Nat.zero_le _
  · simp at h2; omega
theorem membersP_ok (b : List UInt8) : (membersP b).1.length ≤ 9 ∧ ∀ v ∈ (membersP b).1, -9223372036854775808 ≤ v ∧ v ≤ 9223372036854775807 := by
  have h1 := rCount_range 9 (b, 0) (by decide)
  have h2 := getMs_len16 (rCount 9 (b, 0)).1.toNat (rCount 9 (b, 0)).2 []
  have h3 := getMs_ok16 (rCount 9 (b, 0)).1.toNat (rCount 9 (b, 0)).2 [] (by simp)
  unfold membersP memP
  split
  · simp
  · split
    · simp
    · split
      · simp at h2; exact ⟨by show (getMs (rCount 9 (b, 0)).1.toNat (rCount 9 (b, 0)).2 []).1.length ≤ 9; omega, h3⟩
      · simp
theorem own_neT {w : World} {b base : Nat} {T e : TypeId} {size n : Nat} {cs : Array Value} {v : Value} {xs : List Value} (hb : w.heap[b]? = some (.cells cs T (0, 0))) (hT : T ≠ e) (h : w.ownsRow base e size v n xs) : v.ownBlock ≠ some b := by
  rcases h.2 with ⟨rfl, _⟩ | ⟨g, cap, cur, rfl, _, hg, _⟩
  · simp [Value.ownBlock]
  · intro he
    have hgb : g = b := by simpa [Value.ownBlock] using he
    subst hgb
    rw [hb] at hg
    injection hg with hg
    injection hg with _ h2
    exact hT h2
theorem LentE.kept {w W : World} {B g n c : Nat} {l : List Ent} {row : Option Nat} (h : LentE w B g n c l) (hg : w.grownBy W row) (hne : some g ≠ row) : LentE W B g n c l := ⟨h.1, h.2.1, h.2.2.kept hg (.inr hne)⟩
theorem LentI.kept {w W : World} {B g n c : Nat} {l : List Int} {row : Option Nat} (h : LentI w B g n c l) (hg : w.grownBy W row) (hne : some g ≠ row) : LentI W B g n c l := ⟨h.1, h.2.1, h.2.2.kept hg (.inr hne)⟩
theorem LentE.pres {w W : World} {N B g n c : Nat} {l : List Ent} (h : LentE w B g n c l) (hp : Pres N w W) (hN : N ≤ B) : LentE W B g n c l := ⟨h.1, h.2.1, own_pres h.2.2 hp hN⟩
theorem LentI.pres {w W : World} {N B g n c : Nat} {l : List Int} (h : LentI w B g n c l) (hp : Pres N w W) (hN : N ≤ B) : LentI W B g n c l := ⟨h.1, h.2.1, own_pres h.2.2 hp hN⟩
theorem Rdr.at_ {w w' : World} {b : Nat} {st : RSt} (h : Rdr w b st) (hb : w'.heap[b]? = w.heap[b]?) : Rdr w' b st := by
  obtain ⟨s, h1, h2, h3⟩ := h
  exact ⟨s, h1, h2, hb.trans h3⟩
set_option maxRecDepth 100000 in
set_option maxHeartbeats 16000000 in
theorem walk_EntTells {w : World} (ao0 : Option Addr) (n0 c0 : Nat) (z0 : ∃ l, EntsIn w ao0 n0 c0 l) (ao1 : Option Addr) (n1 c1 : Nat) (z1 : ∃ l, IntsIn w ao1 n1 c1 l) (s : ByteArray) (hs : s.size ≤ maxLen) :
    Calls Tryz.prog 3 #[.slice ao0 n0 c0, .slice ao1 n1 c1, .string s] w fun e w' => e = .returned (.bool true) ∧ Below w.heap.size w w' := by
  obtain ⟨l, z0⟩ := z0
  obtain ⟨vs, z1⟩ := z1
  unfold maxLen at hs
  have hnn : n0 ≤ 140737488351232 := by have := z0.sz; have := z0.le; omega
  have hmm : n1 ≤ 140737488351232 := by have := z1.sz; have := z1.le; omega
  have HE := Lib.hid z0
  have HI := Lib.hid z1
  clear z0 z1
  go_enter Tryz.func3, Tryz.ntmps3
  go_wp2_with fail
  refine (small_any HE.out).mono ?_
  rintro e w1 ⟨r1, rfl, hr1, hb1⟩
  have HB1 := Lib.hid hb1
  cases r1 with
  | false =>
    clear hr1 hb1
    go_wp2_with fail
    refine (aliveE_any _).mono ?_
    rintro e w2 ⟨rfl, hb2⟩
    go_wp2_with fail
    go_ret
    exact ⟨rfl, HB1.out.trans (hb2.mono HB1.out.size)⟩
  | true =>
  obtain ⟨h420, hsum⟩ := hr1 rfl
  clear hr1 hb1
  by_cases h100 : 100 < n1
  · go_wp2_with fail
    refine (aliveE_any _).mono ?_
    rintro e w2 ⟨rfl, hb2⟩
    go_wp2_with fail
    go_ret
    exact ⟨rfl, HB1.out.trans (hb2.mono HB1.out.size)⟩
  by_cases h6000 : 6000 < s.size
  · go_wp2_with fail
    refine (aliveE_any _).mono ?_
    rintro e w2 ⟨rfl, hb2⟩
    go_wp2_with fail
    go_ret
    exact ⟨rfl, HB1.out.trans (hb2.mono HB1.out.size)⟩
  have HSt := Lib.hid (BsEI.start HB1.out)
  have hs6 : s.size ≤ 6000 := by omega
  have HSum : Hid ((l.map (·.dt.size)).sum ≤ 17592186044416) := Lib.hid (by change (l.map (·.dt.size)).sum ≤ 12000 at hsum; omega)
  clear hsum
  go_wp2_with fail
  go_loopw [8] (fun i wr => ∃ (k : Nat) (o : Nat → Tag), k ≤ 2 ∧ i = .int .i64 k ∧ Hid (BsEI w wr w1.heap.size o)) (fun i _ => 2 - (intOf i).toNat)
  case atStart => exact ⟨0, _, by omega, rfl, HSt⟩
  case round =>
    obtain ⟨k, o, hk, rfl, HK⟩ := hrel
    have hbw := HK.out.bel
    have HBW := Lib.hid hbw
    clear hbw
    by_cases hlt : k < 2
    · have hx1 : (k : Int) < 2 := by omega
      go_wp2_with fail
      refine (lentE_any (HE.out.keep HBW.out) (by omega)).mono ?_
      rintro e v1 ⟨g1, d1, rfl, hL1, hb1⟩
      have HL1 := Lib.hid hL1
      have HP1 := Lib.hid hb1
      clear hL1 hb1
      go_wp2_with fail
      refine (lentI_any (HI.out.keep (HBW.out.trans (HP1.out.mono HBW.out.size))) (by omega)).mono ?_
      rintro e v2 ⟨g2, d2, rfl, hL2, hb2⟩
      have HL2 := Lib.hid hL2
      have HL1 := Lib.hid (HL1.out.below hb2)
      have HP2 := Lib.hid (HP1.out.trans (hb2.mono HP1.out.size))
      have HP1s : Hid (wr.heap.size ≤ v1.heap.size) := Lib.hid HP1.out.size
      clear hL2 hb2 HP1
      go_wp2_with fail
      refine (newReader_any s _ (by omega)).mono ?_
      rintro e v3 ⟨b, rfl, hbb, hr3, hb3⟩
      have R3 : RS wr v3 wr.heap.size b (s.data.toList, 0) := ⟨⟨s, rfl, by omega, hr3⟩, HP2.out.trans (hb3.mono HP2.out.size), Nat.le_trans HP2.out.size hbb⟩
      have HL1 := Lib.hid (HL1.out.below hb3)
      have HL2 := Lib.hid (HL2.out.below hb3)
      have hl1 := HL1.out.lt
      have hl2 := HL2.out.lt
      have hbl := blk_lt hr3
      obtain ⟨q, hq⟩ : ∃ q, q = v3.heap.size := ⟨_, rfl⟩
      obtain ⟨st, hst⟩ : ∃ st : RSt, st = (s.data.toList, 0) := ⟨_, rfl⟩
      rw [← hst] at R3
      have b34 : Below v3.heap.size v3 (v3.alloc (.cells #[.string s, .int .i64 0] 47)) := (Below.refl _ _).alloc (Nat.le_refl _) _
      have HQ4 : Hid (RRdr (v3.alloc (.cells #[.string s, .int .i64 0] 47)) q st) := Lib.hid (by rw [hst]; exact ⟨s, rfl, by omega, new_at _ _ _ hq⟩)
      have R4 := R3.step b34
      have hne1 : g1 ≠ b := fun e => by have := own_neT hr3 (by decide) HL1.out.2.2; exact this (by rw [e]; rfl)
      have hne2 : g2 ≠ b := fun e => by have := own_neT hr3 (by decide) HL2.out.2.2; exact this (by rw [e]; rfl)
      have HL1 := Lib.hid (HL1.out.below b34)
      have HL2 := Lib.hid (HL2.out.below b34)
      have HGet := Lib.hid (get_any R4)
      have hsz4 : (v3.alloc (.cells #[.string s, .int .i64 0] 47)).heap.size = q + 1 := by rw [hq]; simp
      have hP3s : wr.heap.size ≤ v3.heap.size := R3.size
      obtain ⟨pr, hpr⟩ : ∃ pr, pr = getAll st := ⟨_, rfl⟩
      obtain ⟨on, hon⟩ : ∃ on, on = oneP s.data.toList := ⟨_, rfl⟩
      obtain ⟨mm, hmm2⟩ : ∃ mm, mm = membersP s.data.toList := ⟨_, rfl⟩
      have HMm := Lib.hid hmm2
      have HV1 : Hid (wr.heap.size ≤ v1.heap.size) := Lib.hid HP1s.out
      have hbw3 : wr.heap.size ≤ b := Nat.le_trans HP2.out.size hbb
      have HOn : Hid (∀ W, Calls Tryz.prog 15 #[.string s] W (OneRes on W)) := Lib.hid (fun W => by rw [hon]; exact one_any s W (by omega))
      have HOnR : Hid (∀ W, Calls Tryz.prog 16 #[.string s] W (OneRes on W)) := Lib.hid (fun W => by rw [hon]; exact rone16_any s W (by omega))
      have HMe : Hid (∀ W, Calls Tryz.prog 17 #[.string s] W (MemRes mm W)) := Lib.hid (fun W => by rw [hmm2]; exact getMembers_any s W (by omega))
      have HMeR : Hid (∀ W, Calls Tryz.prog 18 #[.string s] W (MemRes mm W)) := Lib.hid (fun W => by rw [hmm2]; exact rgetMembers16_any s W (by omega))
      have HPr := Lib.hid hpr
      have HSt' := Lib.hid hst
      have HQq := Lib.hid hq
      have hqs : wr.heap.size ≤ q := by omega
      clear hon hmm2 hr3 hbb hb3 R3 R4 b34 HP2 hpr hst
      go_wp2_with fail
      refine HGet.out.mono ?_
      rintro e v5 ⟨aoA, NA, cA, rfl, hoA, hlA, R5, hgA⟩
      rw [← HPr.out] at hoA hlA R5
      have hq5 : v5.heap[q]? = _ := hgA.block q (by rw [hsz4]; omega) (fun e => by injection e with e; omega)
      have HQ5 := Lib.hid (HQ4.out.at_ hq5)
      have HL1 := Lib.hid (HL1.out.kept hgA (fun e => hne1 (by injection e)))
      have HL2 := Lib.hid (HL2.out.kept hgA (fun e => hne2 (by injection e)))
      have hsz5 : q + 1 ≤ v5.heap.size := by rw [← hsz4]; exact hgA.size
      have HOA := Lib.hid (own_monoK hoA (show wr.heap.size ≤ _ by rw [hsz4]; omega))
      have HRg : Hid (Calls Tryz.prog 14 #[.pointer (some ⟨v3.heap.size, 0, none⟩)] v5 (RGetRes st v5 q)) := Lib.hid (by have h := rget16_any HQ5.out; rw [HQq.out] at h ⊢; exact h)
      clear HGet HQ4 hoA hq5 hgA hsz4
      go_wp2_with fail
      refine HRg.out.mono ?_
      rintro e v6 ⟨aoC, NC, cC, rfl, hoC, hlC, Q6, hgC⟩
      rw [← HPr.out] at hoC hlC Q6
      obtain ⟨n, hn⟩ : ∃ n, pr.1.length = n := ⟨_, rfl⟩
      obtain rfl : NA = n := by omega
      obtain rfl : NC = NA := by omega
      obtain ⟨qs, hq1, hq2, hq3⟩ := HQ5.out
      have HOA := Lib.hid (HOA.out.kept hgC (.inr (own_neT hq3 (by decide) HOA.out)))
      have HOC := Lib.hid (own_monoK hoC (show wr.heap.size ≤ _ by omega))
      have HL1 := Lib.hid (HL1.out.kept hgC (fun e => by injection e with e; omega))
      have HL2 := Lib.hid (HL2.out.kept hgC (fun e => by injection e with e; omega))
      have HR6 := Lib.hid (R5.1.at_ (hgC.block b R5.1.lt (fun e => by injection e with e; omega)))
      have HQ6 := Lib.hid Q6
      have HP6 := Lib.hid (R5.2.1.grown hgC (by omega) (fun k hk => by injection hk with hk; omega))
      have hsz6 : v5.heap.size ≤ v6.heap.size := hgC.size
      clear hoC hgC Q6 R5 hq1 hq2 hq3 HRg HQ5 hlC
      go_wp2_with fail
      refine (HOn.out _).mono ?_
      rintro e v7 ⟨rfl, hb7⟩
      have HP7 := Lib.hid hb7
      clear hb7
      go_wp2_with fail
      refine (HOnR.out _).mono ?_
      rintro e v8 ⟨rfl, hb8⟩
      have b78 : Below v7.heap.size v7 v8 := ((Below.refl _ _).alloc (Nat.le_refl _) _).trans (hb8.mono (by simp))
      have k8 : v8.heap[v7.heap.size]? = some (.cells #[.int .i64 on.1.ix, .int .i64 on.1.tm, .int .i64 on.1.kd, .string on.1.dt] 51 (0, 0)) := (hb8.block _ (by simp)).trans (heap_alloc_new v7 _)
      have HB78 := Lib.hid b78
      have HK8 := Lib.hid k8
      clear hb8 b78 k8
      go_wp2_with fail
      refine (HMe.out _).mono ?_
      rintro e v9 ⟨aoU, NU, cU, rfl, hoU, hlU, hb9⟩
      have HB9 := Lib.hid hb9
      have HOU := Lib.hid hoU
      clear hb9 hoU
      go_wp2_with fail
      refine (HMeR.out _).mono ?_
      rintro e v10 ⟨aoV, NV, cV, rfl, hoV, hlV, hb10⟩
      obtain ⟨nu, hnu⟩ : ∃ nu, mm.1.length = nu := ⟨_, rfl⟩
      obtain rfl : NU = nu := by omega
      obtain rfl : NV = NU := by omega
      clear hlV hnu
      -- from v6 to v10
      have b89 : Below v8.heap.size v8 v9 := ((Below.refl _ _).alloc (Nat.le_refl _) _).trans (HB9.out.mono (by simp))
      have z7 := HP7.out.size
      have z8 := HB78.out.size
      have z9 := b89.size
      have z10 := hb10.size
      have b610 : Below v6.heap.size v6 v10 := ((HP7.out.trans (HB78.out.mono z7)).trans (b89.mono (by omega))).trans (hb10.mono (by omega))
      have b810 : Below v8.heap.size v8 v10 := b89.trans (hb10.mono z9)
      have l8 := blk_lt HK8.out
      have K10 := (b810.block _ l8).trans HK8.out
      have z8a : (v8.alloc (.cells #[.int .i64 on.1.ix, .int .i64 on.1.tm, .int .i64 on.1.kd, .string on.1.dt] 51)).heap.size = v8.heap.size + 1 := by simp
      have z9a := HB9.out.size
      have M10 : v10.heap[v8.heap.size]? = some (.cells #[.int .i64 on.1.ix, .int .i64 on.1.tm, .int .i64 on.1.kd, .string on.1.dt] 51 (0, 0)) := (hb10.block _ (by omega)).trans ((HB9.out.block _ (by omega)).trans (heap_alloc_new v8 _))
      have wr6 : wr.heap.size ≤ v6.heap.size := HP6.out.size
      have BW10 : Below wr.heap.size wr v10 := HP6.out.trans (b610.mono wr6)
      -- tags
      have a1 : Agree o (retag o wr.heap.size (77, 0, 0)) wr.heap.size := retag_agree _ _ _
      have a2 : Agree (retag o wr.heap.size (77, 0, 0)) (retag (retag o wr.heap.size (77, 0, 0)) (v8.heap.size + 1) (77, 1, 0)) (v8.heap.size + 1) := retag_agree _ _ _
      obtain ⟨o2, ho2⟩ : ∃ o2, o2 = retag (retag o wr.heap.size (77, 0, 0)) (v8.heap.size + 1) (77, 1, 0) := ⟨_, rfl⟩
      rw [← ho2] at a2
      have HBs := Lib.hid ((HK.out.agree (a1.trans a2 (by omega))).below BW10)
      have tA : Tagged o2 v10.heap.size (77, 0, 0) (.slice aoA NC cA) := ((retag_own (M := v6.heap.size) HOA.out).agree (fun g hg => a2 g (by omega))).more HOA.out _
      have HOU9 := HOU.out
      rw [z8a] at HOU9
      have tU : Tagged o2 v10.heap.size (77, 1, 0) (.slice aoU NV cU) := by rw [ho2]; exact retag_own HOU9
      have hSS : ∀ g, wr.heap.size ≤ g → ¬ SS (o2 g) := fun g hg => by
        rw [ho2]
        unfold retag
        split
        · rw [if_neg (by omega)]; exact not_ss77 0
        · exact not_ss77 1
      have OA10 := own_below HOA.out b610
      have HAdd := Lib.hid (HBs.out.addE (own_monoK OA10 HBW.out.size) hlA (by have := getAll_len st; rw [← HPr.out] at this; omega) tA)
      have hmmo : mm.1.length ≤ 9 ∧ ∀ v ∈ mm.1, -9223372036854775808 ≤ v ∧ v ≤ 9223372036854775807 := by rw [HMm.out]; exact membersP_ok _
      have HMo := Lib.hid hmmo
      have HBW10 := Lib.hid BW10
      have Hb610 := Lib.hid b610
      have HK10 := Lib.hid K10
      have HM10 := Lib.hid M10
      have HOA := Lib.hid OA10
      have HOC := Lib.hid (own_below HOC.out b610)
      have HL1 := Lib.hid (HL1.out.below b610)
      have HL2 := Lib.hid (HL2.out.below b610)
      have HR := Lib.hid (HR6.out.at_ (b610.block b HR6.out.lt))
      have HQ := Lib.hid (HQ6.out.below b610)
      have HOU := Lib.hid (own_below HOU9 hb10)
      have HOV := Lib.hid hoV
      have HTU := Lib.hid tU
      have HSS := Lib.hid hSS
      have hv1 : wr.heap.size ≤ v1.heap.size := HV1.out
      clear hb10 b610 b810 b89 K10 M10 BW10 a1 a2 tA HOU9 tU hSS OA10 hmmo hoV HR6 HQ6 HP6 HP7 HB78 HK8 HB9 ho2 HBs HOn HOnR HMe HMeR
      go_wp2_with fail
      refine HAdd.out.mono ?_
      rintro e v11 ⟨rfl, o3, B11, U11, T11⟩
      have P11 : Pres wr.heap.size v10 v11 := Pres.ofTurn T11 (fun g hg _ => HSS.out g hg)
      have OU11 := own_pres HOU.out P11 (by omega)
      have HAdd2 := Lib.hid (B11.addI (own_monoK OU11 (by have := HBW.out.size; omega)) hlU (by have := HMo.out.1; omega) ((U11.wait (by decide) HTU.out).more HOU.out _))
      have HU11 := Lib.hid U11
      have HT11 := Lib.hid T11
      have HP11 := Lib.hid P11
      clear B11 U11 T11 P11 OU11 HAdd
      go_wp2_with fail
      refine HAdd2.out.mono ?_
      rintro e v12 ⟨rfl, o4, B12, U12, T12⟩
      have P12 : Pres wr.heap.size v10 v12 := ⟨Nat.le_trans HT11.out.size T12.size, fun g hg hlt => (T12.block g (Nat.lt_of_lt_of_le hlt HT11.out.size) (HU11.out.not hlt (HSS.out g hg))).trans (HP11.out.block g hg hlt)⟩
      have HB12 := Lib.hid B12
      have HBel := Lib.hid B12.bel
      have HOA := Lib.hid (own_pres HOA.out P12 (Nat.le_refl _))
      have HOC := Lib.hid (own_pres HOC.out P12 (Nat.le_refl _))
      have HL1 := Lib.hid (HL1.out.pres P12 (Nat.le_refl _))
      have HL2 := Lib.hid (HL2.out.pres P12 hv1)
      have HOU := Lib.hid (own_pres HOU.out P12 (by omega))
      have HOV := Lib.hid (own_pres HOV.out P12 (by omega))
      have HR := Lib.hid (HR.out.at_ (P12.block b hbw3 HR.out.lt))
      have HQ := Lib.hid (HQ.out.at_ (P12.block q hqs HQ.out.lt))
      have hk10 := blk_lt HK10.out
      have hm10 := blk_lt HM10.out
      have HK := Lib.hid ((P12.block _ (by omega) hk10).trans HK10.out)
      have HM := Lib.hid ((P12.block _ (by omega) hm10).trans HM10.out)
      clear B12 U12 T12 P12 HAdd2 HU11 HT11 HP11
      -- what is called now
      have HE12 := Lib.hid (HE.out.keep HBel.out)
      have HI12 := Lib.hid (HI.out.keep HBel.out)
      have hll : l.length = n0 := HE12.out.ents.1
      have hvl : vs.length = n1 := HI12.out.len
      have C1 : Hid (∀ W, Below v12.heap.size v12 W → Calls Tryz.prog 21 #[.slice (some ⟨g1, 0, none⟩) n0 d1] W fun e w' => e = .returned (.string ⟨(putB l).toArray⟩) ∧ Below W.heap.size W w') := Lib.hid (fun W hb => put_any ((HL1.out.below hb).list hll) HE12.out.ok (by omega) HSum.out)
      have C2 : Hid (∀ W, Below v12.heap.size v12 W → Calls Tryz.prog 22 #[.slice ao0 n0 c0] W fun e w' => e = .returned (.string ⟨(putB l).toArray⟩) ∧ Below W.heap.size W w') := Lib.hid (fun W hb => rput16_any (HE12.out.keep hb).ents HE12.out.ok (by omega) HSum.out)
      have C3 : Hid (∀ W, Below v12.heap.size v12 W → Calls Tryz.prog 23 #[.slice (some ⟨g2, 0, none⟩) n1 d2] W fun e w' => e = .returned (.string ⟨(memB vs).toArray⟩) ∧ Below W.heap.size W w') := Lib.hid (fun W hb => putMembers_any (show IntsOf W (some ⟨g2, 0, none⟩) n1 vs from ⟨hvl, HI12.out.ok, fun _ => ⟨g2, 0, rfl, (HL2.out.below hb).lt, (HL2.out.below hb).at_ hvl⟩⟩) (by omega))
      have C4 : Hid (∀ W, Below v12.heap.size v12 W → Calls Tryz.prog 24 #[.slice ao1 n1 c1] W fun e w' => e = .returned (.string ⟨(memB vs).toArray⟩) ∧ Below W.heap.size W w') := Lib.hid (fun W hb => rputMembers16_any (HI12.out.keep hb).of (by omega))
      have C5 : Hid (∀ W, Below v12.heap.size v12 W → Calls Tryz.prog 25 #[.slice aoA NC cA, .slice aoC NC cC] W fun e w' => e = .returned (.bool true) ∧ Below W.heap.size W w') := Lib.hid (fun W hb => sameE_yes (ents_own (own_below HOA.out hb)) (ents_own (own_below HOC.out hb)) (by have := getAll_len st; rw [← HPr.out] at this; omega))
      have C6 : Hid (∀ W, Below v12.heap.size v12 W → Calls Tryz.prog 26 #[.pointer (some ⟨b, 0, none⟩)] W fun e w' => e = .returned (.int .i64 pr.2.2) ∧ W = w') := Lib.hid (fun W hb => err_any (HR.out.at_ (hb.block b HR.out.lt)))
      have C7 : Hid (∀ W, Below v12.heap.size v12 W → Calls Tryz.prog 27 #[.pointer (some ⟨b, 0, none⟩)] W fun e w' => e = .returned (.int .i64 (rEnd pr.2)) ∧ W = w') := Lib.hid (fun W hb => end_any (HR.out.at_ (hb.block b HR.out.lt)))
      have C8 : Hid (∀ W, Below v12.heap.size v12 W → Calls Tryz.prog 28 #[.pointer (some ⟨v3.heap.size, 0, none⟩)] W fun e w' => e = .returned (.int .i64 (rEnd pr.2)) ∧ W = w') := Lib.hid (fun W hb => by have h := rrend_any (HQ.out.below hb); rw [HQq.out] at h; exact h)
      have C9 : Hid (∀ W, Below v12.heap.size v12 W → Calls Tryz.prog 29 #[.slice aoU NV cU, .slice aoV NV cV] W fun e w' => e = .returned (.bool true) ∧ Below W.heap.size W w') := Lib.hid (fun W hb => bkSameI (Reads.own (own_below HOU.out hb)) (Reads.own (own_below HOV.out hb)) hlU (by have := HMo.out.1; omega))
      have C10 : Hid (∀ W, Below v12.heap.size v12 W → Calls Tryz.prog 30 #[.slice (some ⟨g1, 0, none⟩) n0 d1, .slice ao0 n0 c0] W fun e w' => e = .returned (.bool true) ∧ Below W.heap.size W w') := Lib.hid (fun W hb => staysE_any (HL1.out.below hb) (HE12.out.keep hb).ents (by omega))
      have C11 : Hid (∀ W, Below v12.heap.size v12 W → Calls Tryz.prog 31 #[.slice (some ⟨g2, 0, none⟩) n1 d2, .slice ao1 n1 c1] W fun e w' => e = .returned (.bool true) ∧ Below W.heap.size W w') := Lib.hid (fun W hb => staysI_any (HL2.out.below hb) (HI12.out.keep hb).of (by omega))
      have F1 : Hid (∀ W, Below v12.heap.size v12 W → W.cell? ⟨v3.heap.size, 1, none⟩ = some (.int .i64 pr.2.2)) := Lib.hid (fun W hb => by have h := (HQ.out.below hb).facts; obtain ⟨_, _, _, _, h, _⟩ := h; rw [HQq.out] at h; exact h)
      have F2 : Hid (∀ W, Below v12.heap.size v12 W → W.heap[v7.heap.size]? = some (.cells #[.int .i64 on.1.ix, .int .i64 on.1.tm, .int .i64 on.1.kd, .string on.1.dt] 51 (0, 0)) ∧ W.heap[v8.heap.size]? = some (.cells #[.int .i64 on.1.ix, .int .i64 on.1.tm, .int .i64 on.1.kd, .string on.1.dt] 51 (0, 0))) := Lib.hid (fun W hb => ⟨(hb.block _ (blk_lt HK.out)).trans HK.out, (hb.block _ (blk_lt HM.out)).trans HM.out⟩)
      have HB : Hid (Below v12.heap.size v12 v12) := Lib.hid (Below.refl _ _)
      clear HE12 HI12 hll hvl HOA HOC HOU HOV HL1 HL2 HR HQ HK HM
      have y1 : ∀ p : SinceW v12.heap.size v12, p.w.cell? ⟨v3.heap.size, 1, none⟩ = some (.int .i64 pr.2.2) := fun p => F1.out _ p.h
      have o0 : ∀ p : SinceW v12.heap.size v12, p.w.cell? ⟨v7.heap.size, 0, none⟩ = some (.int .i64 on.1.ix) := fun p => by rw [blk_cell (F2.out _ p.h).1]; rfl
      have o1 : ∀ p : SinceW v12.heap.size v12, p.w.cell? ⟨v7.heap.size, 1, none⟩ = some (.int .i64 on.1.tm) := fun p => by rw [blk_cell (F2.out _ p.h).1]; rfl
      have o2 : ∀ p : SinceW v12.heap.size v12, p.w.cell? ⟨v7.heap.size, 2, none⟩ = some (.int .i64 on.1.kd) := fun p => by rw [blk_cell (F2.out _ p.h).1]; rfl
      have o3 : ∀ p : SinceW v12.heap.size v12, p.w.cell? ⟨v7.heap.size, 3, none⟩ = some (.string on.1.dt) := fun p => by rw [blk_cell (F2.out _ p.h).1]; rfl
      have p0 : ∀ p : SinceW v12.heap.size v12, p.w.cell? ⟨v8.heap.size, 0, none⟩ = some (.int .i64 on.1.ix) := fun p => by rw [blk_cell (F2.out _ p.h).2]; rfl
      have p1 : ∀ p : SinceW v12.heap.size v12, p.w.cell? ⟨v8.heap.size, 1, none⟩ = some (.int .i64 on.1.tm) := fun p => by rw [blk_cell (F2.out _ p.h).2]; rfl
      have p2 : ∀ p : SinceW v12.heap.size v12, p.w.cell? ⟨v8.heap.size, 2, none⟩ = some (.int .i64 on.1.kd) := fun p => by rw [blk_cell (F2.out _ p.h).2]; rfl
      have p3 : ∀ p : SinceW v12.heap.size v12, p.w.cell? ⟨v8.heap.size, 3, none⟩ = some (.string on.1.dt) := fun p => by rw [blk_cell (F2.out _ p.h).2]; rfl
      go_wp2_with fail
      refine wp_region_since (B := v12.heap.size) (W0 := v12) (by kernel_rfl) (by kernel_rfl) (Below.refl _ _) ?_
      simp only [List.append_eq, List.cons_append, List.nil_append]
      repeat (go_big_quiet_step (first
        | (go_at_call 21; exact since_call (Nat.le_refl _) (C1.out _ (SinceW.h _)))
        | (go_at_call 22; exact since_call (Nat.le_refl _) (C2.out _ (SinceW.h _)))
        | (go_at_call 23; exact since_call (Nat.le_refl _) (C3.out _ (SinceW.h _)))
        | (go_at_call 24; exact since_call (Nat.le_refl _) (C4.out _ (SinceW.h _)))
        | (go_at_call 25; exact since_call (Nat.le_refl _) (C5.out _ (SinceW.h _)))
        | (go_at_call 26; exact since_same (C6.out _ (SinceW.h _)))
        | (go_at_call 27; exact since_same (C7.out _ (SinceW.h _)))
        | (go_at_call 28; exact since_same (C8.out _ (SinceW.h _)))
        | (go_at_call 29; exact since_call (Nat.le_refl _) (C9.out _ (SinceW.h _)))
        | (go_at_call 30; exact since_call (Nat.le_refl _) (C10.out _ (SinceW.h _)))
        | (go_at_call 31; exact since_call (Nat.le_refl _) (C11.out _ (SinceW.h _)))))
      refine wpQuiet_nil ?_
      intro _ hw'
      obtain ⟨⟨w5, hv5⟩, rfl⟩ := hw'
      have HB := Lib.hid hv5
      clear y1 o0 o1 o2 o3 p0 p1 p2 p3 hv5
      go_wp2_with fail
      go_roundw
      case rel => exact ⟨k + 1, o4, by omega, by go_num, Lib.hid (HB12.out.below HB.out)⟩
      case measure => simp [intOf]; omega
    · obtain rfl : k = 2 := by omega
      have HAl := Lib.hid (aliveE_any wr)
      go_wp2_with fail
      refine HAl.out.mono ?_
      rintro e v1 ⟨rfl, hb1⟩
      have HAp := Lib.hid (HK.out.below hb1).apart
      go_wp2_with fail
      refine HAp.out.mono ?_
      rintro e v2 ⟨rfl, hb2⟩
      go_wp2_with fail
      go_ret
      exact ⟨rfl, hb2⟩
end Go.Proofs.YtmdidmllaldbaaaGreat
