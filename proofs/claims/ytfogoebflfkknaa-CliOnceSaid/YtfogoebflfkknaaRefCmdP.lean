/- The walks of arboretumref22.PutReply, Tell, Put and Ask (the first two printed by wip/gen_refcmdp.py out of XCmdD). -/
import Derived.Test.YtfogoebflfkknaaRefCmdV
import Derived.Test.YtfogoebflfkknaaRefVar
import Derived.Test.YtfogoebflfkknaaCmdG
namespace Go.Proofs.Ytfogoebflfkknaa
open Go.RowKit
set_option linter.unusedVariables false
theorem rvar_row {w : World} {g : Nat} {cs : Array Value} {t : TypeId} (vs : List Int) (n : Nat) (h : w.heap[g]? = some (.cells cs t (0, 0))) (hcs : cs = (vs.map (Value.int .i64)).toArray) (hl : vs.length = n) (hn : n ≤ 1000) (hv : ∀ v ∈ vs, -9223372036854775808 ≤ v ∧ v ≤ 9223372036854775807) :
    Calls Try.prog 47 #[.slice (some ⟨g, 0, none⟩) n n] w fun e w' => e = .returned (.string ⟨(vars vs).toArray⟩) ∧ Below w.heap.size w w' := by
  subst hcs
  refine rvars_any (some ⟨g, 0, none⟩) n n vs w hl (by omega) (fun k hk => ⟨g, 0, rfl, blk_lt h, ?_⟩) hv
  rw [Nat.zero_add, blk_cell h]
  have hk' : k < vs.length := by omega
  simp [List.getD_eq_getElem?_getD, List.getElem?_eq_getElem hk']
set_option maxRecDepth 20000 in
set_option maxHeartbeats 2000000 in
theorem rputReply_any (r : RepV) (hok : RepOk r) (w : World) : Calls Try.prog 16 #[r.agg] w fun e w' => e = .returned (.string ⟨(repB r).toArray⟩) ∧ Below w.heap.size w w' := by
  obtain ⟨er, nm, vl⟩ := r
  obtain ⟨k1, k2, k3⟩ := hok
  dsimp only at k1 k2 k3
  unfold RepV.agg
  have hHC : ∀ W, Below (w.heap.size + 1) (w.alloc (.cells #[.int .i64 er, .string vl, .int .i64 nm] 26)) W → W.cell? ⟨w.heap.size, 0, none⟩ = some (.int .i64 er) ∧ W.cell? ⟨w.heap.size, 1, none⟩ = some (.string vl) ∧ W.cell? ⟨w.heap.size, 2, none⟩ = some (.int .i64 nm) := by
    intro W hb
    have hk : W.heap[w.heap.size]? = _ := (hb.block w.heap.size (by omega)).trans (heap_alloc_new w _)
    refine ⟨?_, ?_, ?_⟩ <;> rw [blk_cell hk] <;> rfl
  have HC := Lib.hid hHC
  have hcat : ∀ W : World, (Op.stringOp .add ⟨(vars [er, nm]).toArray⟩ ⟨(textB vl.data.toList).toArray⟩).run Try.prog W = .ok (.string ⟨(repB ⟨er, nm, vl⟩).toArray⟩) W := fun W => by
    have h1 := vars_len [er, nm]
    have h2 := textsB_len [vl]
    have he : textsB [vl] = textB vl.data.toList := by simp [textsB]
    rw [he] at h2
    rw [cat_run _ _ W (by simp at h1 h2; omega), ← he]
    rfl
  have HK := Lib.hid (And.intro k1 (And.intro k2 k3))
  clear hHC k1 k2 k3
  go_enter Try.func16, Try.ntmps16
  go_wp2_with fail
  go_region_held3 (fun W => W.cell? ⟨w.heap.size, 0, none⟩ = some (.int .i64 er) ∧ W.cell? ⟨w.heap.size, 1, none⟩ = some (.string vl) ∧ W.cell? ⟨w.heap.size, 2, none⟩ = some (.int .i64 nm))
    ((refine HC.out _ ?_; (repeat (with_reducible (first | assumption | exact Below.refl _ _ | refine Below.drew ?_ | refine Below.alloc ?_ ?_ _))); all_goals (simp <;> omega)))
    (first
      | (go_at_call 47; ((refine (rvar_row [er, nm] 2 (by first | exact new_at _ _ _ (by simp) | exact old_at _ _ _ _ (new_at _ _ _ (by simp)) | exact ((hb6.block _ (by first | (simp; done) | (simp; omega))).trans (by first | exact new_at _ _ _ (by simp) | exact old_at _ _ _ _ (new_at _ _ _ (by simp))))) rfl rfl (by omega) (by have := HK.out; simp; omega)).mono ?_); rintro e5 w5 ⟨rfl, hb5⟩; have hv5 : Below (w.heap.size + 1) (w.alloc (.cells #[.int .i64 er, .string vl, .int .i64 nm] 26)) w5 := (by (refine Below.trans ?_ (hb5.mono ?_)); (repeat (with_reducible (first | assumption | exact Below.refl _ _ | refine Below.drew ?_ | refine Below.alloc ?_ ?_ _))); all_goals (simp <;> omega)); have hs5 : w.heap.size + 1 ≤ w5.heap.size := (by have := hv5.size; simp at this; omega)))
      | (go_at_call 48; ((refine (rtext_any vl (by have := HK.out; omega) _).mono ?_); rintro e6 w6 ⟨rfl, hb6⟩; have hv6 : Below (w.heap.size + 1) (w.alloc (.cells #[.int .i64 er, .string vl, .int .i64 nm] 26)) w6 := (by (refine Below.trans ?_ (hb6.mono ?_)); (repeat (with_reducible (first | assumption | exact Below.refl _ _ | refine Below.drew ?_ | refine Below.alloc ?_ ?_ _))); all_goals (simp <;> omega)); have hs6 : w.heap.size + 1 ≤ w6.heap.size := (by have := hv6.size; simp at this; omega))))
  all_goals (
    go_wp2_with fail
    go_ret
    first | exact ⟨rfl, ((Below.refl _ _).alloc (Nat.le_refl _) _).trans (hv6.mono (by omega))⟩ | exact ⟨rfl, ((Below.refl _ _).alloc (Nat.le_refl _) _).trans (hv5.mono (by omega))⟩)
set_option maxRecDepth 20000 in
set_option maxHeartbeats 2000000 in
theorem rtell_any (n l : Int) (r : RepV) (hn : -9223372036854775808 ≤ n ∧ n ≤ 9223372036854775807) (hl : -9223372036854775808 ≤ l ∧ l ≤ 9223372036854775807) (hok : RepOk r) (w : World) :
    Calls Try.prog 18 #[.int .i64 n, .int .i64 l, r.agg] w fun e w' => e = .returned (.string ⟨(tellB n l r).toArray⟩) ∧ Below w.heap.size w w' := by
  have HP := Lib.hid (fun W => rputReply_any r hok W)
  have hrl : (repB r).length ≤ 20000000000 := by
    have h1 := vars_len [r.err, r.num]
    have h2 := textsB_len [r.val]
    have := hok.2.2
    unfold repB
    rw [List.length_append]
    simp at h1 h2
    omega
  have hcat1 : ∀ W : World, (Op.stringOp .add ⟨#[97]⟩ ⟨(vars [n, l]).toArray⟩).run Try.prog W = .ok (.string ⟨(97 :: vars [n, l]).toArray⟩) W := fun W => by
    have h1 := vars_len [n, l]
    exact cat_run [97] _ W (by simp at h1 ⊢; omega)
  have hcat2 : ∀ W : World, (Op.stringOp .add ⟨(97 :: vars [n, l]).toArray⟩ ⟨(repB r).toArray⟩).run Try.prog W = .ok (.string ⟨(tellB n l r).toArray⟩) W := fun W => by
    have h1 := vars_len [n, l]
    rw [cat_run _ _ W (by simp at h1 ⊢; omega)]
    rfl
  obtain ⟨er, nm, vl⟩ := r
  unfold RepV.agg at *
  have hHC : ∀ W, Below (w.heap.size + 1) (w.alloc (.cells #[.int .i64 er, .string vl, .int .i64 nm] 26)) W → W.cell? ⟨w.heap.size, 0, none⟩ = some (.int .i64 er) ∧ W.cell? ⟨w.heap.size, 1, none⟩ = some (.string vl) ∧ W.cell? ⟨w.heap.size, 2, none⟩ = some (.int .i64 nm) := by
    intro W hb
    have hk : W.heap[w.heap.size]? = _ := (hb.block w.heap.size (by omega)).trans (heap_alloc_new w _)
    refine ⟨?_, ?_, ?_⟩ <;> rw [blk_cell hk] <;> rfl
  have HC := Lib.hid hHC
  have HN := Lib.hid (And.intro hn hl)
  clear hHC hok hrl hn hl
  go_enter Try.func18, Try.ntmps18
  go_wp2_with fail
  go_region_held3 (fun W => W.cell? ⟨w.heap.size, 0, none⟩ = some (.int .i64 er) ∧ W.cell? ⟨w.heap.size, 1, none⟩ = some (.string vl) ∧ W.cell? ⟨w.heap.size, 2, none⟩ = some (.int .i64 nm))
    ((refine HC.out _ ?_; (repeat (with_reducible (first | assumption | exact Below.refl _ _ | refine Below.drew ?_ | refine Below.alloc ?_ ?_ _))); all_goals (simp <;> omega)))
    (first
      | (go_at_call 47; ((refine (rvar_row [n, l] 2 (by first | exact new_at _ _ _ (by simp) | exact old_at _ _ _ _ (new_at _ _ _ (by simp)) | exact ((hb6.block _ (by first | (simp; done) | (simp; omega))).trans (by first | exact new_at _ _ _ (by simp) | exact old_at _ _ _ _ (new_at _ _ _ (by simp))))) rfl rfl (by omega) (by have := HN.out; simp; omega)).mono ?_); rintro e5 w5 ⟨rfl, hb5⟩; have hv5 : Below (w.heap.size + 1) (w.alloc (.cells #[.int .i64 er, .string vl, .int .i64 nm] 26)) w5 := (by (refine Below.trans ?_ (hb5.mono ?_)); (repeat (with_reducible (first | assumption | exact Below.refl _ _ | refine Below.drew ?_ | refine Below.alloc ?_ ?_ _))); all_goals (simp <;> omega)); have hs5 : w.heap.size + 1 ≤ w5.heap.size := (by have := hv5.size; simp at this; omega)))
      | (go_at_call 16; ((refine (HP.out _).mono ?_); rintro e6 w6 ⟨rfl, hb6⟩; have hv6 : Below (w.heap.size + 1) (w.alloc (.cells #[.int .i64 er, .string vl, .int .i64 nm] 26)) w6 := (by (refine Below.trans ?_ (hb6.mono ?_)); (repeat (with_reducible (first | assumption | exact Below.refl _ _ | refine Below.drew ?_ | refine Below.alloc ?_ ?_ _))); all_goals (simp <;> omega)); have hs6 : w.heap.size + 1 ≤ w6.heap.size := (by have := hv6.size; simp at this; omega))))
  all_goals (
    go_wp2_with fail
    go_ret
    first | exact ⟨rfl, ((Below.refl _ _).alloc (Nat.le_refl _) _).trans (hv6.mono (by omega))⟩ | exact ⟨rfl, ((Below.refl _ _).alloc (Nat.le_refl _) _).trans (hv5.mono (by omega))⟩)
set_option maxRecDepth 20000 in
set_option maxHeartbeats 4000000 in
theorem rputOp_any (o : OpV) (hok : OpOk o) (w : World) : Calls Try.prog 12 #[o.agg] w (PutOp o w) := by
  have HV := Lib.hid (fun W => rvalid_any o W)
  obtain ⟨r, hr⟩ : ∃ r, r = validV o := ⟨_, rfl⟩
  have HR := Lib.hid hr
  unfold PutOp
  rw [← hr]
  rw [← hr] at HV
  clear hr
  by_cases h0 : r = 0
  · subst h0
    have hs := validV_sizes HR.out.symm
    obtain ⟨k1, k2, k3, _⟩ := hok
    obtain ⟨kd, ss, sq, key, val, old⟩ := o
    dsimp only at hs k1 k2 k3
    unfold OpV.agg at *
    have hHC : ∀ W, Below (w.heap.size + 1) (w.alloc (.cells #[.int .i64 kd, .int .i64 ss, .int .i64 sq, .string key, .string val, .string old] 23)) W → W.cell? ⟨w.heap.size, 0, none⟩ = some (.int .i64 kd) ∧ W.cell? ⟨w.heap.size, 1, none⟩ = some (.int .i64 ss) ∧ W.cell? ⟨w.heap.size, 2, none⟩ = some (.int .i64 sq) ∧ W.cell? ⟨w.heap.size, 3, none⟩ = some (.string key) ∧ W.cell? ⟨w.heap.size, 4, none⟩ = some (.string val) ∧ W.cell? ⟨w.heap.size, 5, none⟩ = some (.string old) := by
      intro W hb
      have hk : W.heap[w.heap.size]? = _ := (hb.block w.heap.size (by omega)).trans (heap_alloc_new w _)
      refine ⟨?_, ?_, ?_, ?_, ?_, ?_⟩ <;> rw [blk_cell hk] <;> rfl
    have HC := Lib.hid hHC
    have h1 := vars_len [kd, ss, sq]
    have h2 := textsB_len [key, val, old]
    obtain ⟨V, hV⟩ : ∃ V, V = vars [kd, ss, sq] := ⟨_, rfl⟩
    obtain ⟨K1, hK1⟩ : ∃ K, K = textB key.data.toList := ⟨_, rfl⟩
    obtain ⟨K2, hK2⟩ : ∃ K, K = textB val.data.toList := ⟨_, rfl⟩
    obtain ⟨K3, hK3⟩ : ∃ K, K = textB old.data.toList := ⟨_, rfl⟩
    have hts : textsB [key, val, old] = K1 ++ (K2 ++ K3) := by rw [hK1, hK2, hK3]; simp [textsB]
    have hop : opB ⟨kd, ss, sq, key, val, old⟩ = V ++ K1 ++ K2 ++ K3 := by
      show vars [kd, ss, sq] ++ textsB [key, val, old] = _
      rw [hts, ← hV]
      simp
    rw [hts, List.length_append, List.length_append] at h2
    rw [← hV] at h1
    simp only [List.length_cons, List.length_nil, List.map_cons, List.map_nil, List.sum_cons, List.sum_nil] at h1 h2
    have hcat1 : ∀ W : World, (Op.stringOp .add ⟨V.toArray⟩ ⟨K1.toArray⟩).run Try.prog W = .ok (.string ⟨(V ++ K1).toArray⟩) W := fun W => cat_run _ _ W (by omega)
    have hcat2 : ∀ W : World, (Op.stringOp .add ⟨(V ++ K1).toArray⟩ ⟨K2.toArray⟩).run Try.prog W = .ok (.string ⟨(V ++ K1 ++ K2).toArray⟩) W := fun W => cat_run _ _ W (by rw [List.length_append]; omega)
    have hcat3 : ∀ W : World, (Op.stringOp .add ⟨(V ++ K1 ++ K2).toArray⟩ ⟨K3.toArray⟩).run Try.prog W = .ok (.string ⟨(V ++ K1 ++ K2 ++ K3).toArray⟩) W := fun W => cat_run _ _ W (by rw [List.length_append, List.length_append]; omega)
    obtain ⟨P1, hP1⟩ : ∃ P, P = V ++ K1 := ⟨_, rfl⟩
    rw [← hP1] at hcat1 hcat2 hcat3 hop
    obtain ⟨P2, hP2⟩ : ∃ P, P = P1 ++ K2 := ⟨_, rfl⟩
    rw [← hP2] at hcat2 hcat3 hop
    obtain ⟨P3, hP3⟩ : ∃ P, P = P2 ++ K3 := ⟨_, rfl⟩
    rw [← hP3] at hcat3 hop
    have HOp := Lib.hid hop
    have HT : Hid ((∀ W, Calls Try.prog 48 #[.string key] W fun e w' => e = .returned (.string ⟨K1.toArray⟩) ∧ Below W.heap.size W w') ∧ (∀ W, Calls Try.prog 48 #[.string val] W fun e w' => e = .returned (.string ⟨K2.toArray⟩) ∧ Below W.heap.size W w') ∧ (∀ W, Calls Try.prog 48 #[.string old] W fun e w' => e = .returned (.string ⟨K3.toArray⟩) ∧ Below W.heap.size W w')) :=
      Lib.hid (by rw [hK1, hK2, hK3]; exact ⟨fun W => rtext_any key (by omega) W, fun W => rtext_any val (by omega) W, fun W => rtext_any old (by omega) W⟩)
    have HVr : Hid (∀ (W : World) (g : Nat) (cs : Array Value) (t : TypeId), W.heap[g]? = some (.cells cs t (0, 0)) → cs = ([kd, ss, sq].map (Value.int .i64)).toArray → Calls Try.prog 47 #[.slice (some ⟨g, 0, none⟩) 3 3] W fun e w' => e = .returned (.string ⟨V.toArray⟩) ∧ Below W.heap.size W w') :=
      Lib.hid (fun W g cs t h hc => by rw [hV]; exact rvar_row [kd, ss, sq] 3 h hc rfl (by omega) (by simp; omega))
    clear hHC k1 k2 k3 hs h1 h2 hV hK1 hK2 hK3 hts hop hP1 hP2 hP3
    go_enter Try.func12, Try.ntmps12
    go_wp2_with fail
    refine (HV.out _).mono ?_
    rintro e w1 ⟨rfl, hb1⟩
    have HV1 : Below (w.heap.size + 1) (w.alloc (.cells #[.int .i64 kd, .int .i64 ss, .int .i64 sq, .string key, .string val, .string old] 23)) w1 := hb1.mono (by simp)
    have hs1 : w.heap.size + 1 ≤ w1.heap.size := by have := HV1.size; simp at this; omega
    clear hb1
    go_wp2_with fail
    go_region_held3 (fun W => W.cell? ⟨w.heap.size, 0, none⟩ = some (.int .i64 kd) ∧ W.cell? ⟨w.heap.size, 1, none⟩ = some (.int .i64 ss) ∧ W.cell? ⟨w.heap.size, 2, none⟩ = some (.int .i64 sq) ∧ W.cell? ⟨w.heap.size, 3, none⟩ = some (.string key) ∧ W.cell? ⟨w.heap.size, 4, none⟩ = some (.string val) ∧ W.cell? ⟨w.heap.size, 5, none⟩ = some (.string old))
      ((refine HC.out _ ?_; (repeat (with_reducible (first | assumption | exact Below.refl _ _ | refine Below.drew ?_ | refine Below.alloc ?_ ?_ _))); all_goals (simp <;> omega)))
      (first
        | (go_at_call 47; ((refine (HVr.out _ _ _ _ (by (repeat (first | exact new_at _ _ _ (by simp) | refine old_at _ _ _ _ ?_ | (refine Eq.trans (Below.block (by assumption) _ ?_) ?_; first | (simp; done) | (simp; omega))))) rfl).mono ?_); rintro e5 w5 ⟨rfl, hb5⟩; have HV5 : Below (w.heap.size + 1) (w.alloc (.cells #[.int .i64 kd, .int .i64 ss, .int .i64 sq, .string key, .string val, .string old] 23)) w5 := (by (refine Below.trans ?_ (hb5.mono ?_)); (repeat (with_reducible (first | assumption | exact Below.refl _ _ | refine Below.drew ?_ | refine Below.alloc ?_ ?_ _))); all_goals (simp <;> omega)); have hs5 : w.heap.size + 1 ≤ w5.heap.size := (by have := HV5.size; simp at this; omega); have hbz5 := hb5))
        | (go_at_call 48; (first | (refine (HT.out.1 _).mono ?_) | (refine (HT.out.2.1 _).mono ?_) | (refine (HT.out.2.2 _).mono ?_)); (rintro e6 w6 ⟨rfl, hb6⟩; have HV6 : Below (w.heap.size + 1) (w.alloc (.cells #[.int .i64 kd, .int .i64 ss, .int .i64 sq, .string key, .string val, .string old] 23)) w6 := (by (refine Below.trans ?_ (hb6.mono ?_)); (repeat (with_reducible (first | assumption | exact Below.refl _ _ | refine Below.drew ?_ | refine Below.alloc ?_ ?_ _))); all_goals (simp <;> omega)); have hs6 : w.heap.size + 1 ≤ w6.heap.size := (by have := HV6.size; simp at this; omega); have hbz6 := hb6)))
    all_goals (
      go_wp2_with fail
      go_ret2
      refine ⟨by first | (rw [HOp.out]; rfl) | (simp [HOp.out]; done), ?_⟩
      first
        | exact ((Below.refl _ _).alloc (Nat.le_refl _) _).trans (HV6.mono (by omega))
        | exact ((Below.refl _ _).alloc (Nat.le_refl _) _).trans (HV5.mono (by omega)))
  · have hd : (r != 0) = true := by simpa using h0
    rw [if_neg h0]
    obtain ⟨kd, ss, sq, key, val, old⟩ := o
    unfold OpV.agg at *
    clear h0
    go_enter Try.func12, Try.ntmps12
    go_wp2_with fail
    refine (HV.out _).mono ?_
    rintro e w1 ⟨rfl, hb1⟩
    go_wp2_with fail
    go_ret2
    exact ⟨rfl, ((Below.refl _ _).alloc (Nat.le_refl _) _).trans (hb1.mono (by simp))⟩
set_option maxRecDepth 20000 in
theorem rask_bad (n : Int) (o : OpV) (hok : OpOk o) (hv : validV o ≠ 0) (w : World) :
    Calls Try.prog 20 #[.int .i64 n, o.agg] w fun e w' => e = .returned (.tuple #[.string ⟨#[]⟩, .int .i64 (validV o)]) ∧ Below w.heap.size w w' := by
  have HP := Lib.hid (fun W => rputOp_any o hok W)
  unfold PutOp at HP
  rw [if_neg hv] at HP
  obtain ⟨g, hg⟩ : ∃ g, g = validV o := ⟨_, rfl⟩
  rw [← hg] at HP hv ⊢
  have hd : (g != 0) = true := by simpa using hv
  clear hg hv hok
  obtain ⟨kd, ss, sq, key, val, old⟩ := o
  unfold OpV.agg at *
  go_enter Try.func20, Try.ntmps20
  go_wp2_with fail
  refine (HP.out _).mono ?_
  rintro e w1 ⟨rfl, hb1⟩
  go_wp2_with fail
  go_ret2
  exact ⟨rfl, ((Below.refl _ _).alloc (Nat.le_refl _) _).trans (hb1.mono (by simp))⟩
set_option maxRecDepth 20000 in
theorem rask_good (n : Int) (hn : -9223372036854775808 ≤ n ∧ n ≤ 9223372036854775807) (o : OpV) (hok : OpOk o) (hv : validV o = 0) (w : World) :
    Calls Try.prog 20 #[.int .i64 n, o.agg] w fun e w' => e = .returned (.tuple #[.string ⟨(askB n o).toArray⟩, .int .i64 0]) ∧ Below w.heap.size w w' := by
  have HP := Lib.hid (fun W => rputOp_any o hok W)
  unfold PutOp at HP
  rw [if_pos hv, hv] at HP
  have hl : (opB o).length ≤ 3000 := by
    have hs := validV_sizes hv
    have h1 := vars_len [o.kd, o.ss, o.sq]
    have h2 := textsB_len [o.key, o.val, o.old]
    unfold opB
    rw [List.length_append]
    simp at h1 h2
    omega
  have hvn : vars [n] = var1 n := by simp [vars]
  have hcat1 : ∀ W : World, (Op.stringOp .add ⟨#[113]⟩ ⟨(var1 n).toArray⟩).run Try.prog W = .ok (.string ⟨(113 :: var1 n).toArray⟩) W := fun W => by
    have h1 := var1_len n
    exact cat_run [113] _ W (by simp; omega)
  have hcat2 : ∀ W : World, (Op.stringOp .add ⟨(113 :: var1 n).toArray⟩ ⟨(opB o).toArray⟩).run Try.prog W = .ok (.string ⟨(askB n o).toArray⟩) W := fun W => by
    have h1 := var1_len n
    rw [cat_run _ _ W (by simp; omega), ← hvn]
    rfl
  obtain ⟨B, hB⟩ : ∃ B, B = opB o := ⟨_, rfl⟩
  obtain ⟨Q, hQ⟩ : ∃ Q, Q = askB n o := ⟨_, rfl⟩
  rw [← hB] at HP hcat2
  rw [← hQ] at hcat2 ⊢
  have HC1 := Lib.hid hcat1
  have HC2 := Lib.hid hcat2
  clear hB hQ hv hok hl hcat1 hcat2 hvn
  obtain ⟨kd, ss, sq, key, val, old⟩ := o
  unfold OpV.agg at *
  go_enter Try.func20, Try.ntmps20
  go_wp2_with fail
  refine (HP.out _).mono ?_
  rintro e w1 ⟨rfl, hb1⟩
  have hv1 : Below w.heap.size w w1 := ((Below.refl _ _).alloc (Nat.le_refl _) _).trans (hb1.mono (by simp))
  clear hb1 HP
  go_wp2_with fail
  refine (rvar1_any n hn.1 hn.2 w1).mono ?_
  rintro e w2 ⟨rfl, hb2⟩
  have hv2 : Below w.heap.size w w2 := hv1.trans (hb2.mono hv1.size)
  have hcat1 := HC1.out w2
  have hcat2 := HC2.out w2
  clear hv1 hb2 HC1 HC2
  go_wp2_with fail
  go_ret2
  exact ⟨rfl, hv2⟩
end Go.Proofs.Ytfogoebflfkknaa
