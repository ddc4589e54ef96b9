/- The walk of arboretumlaw29.CliTurns (printed by wip/gen_cliturns.py). -/
import Derived.Test.YtfogoebflfkknaaCliL
import Derived.Test.YtfogoebflfkknaaTellP
import Derived.Test.YtfogoebflfkknaaEntM
import Derived.Deep.QuietTactic
import Derived.BigQuiet
namespace Go.Proofs.Ytfogoebflfkknaa
open Go.RowKit
set_option linter.unusedVariables false
/-- The nodes 1 to n. -/
def nodesL (n : Nat) : List Int := (List.range n).map fun i => ((i + 1 : Nat) : Int)
theorem nodesL_len (n : Nat) : (nodesL n).length = n := by simp [nodesL]
theorem nodesL_at {n j : Nat} (h : j < n) : (nodesL n)[j]? = some ((j + 1 : Nat) : Int) := by simp [nodesL, h]
theorem nodesL_succ (n : Nat) : nodesL (n + 1) = nodesL n ++ [((n + 1 : Nat) : Int)] := by simp [nodesL, List.range_succ]
theorem nodesL_in {n : Nat} {l : Int} (h1 : 1 ≤ l) (h2 : l ≤ n) : idxI (nodesL n) l = ((l - 1).toNat : Int) := by
  refine idxI_at _ ?_ ?_
  · rw [nodesL_at (by omega)]; congr 1; omega
  · intro j y hj hy
    rw [nodesL_at (by omega)] at hy
    injection hy with hy
    omega
theorem nodesL_out {n : Nat} {l : Int} (h : l < 1 ∨ (n : Int) < l) : idxI (nodesL n) l = -1 := by
  refine idxI_none ?_
  intro y hy
  obtain ⟨i, hi, rfl⟩ := List.mem_map.1 hy
  have := List.mem_range.1 hi
  omega
def leadR : RepV := ⟨21, 0, ⟨#[]⟩⟩
theorem leadR_ok : RepOk leadR := by
  refine ⟨by decide, by decide, ?_⟩
  show (0 : Nat) ≤ _
  omega

/-- What stands at the head of the i-th round of questions. -/
def TR (W0 W : World) (b gn ch cap n K i : Nat) (D : ByteArray) (fs at_ : Value) : Prop :=
  i ≤ K + 1 ∧ ((i = 0 ∧ Cli W0 W W0.heap.size b gn ch cap (askedV (newV 101 (nodesL n)) 4 ⟨#[107]⟩ ⟨#[]⟩ ⟨#[]⟩) [] ∧ fs = .string ⟨#[]⟩ ∧ at_ = .int .i64 0) ∨
    (0 < i ∧ Cli W0 W W0.heap.size b gn ch cap (gV 101 (nodesL n) (getO ⟨#[107]⟩) ((i - 1) % n) (if i = K + 1 then 20 else 1) false) [] ∧ fs = .string D ∧ at_ = .int .i64 ((1 + (i - 1) % n : Nat) : Int)))
set_option maxRecDepth 20000 in
set_option maxHeartbeats 8000000 in
theorem turns_alive (a k l : Int) (w : World) (h : a < 1 ∨ 9 < a ∨ k < 0 ∨ 20 < k) : Calls Try.prog 5 #[.int .i64 a, .int .i64 k, .int .i64 l] w fun e w' => e = .returned (.bool true) ∧ Below w.heap.size w w' := by
  by_cases g0 : a < 1
  · clear h
    have d0 : decide (a < 1) = true := by simp; omega
    clear g0
    go_enter Try.func5, Try.ntmps5
    go_wp2_with fail
    refine (aliveCl_any _).mono ?_
    rintro e w1 ⟨rfl, hb⟩
    have HB1 := Lib.hid hb
    clear hb
    go_wp2_with fail
    go_ret
    exact ⟨rfl, HB1.out⟩
  by_cases g1 : 9 < a
  · clear h
    have d0 : decide (a < 1) = false := by simp; omega
    have d1 : decide (9 < a) = true := by simp; omega
    clear g0 g1
    go_enter Try.func5, Try.ntmps5
    go_wp2_with fail
    refine (aliveCl_any _).mono ?_
    rintro e w1 ⟨rfl, hb⟩
    have HB1 := Lib.hid hb
    clear hb
    go_wp2_with fail
    go_ret
    exact ⟨rfl, HB1.out⟩
  by_cases g2 : k < 0
  · clear h
    have d0 : decide (a < 1) = false := by simp; omega
    have d1 : decide (9 < a) = false := by simp; omega
    have d2 : decide (k < 0) = true := by simp; omega
    clear g0 g1 g2
    go_enter Try.func5, Try.ntmps5
    go_wp2_with fail
    refine (aliveCl_any _).mono ?_
    rintro e w1 ⟨rfl, hb⟩
    have HB1 := Lib.hid hb
    clear hb
    go_wp2_with fail
    go_ret
    exact ⟨rfl, HB1.out⟩
  by_cases g3 : 20 < k
  · clear h
    have d0 : decide (a < 1) = false := by simp; omega
    have d1 : decide (9 < a) = false := by simp; omega
    have d2 : decide (k < 0) = false := by simp; omega
    have d3 : decide (20 < k) = true := by simp; omega
    clear g0 g1 g2 g3
    go_enter Try.func5, Try.ntmps5
    go_wp2_with fail
    refine (aliveCl_any _).mono ?_
    rintro e w1 ⟨rfl, hb⟩
    have HB1 := Lib.hid hb
    clear hb
    go_wp2_with fail
    go_ret
    exact ⟨rfl, HB1.out⟩
  exfalso; omega
set_option maxRecDepth 20000 in
set_option maxHeartbeats 8000000 in
theorem turns_main (n K : Nat) (l : Int) (w : World) (h1 : 1 ≤ n) (h9 : n ≤ 9) (hK : K ≤ 20) (hl : -9223372036854775808 ≤ l ∧ l ≤ 9223372036854775807) : Calls Try.prog 5 #[.int .i64 n, .int .i64 K, .int .i64 l] w fun e w' => e = .returned (.bool true) ∧ Below w.heap.size w w' := by
  obtain ⟨i0, hi, hz0, hz1, hz2⟩ := info_parts intinfo
  have HI := Lib.hid (And.intro hi (And.intro hz0 (And.intro hz1 hz2)))
  clear hi hz0 hz1 hz2
  have HN := Lib.hid (And.intro h1 h9)
  have HT := Lib.hid (fun W => rtell_any 1 l leadR (by omega) hl leadR_ok W)
  have HO := Lib.hid (fun W => told_of (n := 1) (l := l) (r := leadR) (by omega) hl leadR_ok (by show (0 : Nat) ≤ 2000; omega) W)
  obtain ⟨DT, hDT⟩ : ∃ D, D = (⟨(tellB 1 l leadR).toArray⟩ : ByteArray) := ⟨_, rfl⟩
  rw [← hDT] at HT HO
  unfold leadR RepV.agg at HT
  dsimp only at HT
  obtain ⟨D, hD⟩ : ∃ D, D = (⟨(askB 1 (getO ⟨#[107]⟩)).toArray⟩ : ByteArray) := ⟨_, rfl⟩
  have HD := Lib.hid hD
  have d0 : decide ((n : Int) < 1) = false := by simp; omega
  have d1 : decide (9 < (n : Int)) = false := by simp; omega
  have d2 : decide ((K : Int) < 0) = false := by simp
  have d3 : decide (20 < (K : Int)) = false := by simp; omega
  clear hDT hD hl
  go_enter Try.func5, Try.ntmps5
  go_wp2_with fail
  go_loopw [7, 8] (fun s i wr => ∃ (k : Nat) (ao : Option Addr) (c : Nat), k ≤ n ∧ i = .int .i64 ((k : Int) + 1) ∧ s = .slice ao k c ∧ Hid (wr.ownsRow w.heap.size 3 1 (.slice ao k c) k ((nodesL k).map (Value.int .i64))) ∧ Hid (Below w.heap.size w wr)) (fun _ i _ => n + 1 - (intOf i).toNat)
  case atStart => exact ⟨0, none, 0, Nat.zero_le _, rfl, rfl, Lib.hid (World.ownsRow_nil _ _ _ _), Lib.hid (Below.refl _ _)⟩
  case round =>
    obtain ⟨k, ao, c, hk, rfl, rfl, HOw, HBw⟩ := hrel
    by_cases hlt : k < n
    · have e1 : decide ((k : Int) + 1 ≤ (n : Int)) = true := by simp; omega
      have hsz := HBw.out.size
      have HI' := HI
      obtain ⟨hi, hz0, hz1, hz2⟩ := HI'.out
      have hx : (k : Int) + 1 ≤ 9 := by omega
      have hx0 : (0 : Int) ≤ k := by omega
      clear d0 d1 d2 d3
      go_wp2_with (at_builtin; refine wpList_append_new rfl (.tmp 39) (.tmp 41) 46 rfl w.heap.size 3 i0 (.int .i64 0) 1 8 Try.underlying46 hi hz0 hz1 hz2 rfl (by omega) _ k ((nodesL k).map (Value.int .i64)) rfl HOw.out hsz [.int .i64 ((k : Int) + 1)] 1 rfl rfl rfl (by simp [Value.oneCell']) (by omega) (by omega) ?_; intro v1 w4 hown4 hg4 hb4 hs4 hat4; have HO4 := Lib.hid hown4; have HB4 := Lib.hid (hb4 _ HBw.out); obtain ⟨g4, cap4, hv4, _⟩ := hat4; subst hv4; clear hown4 hg4 hb4)
      go_roundw
      case rel => exact ⟨k + 1, some ⟨g4, 0, none⟩, cap4, by omega, by go_num, rfl, Lib.hid (by rw [nodesL_succ, List.map_append]; exact HO4.out), HB4⟩
      case measure => simp [intOf]; omega
    · obtain rfl : k = n := by omega
      rename World => W0
      clear hk hlt
      have hn1 := HN.out.1
      have HBW := HBw
      obtain ⟨g, hao, hgl⟩ : ∃ g, ao = some ⟨g, 0, none⟩ ∧ g < W0.heap.size := by
        obtain ⟨ao', cap', hv, -, h0, hs⟩ := own_shape HOw.out
        injection hv with hv hv2 hv3
        subst hv
        cases ao with
        | none => have := (h0 rfl).1; omega
        | some a => obtain ⟨g, h1, _, h3⟩ := hs a rfl; exact ⟨g, by rw [h1], h3⟩
      subst hao
      have hcl : ∀ j x, (nodesL k)[j]? = some x → W0.cell? ((⟨g, 0, none⟩ : Addr).add j) = some (.int .i64 x) := fun j x hj => HOw.out.cells (g := g) rfl j (.int .i64 x) (by rw [List.getElem?_map, hj]; rfl)
      have HNw := Lib.hid (new_any ⟨g, 0, none⟩ k c (nodesL k) W0 (nodesL_len k) (by omega) (by omega) hgl hcl 101 (by omega))
      have e1 : decide ((k : Int) + 1 ≤ (k : Int)) = false := by simp; omega
      clear hcl hgl HOw hn1
      go_wp2_with fail
      refine HNw.out.mono ?_
      rintro e w1 ⟨b, gn, ch, cap, rfl, c1⟩
      have HA := Lib.hid (gask (key := ⟨#[107]⟩) c1 (by decide) (by decide))
      clear c1 HNw e1 HI
      go_wp2_with fail
      refine HA.out.mono ?_
      rintro e w2 ⟨rfl, c2, -⟩
      have HR0 : Hid (TR W0 w2 b gn ch cap k K 0 D (.string ⟨#[]⟩) (.int .i64 0)) := Lib.hid ⟨by omega, .inl ⟨rfl, c2, rfl, rfl⟩⟩
      clear c2 HA
      go_wp2_with fail
      go_loopw [11, 12, 13] (fun fs at_ i ws => ∃ j : Nat, i = .int .i64 j ∧ Hid (TR W0 ws b gn ch cap k K j D fs at_)) (fun _ _ i _ => K + 1 - (intOf i).toNat)
      case atStart => exact ⟨0, rfl, HR0⟩
      case round =>
        clear HR0
        obtain ⟨j, rfl, HR⟩ := hrel
        by_cases hlt : j ≤ K
        · have e1 : decide (j ≤ K) = true := by simp; omega
          have hjk : j % k < k := Nat.mod_lt _ HN.out.1
          have hs : Calls Try.prog 38 #[.pointer (some ⟨b, 0, none⟩)] wr (Sent W0 wr W0.heap.size b gn ch cap (gV 101 (nodesL k) (getO ⟨#[107]⟩) (j % k) 20 false) [] ((j % k + 1 : Nat) : Int) D) := by
            obtain ⟨-, ⟨rfl, hc, -, -⟩ | ⟨h0, hc, -, -⟩⟩ := HR.out
            · have := gtick1 hc (by decide) (by decide) (((0 : Nat) % k + 1 : Nat) : Int) (by rw [Nat.zero_mod]; exact nodesL_at HN.out.1)
              rw [HD.out]
              rw [Nat.zero_mod] at this ⊢
              exact this
            · rw [if_neg (by omega)] at hc
              have e2 : ((j - 1) % k + 1) % (nodesL k).length = j % k := by
                rw [nodesL_len, Nat.mod_add_mod]
                congr 1
                omega
              have := gagain hc (by omega) (by omega) (by decide) (by decide) ((j % k + 1 : Nat) : Int) (by rw [e2]; exact nodesL_at hjk)
              rw [e2] at this
              rw [HD.out]
              exact this
          have HS := Lib.hid hs
          have hjfs : (j = 0 ∧ u11 = .string ⟨#[]⟩) ∨ (0 < j ∧ u11 = .string D) := by
            obtain ⟨-, ⟨h0, -, h1, -⟩ | ⟨h0, -, h1, -⟩⟩ := HR.out
            · exact .inl ⟨h0, h1⟩
            · exact .inr ⟨h0, h1⟩
          have hm : ((j : Int) % (k : Int)) = ((j % k : Nat) : Int) := by simp
          have HJ := Lib.hid (And.intro hlt hjk)
          have hm9 : ((j % k : Nat) : Int) ≤ 9 := by have := HN.out; omega
          have hm0 : (0 : Int) ≤ ((j % k : Nat) : Int) := by omega
          obtain ⟨jm, hjm⟩ : ∃ jm : Nat, jm = j % k := ⟨_, rfl⟩
          rw [← hjm] at HS hm HJ hm9 hm0
          have HJM := Lib.hid hjm
          have hk1 := HN.out.1
          have hj2 : (j : Int) ≤ 20 := by omega
          have hj0 : (0 : Int) ≤ j := by omega
          clear hs hjk hlt hjm
          have hw1 : IntKind.i64.wrap (1 + (jm : Int)) = 1 + (jm : Int) := IntWalk.i64_in _ (by omega)
          have hmt : (j : Int).tmod (k : Int) = (jm : Int) := by rw [Int.tmod_eq_emod_of_nonneg hj0]; exact hm
          have hw2 : IntKind.i64.wrap (jm : Int) = (jm : Int) := IntWalk.i64_in _ (by omega)
          have hw3 : wrap64 (1 + (jm : Int)) = 1 + (jm : Int) := IntWalk.wrap64_in _ (by omega)
          go_wp2_with fail
          refine HS.out.mono ?_
          rintro e w3 ⟨g3, rfl, c3, p3, -, -⟩
          have HC3 := Lib.hid c3
          obtain ⟨-, y1, y2⟩ := p3.facts
          rw [show ((jm + 1 : Nat) : Int) = 1 + (jm : Int) by omega] at y1
          have hk2 : (0 : Int) < k := by omega
          clear c3 p3 HS HR e1
          have hdj : (j = 0 ∧ u11 = .string ⟨#[]⟩ ∧ decide (0 < j) = false) ∨ (0 < j ∧ u11 = .string D ∧ decide (0 < j) = true) := by
            rcases hjfs with ⟨h, h'⟩ | ⟨h, h'⟩
            · exact .inl ⟨h, h', by simp; omega⟩
            · exact .inr ⟨h, h', by simp; omega⟩
          clear hjfs
          have HJ2 := Lib.hid (And.intro hj2 hj0)
          rcases hdj with ⟨hj, rfl, e3⟩ | ⟨hj, rfl, e3⟩
          all_goals
            have HJ3 := Lib.hid hj
            clear hj hmt hw2
            go_wp2_with fail
            refine wp_region_quiet_lit (by kernel_rfl) (by kernel_rfl) ?_
            repeat (any_goals (first | go_big_quiet_step (fail) | quiet_step (fail)))
            refine wpQuiet_nil ?_
            intro wq hw'
            obtain ⟨nq, hw''⟩ := hw'
            subst hw''
            have z1 : (w3.drewN nq).cell? ⟨g3, 1, none⟩ = some (.int .i64 (1 + (jm : Int))) := y1
            have z2 : (w3.drewN nq).cell? ⟨g3, 2, none⟩ = some (.string D) := y2
            have HC4 := Lib.hid (HC3.out.step (below_drewN (Below.refl _ _) nq))
            generalize w3.drewN nq = W4 at z1 z2 HC4 ⊢
            clear y1 y2 HC3 e3 hm hw1 hw3
            go_wp2_with fail
            go_quiet (fail)
            rename Nat => nq2
            have HC5 := Lib.hid (HC4.out.step (below_drewN (Below.refl _ _) nq2))
            generalize W4.drewN nq2 = W5 at HC5 ⊢
            clear z1 z2 HC4
            go_wp2_with fail
            go_loopw [15] (fun q ws => ∃ m : Nat, 1 ≤ m ∧ m ≤ 20 ∧ q = .int .i64 m ∧ Hid (j = K → m = 1) ∧ Hid (Cli W0 ws W0.heap.size b gn ch cap (gV 101 (nodesL k) (getO ⟨#[107]⟩) jm (21 - (m : Int)) false) [])) (fun q _ => 20 - (intOf q).toNat)
            case atStart => exact ⟨1, by omega, by omega, rfl, Lib.hid (fun _ => rfl), HC5⟩
            case round =>
              obtain ⟨m, hm1, hm2, rfl, HMK, HCm⟩ := hrel
              clear HC5
              by_cases hin : m < 20 ∧ j < K
              · obtain ⟨hma, hmb⟩ := hin
                have q1 : decide ((m : Int) < 20) = true := by simp; omega
                have q2 : decide (j < K) = true := by simp; omega
                have HW := Lib.hid (gwait HCm.out (by omega) (by omega))
                go_wp2_with fail
                refine HW.out.mono ?_
                rintro e w6 ⟨rfl, c6, -⟩
                rw [show (21 - (m : Int)) - 1 = 21 - ((m + 1 : Nat) : Int) by omega] at c6
                have HC6 := Lib.hid c6
                clear c6 HW HCm q1 q2
                go_wp2_with fail
                go_roundw
                case rel => exact ⟨m + 1, by omega, by omega, by go_num, Lib.hid (fun h => by omega), HC6⟩
                case measure => simp [intOf]; omega
              · have hjK := HJ.out.1
                have hex : (m = 20 ∧ j < K) ∨ (j = K ∧ m = 1) := by
                  by_cases h : j < K
                  · exact .inl ⟨by omega, h⟩
                  · exact .inr ⟨by omega, HMK.out (by omega)⟩
                have HEx := Lib.hid hex
                have hT : TR W0 wr b gn ch cap k K (j + 1) D (.string D) (.int .i64 (1 + (jm : Int))) := by
                  refine ⟨by omega, .inr ⟨by omega, ?_, rfl, ?_⟩⟩
                  · have hc := HCm.out
                    rw [show j + 1 - 1 = j from rfl, ← HJM.out]
                    rcases hex with ⟨h, h'⟩ | ⟨h, h'⟩
                    · rw [if_neg (by omega)]
                      rw [h] at hc
                      exact hc
                    · rw [if_pos (by omega)]
                      rw [h'] at hc
                      exact hc
                  · rw [show j + 1 - 1 = j from rfl, ← HJM.out]; rfl
                have HT9 := Lib.hid hT
                clear hin hex hT HCm HMK
                have hdd : (decide ((m : Int) < 20) = false) ∨ (decide ((m : Int) < 20) = true ∧ decide (j < K) = false) := by
                  rcases HEx.out with ⟨h, h'⟩ | ⟨h, h'⟩
                  · exact .inl (by simp; omega)
                  · exact .inr ⟨by simp; omega, by simp; omega⟩
                rcases hdd with q1 | ⟨q1, q2⟩
                all_goals
                  clear hm1 hm2 hjK
                  go_wp2_with fail
                  go_roundw
                  case rel => exact ⟨j + 1, by go_num, HT9⟩
                  case measure => have := HJ.out.1; simp [intOf]; omega
        · have hjK : j = K + 1 := by have := HR.out.1; omega
          subst hjK
          obtain ⟨jm, hjm⟩ : ∃ jm : Nat, jm = K % k := ⟨_, rfl⟩
          have hlt9 : jm < k := by rw [hjm]; exact Nat.mod_lt _ HN.out.1
          have hx : Cli W0 wr W0.heap.size b gn ch cap (gV 101 (nodesL k) (getO ⟨#[107]⟩) jm 20 false) [] ∧ u11 = .string D ∧ u12 = .int .i64 (1 + (jm : Int)) := by
            obtain ⟨-, ⟨h0, -⟩ | ⟨-, hc, h1, h2⟩⟩ := HR.out
            · omega
            · rw [if_pos rfl] at hc
              rw [show K + 1 - 1 = K from rfl, ← hjm] at hc h2
              exact ⟨hc, h1, h2⟩
          obtain ⟨hc, rfl, rfl⟩ := hx
          have HC := Lib.hid hc
          have e1 : decide (K + 1 ≤ K) = false := by simp
          have e2 : decide ((K : Int) + 1 ≤ (K : Int)) = false := by simp; omega
          obtain ⟨c', hc', hwant, hs⟩ : ∃ c' : Nat, c' < k ∧ ((1 ≤ l ∧ l ≤ k ∧ ((c' + 1 : Nat) : Int) = l) ∨ ((l < 1 ∨ (k : Int) < l) ∧ ((c' + 1 : Nat) : Int) = (1 + (jm : Int)) % (k : Int) + 1)) ∧
              ∀ Wx, Cli W0 Wx W0.heap.size b gn ch cap (gV 101 (nodesL k) (getO ⟨#[107]⟩) jm 20 false) [] → Calls Try.prog 39 #[.pointer (some ⟨b, 0, none⟩), .agg #[.int .i64 (1 + (jm : Int)), .int .i64 101, .string DT]] Wx (fun e w' => e = .returned (.slice none 0 0) ∧ Cli W0 w' W0.heap.size b gn ch cap (gV 101 (nodesL k) (getO ⟨#[107]⟩) c' 4 true) [] ∧ FarC Wx w' b ch) := by
            by_cases hin : 1 ≤ l ∧ l ≤ k
            · refine ⟨(l - 1).toNat, by omega, .inl ⟨hin.1, hin.2, by omega⟩, fun Wx hC => ?_⟩
              exact take_lead_in hC rfl (1 + (jm : Int)) DT l leadR HO.out rfl (l - 1).toNat (nodesL_in hin.1 hin.2)
            · have e9 : (1 + (jm : Int)) % (k : Int) = (((jm + 1) % k : Nat) : Int) := by rw [Int.add_comm]; simp
              refine ⟨(jm + 1) % k, Nat.mod_lt _ HN.out.1, .inr ⟨by omega, by rw [e9]; simp⟩, fun Wx hC => ?_⟩
              have := take_lead_out hC rfl (1 + (jm : Int)) DT l leadR HO.out rfl (nodesL_out (by omega))
              rw [show (gV 101 (nodesL k) (getO ⟨#[107]⟩) jm 20 false).nodes.length = k from nodesL_len k] at this
              exact this
          have HTk := Lib.hid hs
          have HWn := Lib.hid hwant
          have HC9 := Lib.hid hc'
          have HBr := Lib.hid (And.intro hlt9 (And.intro h1 h9))
          clear hs hwant hc' hc hlt HR hlt9 HO hjm
          go_wp2_with fail
          refine (HT.out _).mono ?_
          rintro e w3 ⟨rfl, hb3⟩
          have HS := Lib.hid (HTk.out w3 (HC.out.step hb3))
          clear hb3 HC HTk HT e1 e2
          go_wp2_with fail
          refine HS.out.mono ?_
          rintro e w4 ⟨rfl, c4, -⟩
          have HC4 := Lib.hid c4
          clear c4 HS
          go_wp2_with fail
          go_loopw [16] (fun q ws => ∃ m : Nat, 1 ≤ m ∧ m ≤ 4 ∧ q = .int .i64 m ∧ Hid (Cli W0 ws W0.heap.size b gn ch cap (gV 101 (nodesL k) (getO ⟨#[107]⟩) c' (5 - (m : Int)) true) [])) (fun q _ => 4 - (intOf q).toNat)
          case atStart => exact ⟨1, by omega, by omega, rfl, HC4⟩
          case round =>
            obtain ⟨m, hm1, hm2, rfl, HCm⟩ := hrel
            clear HC4
            by_cases hma : m < 4
            · have HW := Lib.hid (gwait HCm.out (by omega) (by omega))
              go_wp2_with fail
              refine HW.out.mono ?_
              rintro e w6 ⟨rfl, c6, -⟩
              rw [show (5 - (m : Int)) - 1 = 5 - ((m + 1 : Nat) : Int) by omega] at c6
              have HC6 := Lib.hid c6
              clear c6 HW HCm
              go_wp2_with fail
              go_roundw
              case rel => exact ⟨m + 1, by omega, by omega, by go_num, HC6⟩
              case measure => simp [intOf]; omega
            · obtain rfl : m = 4 := by omega
              have HS := Lib.hid (gstay HCm.out (by omega) (by omega) (by decide) (by decide) ((c' + 1 : Nat) : Int) (nodesL_at HC9.out))
              rw [← HD.out] at HS
              clear hma hm1 hm2
              have hww : (l < 1 ∧ ((c' + 1 : Nat) : Int) = (1 + (jm : Int)) % (k : Int) + 1) ∨ (¬ l < 1 ∧ (k : Int) < l ∧ ((c' + 1 : Nat) : Int) = (1 + (jm : Int)) % (k : Int) + 1) ∨ (¬ l < 1 ∧ ¬ (k : Int) < l ∧ ((c' + 1 : Nat) : Int) = l) := by
                rcases HWn.out with ⟨h, h', h''⟩ | ⟨h, h'⟩
                · exact .inr (.inr ⟨by omega, by omega, h''⟩)
                · by_cases hh : l < 1
                  · exact .inl ⟨hh, h'⟩
                  · exact .inr (.inl ⟨hh, by omega, h'⟩)
              have hb1 := HBr.out.1
              have hb2 := HBr.out.2.1
              have hb3 := HBr.out.2.2
              rcases hww with ⟨r1, r3⟩ | ⟨r1, r2, r3⟩ | ⟨r1, r2, r3⟩
              all_goals
                rw [r3] at HS
                clear r3
              · have s1 : decide (l < 1) = true := by simpa using r1
                go_wp2_with fail
                refine HS.out.mono ?_
                rintro e w7 ⟨g7, rfl, c7, p7, -, -⟩
                have HX7 := Lib.hid (And.intro c7 p7)
                clear c7 p7 HS HCm
                go_wp2_with fail
                refine (aliveCl_any _).mono ?_
                rintro e w8 ⟨rfl, hb8⟩
                obtain ⟨-, y1, y2⟩ := (HX7.out.2.below hb8).facts
                have HX8 := Lib.hid (HX7.out.1.step hb8)
                have hwr : wrap64 ((1 + (jm : Int)) % (k : Int) + 1) = (1 + (jm : Int)) % (k : Int) + 1 := by
                  have h1 := Int.emod_nonneg (1 + (jm : Int)) (show (k : Int) ≠ 0 by omega)
                  have h2 := Int.emod_lt_of_pos (1 + (jm : Int)) (show (0 : Int) < (k : Int) by omega)
                  exact IntWalk.wrap64_in _ (by omega)
                rw [hwr]
                clear hwr
                generalize (1 + (jm : Int)) % (k : Int) + 1 = zw at y1 ⊢
                have HBz := Lib.hid (gbusy HX8.out)
                clear hb8 HX7
                go_wp2_with fail
                refine HBz.out.mono ?_
                rintro e w9 ⟨rfl, rfl⟩
                go_wp2_with fail
                go_ret
                exact ⟨rfl, HBW.out.trans (HX8.out.below.mono HBW.out.size)⟩
              · have s1 : decide (l < 1) = false := by simpa using r1
                have s2 : decide ((k : Int) < l) = true := by simpa using r2
                go_wp2_with fail
                refine HS.out.mono ?_
                rintro e w7 ⟨g7, rfl, c7, p7, -, -⟩
                have HX7 := Lib.hid (And.intro c7 p7)
                clear c7 p7 HS HCm
                go_wp2_with fail
                refine (aliveCl_any _).mono ?_
                rintro e w8 ⟨rfl, hb8⟩
                obtain ⟨-, y1, y2⟩ := (HX7.out.2.below hb8).facts
                have HX8 := Lib.hid (HX7.out.1.step hb8)
                have hwr : wrap64 ((1 + (jm : Int)) % (k : Int) + 1) = (1 + (jm : Int)) % (k : Int) + 1 := by
                  have h1 := Int.emod_nonneg (1 + (jm : Int)) (show (k : Int) ≠ 0 by omega)
                  have h2 := Int.emod_lt_of_pos (1 + (jm : Int)) (show (0 : Int) < (k : Int) by omega)
                  exact IntWalk.wrap64_in _ (by omega)
                rw [hwr]
                clear hwr
                generalize (1 + (jm : Int)) % (k : Int) + 1 = zw at y1 ⊢
                have HBz := Lib.hid (gbusy HX8.out)
                clear hb8 HX7
                go_wp2_with fail
                refine HBz.out.mono ?_
                rintro e w9 ⟨rfl, rfl⟩
                go_wp2_with fail
                go_ret
                exact ⟨rfl, HBW.out.trans (HX8.out.below.mono HBW.out.size)⟩
              · have s1 : decide (l < 1) = false := by simpa using r1
                have s2 : decide ((k : Int) < l) = false := by simpa using r2
                go_wp2_with fail
                refine HS.out.mono ?_
                rintro e w7 ⟨g7, rfl, c7, p7, -, -⟩
                have HX7 := Lib.hid (And.intro c7 p7)
                clear c7 p7 HS HCm
                go_wp2_with fail
                refine (aliveCl_any _).mono ?_
                rintro e w8 ⟨rfl, hb8⟩
                obtain ⟨-, y1, y2⟩ := (HX7.out.2.below hb8).facts
                have HX8 := Lib.hid (HX7.out.1.step hb8)
                have HBz := Lib.hid (gbusy HX8.out)
                clear hb8 HX7
                go_wp2_with fail
                refine HBz.out.mono ?_
                rintro e w9 ⟨rfl, rfl⟩
                go_wp2_with fail
                go_ret
                exact ⟨rfl, HBW.out.trans (HX8.out.below.mono HBW.out.size)⟩

theorem walk_CliTurns (a : Int) (ha : (Lit.int .i64 a).wf = true) (k : Int) (hk : (Lit.int .i64 k).wf = true) (l : Int) (hl : (Lit.int .i64 l).wf = true) (w : World) : Calls Try.prog 5 #[.int .i64 a, .int .i64 k, .int .i64 l] w fun e w' => e = .returned (.bool true) ∧ Below w.heap.size w w' := by
  have hl' : -9223372036854775808 ≤ l ∧ l ≤ 9223372036854775807 := by simpa [Lit.wf, IntKind.min, IntKind.max, IntKind.bits, IntKind.signed] using hl
  by_cases h : a < 1 ∨ 9 < a ∨ k < 0 ∨ 20 < k
  · exact turns_alive a k l w h
  · obtain ⟨n, rfl⟩ : ∃ n : Nat, a = n := ⟨a.toNat, by omega⟩
    obtain ⟨K, rfl⟩ : ∃ n : Nat, k = n := ⟨k.toNat, by omega⟩
    exact turns_main n K l w (by omega) (by omega) (by omega) hl'
end Go.Proofs.Ytfogoebflfkknaa
