/- A client that is asked one put after the other, whatever it is told: what holds of it, call by call. -/
import Derived.Test.YtfogoebflfkknaaCliL
import Derived.Test.YtfogoebflfkknaaTellP
namespace Go.Proofs.Ytfogoebflfkknaa
open Go.RowKit
set_option linter.unusedVariables false
def PutO (ss sq : Int) : OpV := ⟨1, ss, sq, ⟨#[107]⟩, ⟨#[118]⟩, ⟨#[]⟩⟩
def RegO : OpV := ⟨5, 0, 101, ⟨#[]⟩, ⟨#[]⟩, ⟨#[]⟩⟩
theorem RegO_ok : OpOk RegO ∧ validV RegO = 0 := by
  refine ⟨?_, by decide +kernel⟩
  unfold OpOk RegO
  decide
theorem PutO_ok {a c : Int} (ha : 1 ≤ a ∧ a ≤ 9223372036854775807) (hc : 1 ≤ c ∧ c ≤ 9223372036854775807) : OpOk (PutO a c) ∧ validV (PutO a c) = 0 := by
  refine ⟨⟨by show -9223372036854775808 ≤ (1 : Int) ∧ (1 : Int) ≤ 9223372036854775807; omega, by show -9223372036854775808 ≤ a ∧ a ≤ 9223372036854775807; omega, by show -9223372036854775808 ≤ c ∧ c ≤ 9223372036854775807; omega, ?_, ?_, ?_⟩, ?_⟩
  · show (1 : Nat) ≤ _; omega
  · show (1 : Nat) ≤ _; omega
  · show (0 : Nat) ≤ _; omega
  · have h1 : decide (1 ≤ a) = true := by simp; omega
    have h2 : decide (1 ≤ c) = true := by simp; omega
    have hr : rightV (PutO a c) = true := by
      show (emp ⟨#[]⟩ && (decide (1 ≤ a) && (decide (1 ≤ c) && keyB ⟨#[107]⟩))) = true
      rw [h1, h2, emp_nil']
      decide +kernel
    unfold validV
    rw [if_pos hr, if_neg (by show ¬ (900 < 1 ∨ 900 < 0); omega)]
theorem RegO_ne {a c : Int} (h : RegO = PutO a c) : False := by
  have : (5 : Int) = 1 := congrArg OpV.kd h
  omega
/-- What holds of the client in the i-th round, behind t ticks; se and sq are what its last put went with. -/
structure CI (v : CliV) (se sq : Int) (i t nb : Nat) : Prop where
  id : v.id = 101
  nodes : v.nodes = [1, 2, 3]
  num : v.num ≤ 40 * i + t
  number : v.number ≤ nb
  vs : v.ss = 0 ∨ (1 ≤ v.ss ∧ v.ss ≤ 9223372036854775807)
  vq : 0 ≤ v.sq ∧ v.sq ≤ i
  wait : 0 ≤ v.wait ∧ v.wait ≤ 20
  op : v.asked = true → v.op = PutO 0 0
  opn : v.opn = true → v.asked = true ∧ (v.qu = RegO ∨ (v.qu = PutO v.ss (v.sq + 1) ∧ 1 ≤ v.ss))
  se : v.asked = true → se = 0 ∨ (v.opn = true ∧ v.qu = PutO se sq)
theorem node3 {v : CliV} (hn : v.nodes = [1, 2, 3]) (hc : v.cur < v.nodes.length) : ∃ n : Int, v.nodes[v.cur]? = some n ∧ 1 ≤ n ∧ n ≤ 3 := by
  rw [hn] at hc ⊢
  have : v.cur = 0 ∨ v.cur = 1 ∨ v.cur = 2 := by simp at hc; omega
  rcases this with h | h | h <;> rw [h]
  · exact ⟨1, rfl, by omega, by omega⟩
  · exact ⟨2, rfl, by omega, by omega⟩
  · exact ⟨3, rfl, by omega, by omega⟩
section
variable {w0 W : World} {B b gn ch cap : Nat} {v : CliV} {se sq : Int} {i t nb : Nat}
/-- What a tick gives: nothing, or one packet. -/
def TickOut (w0 W : World) (B b gn ch cap : Nat) (v : CliV) (se sq : Int) (i t nb : Nat) (e : Ending) (w' : World) : Prop :=
  ∃ v', Cli w0 w' B b gn ch cap v' [] ∧ FarC W w' b ch ∧ v'.asked = true ∧ v'.opn = true ∧ v'.number = v.number ∧
    ((e = .returned (.slice none 0 0) ∧ v'.num = v.num ∧ CI v' se sq i (t + 1) nb) ∨
     (∃ g n, e = .returned (.slice (some ⟨g, 0, none⟩) 1 1) ∧ OnePk w' g 101 n ⟨(askB v'.num v'.qu).toArray⟩ ∧ 1 ≤ n ∧ n ≤ 3 ∧ (v'.num = v.num ∨ v'.num = v.num + 1) ∧ v'.num ≤ 1000000 ∧ OpOk v'.qu ∧ validV v'.qu = 0 ∧
       ((v'.qu = RegO ∧ CI v' se sq i (t + 1) nb) ∨ (∃ a c, v'.qu = PutO a c ∧ (se = 0 ∨ (se = a ∧ sq = c)) ∧ CI v' a c i (t + 1) nb))))
theorem askQ_once (hI : CI v se sq i t nb) (ha : v.asked = true) : (v.ss = 0 ∧ askQ v = RegO) ∨ (1 ≤ v.ss ∧ askQ v = PutO v.ss (v.sq + 1)) := by
  have hop := hI.op ha
  unfold askQ
  rw [hop, if_neg (by decide)]
  rcases hI.vs with h | h
  · rw [if_pos h, hI.id]; exact .inl ⟨h, rfl⟩
  · rw [if_neg (by omega)]; exact .inr ⟨h.1, rfl⟩
theorem qu_ok {q : OpV} (hI : CI v se sq i t nb) (hi : i ≤ 200) (h : q = RegO ∨ (q = PutO v.ss (v.sq + 1) ∧ 1 ≤ v.ss)) : OpOk q ∧ validV q = 0 := by
  rcases h with h | ⟨h, h'⟩
  · rw [h]; exact RegO_ok
  · rw [h]
    have h1 := hI.vs
    have h2 := hI.vq
    exact PutO_ok (by omega) (by omega)
theorem tick_once (h : Cli w0 W B b gn ch cap v []) (hI : CI v se sq i t nb) (ha : v.asked = true) (hi : i ≤ 200) (ht : t ≤ 40) :
    Calls Try.prog 38 #[.pointer (some ⟨b, 0, none⟩)] W (TickOut w0 W B b gn ch cap v se sq i t nb) := by
  have hnum := hI.num
  have hvq := hI.vq
  by_cases ho : v.opn = true
  · by_cases hw : 1 < v.wait
    · refine (tick_wait h ha ho ⟨hw, by have := hI.wait; omega⟩).mono ?_
      rintro e w' ⟨rfl, hc, hf⟩
      refine ⟨_, hc, hf, ha, ho, rfl, .inl ⟨rfl, rfl, ⟨hI.id, hI.nodes, by show v.num ≤ _; omega, hI.number, hI.vs, hI.vq, ?_, hI.op, hI.opn, hI.se⟩⟩⟩
      have := hI.wait
      show 0 ≤ v.wait - 1 ∧ v.wait - 1 ≤ 20
      omega
    · have hqu := (hI.opn ho).2
      have hok := qu_ok hI hi hqu
      have hvn : (againV v).nodes = v.nodes := by unfold againV; split <;> rfl
      have hcur : (againV v).cur < (againV v).nodes.length := by
        rw [hvn]
        unfold againV
        split
        · exact h.curlt
        · exact Nat.mod_lt _ h.pos
      obtain ⟨n, hn, hn1, hn3⟩ := node3 (hvn.trans hI.nodes) hcur
      refine (tick_again h ha ho (by have := hI.wait; omega) (by omega) hok.1 hok.2 n hn).mono ?_
      rintro e w' ⟨g, rfl, hc, hp, hg, hf⟩
      have hfields : (sentV (againV v)).id = v.id ∧ (sentV (againV v)).nodes = v.nodes ∧ (sentV (againV v)).num = v.num ∧ (sentV (againV v)).number = v.number ∧ (sentV (againV v)).ss = v.ss ∧ (sentV (againV v)).sq = v.sq ∧ (sentV (againV v)).wait = 20 ∧ (sentV (againV v)).op = v.op ∧ (sentV (againV v)).opn = v.opn ∧ (sentV (againV v)).qu = v.qu ∧ (sentV (againV v)).asked = v.asked := by
        unfold sentV againV
        split <;> exact ⟨rfl, rfl, rfl, rfl, rfl, rfl, rfl, rfl, rfl, rfl, rfl⟩
      obtain ⟨k1, k2, k3, k4, k5, k6, k7, k8, k9, k10, k11⟩ := hfields
      have hCI : ∀ a c, (a = 0 ∨ v.qu = PutO a c) → CI (sentV (againV v)) a c i (t + 1) nb := fun a c hac =>
        ⟨k1.trans hI.id, k2.trans hI.nodes, by rw [k3]; omega, by rw [k4]; exact hI.number, by rw [k5]; exact hI.vs, by rw [k6]; exact hI.vq, by rw [k7]; omega, by rw [k8]; exact fun _ => hI.op ha, by rw [k10, k5, k6, k11]; exact fun _ => ⟨ha, hqu⟩, by rw [k9, k10]; exact fun _ => hac.imp id (fun hx => ⟨ho, hx⟩)⟩
      refine ⟨_, hc, hf, k11.trans ha, k9.trans ho, k4, .inr ⟨g, n, rfl, ?_, hn1, hn3, .inl k3, by rw [k3]; omega, by rw [k10]; exact hok.1, by rw [k10]; exact hok.2, ?_⟩⟩
      · rw [k10, k3]
        rw [k1, hI.id] at hp
        exact hp
      · rw [k10]
        rcases hqu with h' | ⟨h', h''⟩
        · refine .inl ⟨h', hCI se sq ?_⟩
          rcases hI.se ha with h1 | ⟨_, h2⟩
          · exact .inl h1
          · exact .inr h2
        · refine .inr ⟨_, _, h', ?_, hCI _ _ (.inr h')⟩
          rcases hI.se ha with h1 | ⟨_, h2⟩
          · exact .inl h1
          · rw [h'] at h2
            have e1 : v.ss = se := congrArg OpV.ss h2
            have e2 : v.sq + 1 = sq := congrArg OpV.sq h2
            exact .inr ⟨e1.symm, e2.symm⟩
  · have ho' : v.opn = false := by simpa using ho
    have hask := askQ_once hI ha
    have hok := qu_ok hI hi (q := askQ v) (hask.imp (fun hx => hx.2) (fun hx => ⟨hx.2, hx.1⟩))
    obtain ⟨n, hn, hn1, hn3⟩ := node3 hI.nodes h.curlt
    refine (tick_first h ha ho' (by omega) ⟨hvq.1, by omega⟩ hok.1 hok.2 n hn).mono ?_
    rintro e w' ⟨g, rfl, hc, hp, hg, hf⟩
    have hse : se = 0 := by
      rcases hI.se ha with h1 | ⟨h2, _⟩
      · exact h1
      · rw [ho'] at h2; cases h2
    have hCI : ∀ a c, (a = 0 ∨ askQ v = PutO a c) → CI (sentV (askV v)) a c i (t + 1) nb := fun a c hac =>
      ⟨hI.id, hI.nodes, by show v.num + 1 ≤ _; omega, hI.number, hI.vs, hI.vq, by show (0 : Int) ≤ 20 ∧ (20 : Int) ≤ 20; omega, hI.op, fun _ => ⟨ha, hask.imp (fun hx => hx.2) (fun hx => ⟨hx.2, hx.1⟩)⟩, fun _ => hac.imp id (fun hx => ⟨rfl, hx⟩)⟩
    refine ⟨_, hc, hf, ha, rfl, rfl, .inr ⟨g, n, rfl, ?_, hn1, hn3, .inr rfl, by show v.num + 1 ≤ _; omega, hok.1, hok.2, ?_⟩⟩
    · have : (sentV (askV v)).id = 101 := hI.id
      rw [this] at hp
      exact hp
    · rcases hask with ⟨h1, h2⟩ | ⟨h1, h2⟩
      · exact .inl ⟨h2, hCI se sq (.inl hse)⟩
      · exact .inr ⟨_, _, h2, .inl hse, hCI _ _ (.inr h2)⟩
/-- What an answer to the question does. -/
def TakeOut (w0 W : World) (B b gn ch cap : Nat) (v : CliV) (r : RepV) (se sq : Int) (i nb : Nat) (e : Ending) (w' : World) : Prop :=
  e = .returned (.slice none 0 0) ∧ ∃ v' q', Cli w0 w' B b gn ch cap v' q' ∧ FarC W w' b ch ∧ v'.number = v.number ∧ v'.num = v.num ∧ ((q' = [] ∧ v'.asked = true) ∨ (q' = [((v.number : Int), r)] ∧ v'.asked = false)) ∧ CI v' se sq (i + 1) 0 nb
theorem take_once (h : Cli w0 W B b gn ch cap v []) (hI : CI v se sq i t nb) (ha : v.asked = true) (ho : v.opn = true) (ht : t ≤ 40) (d : ByteArray) (l : Int) (r : RepV) (hr : r.err ≠ 24) (hr0 : r.err = 0 → 1 ≤ r.num ∧ r.num ≤ 9223372036854775807)
    (hT : ∀ W, Calls Try.prog 27 #[.string d] W fun e w' => e = .returned (.tuple #[.int .i64 v.num, .int .i64 l, r.agg, .int .i64 0]) ∧ Below W.heap.size W w') :
    Calls Try.prog 39 #[.pointer (some ⟨b, 0, none⟩), .agg #[.int .i64 1, .int .i64 101, .string d]] W (TakeOut w0 W B b gn ch cap v r se sq i nb) := by
  have hnum := hI.num
  have hvq := hI.vq
  have hqu := (hI.opn ho).2
  rw [show (101 : Int) = v.id from hI.id.symm]
  have hpause : ∀ cur' : Nat, CI { v with cur := cur', wait := 4, stays := true } se sq (i + 1) 0 nb := fun cur' =>
    ⟨hI.id, hI.nodes, by show v.num ≤ _; omega, hI.number, hI.vs, by show 0 ≤ v.sq ∧ v.sq ≤ ((i + 1 : Nat) : Int); omega, by show (0 : Int) ≤ 4 ∧ (4 : Int) ≤ 20; omega, hI.op, hI.opn, hI.se⟩
  by_cases e21 : r.err = 21
  · by_cases hx : idxI v.nodes l = -1
    · refine (take_lead_out h ho 1 d l r hT e21 hx).mono ?_
      rintro e w' ⟨rfl, hc, hf⟩
      exact ⟨rfl, _, _, hc, hf, rfl, rfl, .inl ⟨rfl, ha⟩, hpause _⟩
    · have hrg := idxI_range v.nodes l
      refine (take_lead_in h ho 1 d l r hT e21 (idxI v.nodes l).toNat (by omega)).mono ?_
      rintro e w' ⟨rfl, hc, hf⟩
      exact ⟨rfl, _, _, hc, hf, rfl, rfl, .inl ⟨rfl, ha⟩, hpause _⟩
  · by_cases e22 : r.err = 22
    · refine (take_busy h ho 1 d l r hT e22).mono ?_
      rintro e w' ⟨rfl, hc, hf⟩
      exact ⟨rfl, _, _, hc, hf, rfl, rfl, .inl ⟨rfl, ha⟩, hpause v.cur⟩
    · by_cases e10 : r.err = 10
      · refine (take_full h ho 1 d l r hT e10).mono ?_
        rintro e w' ⟨rfl, hc, hf⟩
        exact ⟨rfl, _, _, hc, hf, rfl, rfl, .inl ⟨rfl, ha⟩, hpause v.cur⟩
      · rcases hqu with hq | ⟨hq, hs⟩
        · have hk : v.qu.kd = 5 := by rw [hq]; rfl
          have hse : se = 0 := by
            rcases hI.se ha with h1 | ⟨_, h2⟩
            · exact h1
            · rw [hq] at h2; exact (RegO_ne h2).elim
          by_cases e0 : r.err = 0
          · refine (take_reg_ok h ho 1 d l r hT e0 hk).mono ?_
            rintro e w' ⟨rfl, hc, hf⟩
            exact ⟨rfl, _, _, hc, hf, rfl, rfl, .inl ⟨rfl, ha⟩, ⟨hI.id, hI.nodes, by show v.num ≤ _; omega, hI.number, .inr (hr0 e0), by show (0 : Int) ≤ 0 ∧ (0 : Int) ≤ ((i + 1 : Nat) : Int); omega, hI.wait, hI.op, (fun hx => by cases hx), fun _ => .inl hse⟩⟩
          · refine (take_reg_no h ho 1 d l r hT ⟨e21, e22, e10⟩ e0 hk).mono ?_
            rintro e w' ⟨rfl, hc, hf⟩
            exact ⟨rfl, _, _, hc, hf, rfl, rfl, .inl ⟨rfl, ha⟩, ⟨hI.id, hI.nodes, by show v.num ≤ _; omega, hI.number, hI.vs, by show 0 ≤ v.sq ∧ v.sq ≤ ((i + 1 : Nat) : Int); omega, hI.wait, hI.op, (fun hx => by cases hx), fun _ => .inl hse⟩⟩
        · have hk5 : v.qu.kd ≠ 5 := by rw [hq]; show (1 : Int) ≠ _; decide
          have hk4 : v.qu.kd ≠ 4 := by rw [hq]; show (1 : Int) ≠ _; decide
          have hsq : v.qu.sq = v.sq + 1 := by rw [hq]; rfl
          refine (take_op h ho 1 d l r hT ⟨e21, e22, e10⟩ hk5 hk4 hr).mono ?_
          rintro e w' ⟨rfl, hc, hf⟩
          exact ⟨rfl, _, _, hc, hf, rfl, rfl, .inr ⟨rfl, rfl⟩, ⟨hI.id, hI.nodes, by show v.num ≤ _; omega, hI.number, hI.vs, by show 0 ≤ v.qu.sq ∧ v.qu.sq ≤ ((i + 1 : Nat) : Int); rw [hsq]; omega, hI.wait, (fun hx => by cases hx), (fun hx => by cases hx), (fun hx => by cases hx)⟩⟩
/-- Asked for the next put, or busy. -/
def AskOut (w0 W : World) (B b gn ch cap : Nat) (v : CliV) (se sq : Int) (i : Nat) (e : Ending) (w' : World) : Prop :=
  ∃ v', Cli w0 w' B b gn ch cap v' [] ∧ FarC W w' b ch ∧ v'.asked = true ∧ v'.num = v.num ∧
    ((v.asked = true ∧ e = .returned (.tuple #[.int .i64 0, .int .i64 22]) ∧ v'.number = v.number ∧ CI v' se sq i 0 (i + 1)) ∨
     (v.asked = false ∧ e = .returned (.tuple #[.int .i64 ((v.number : Int) + 1), .int .i64 0]) ∧ v'.number = v.number + 1 ∧ CI v' 0 0 i 0 (i + 1)))
theorem ask_once (h : Cli w0 W B b gn ch cap v []) (hI : CI v se sq i 0 i) (hi : i ≤ 200) :
    Calls Try.prog 37 #[.pointer (some ⟨b, 0, none⟩), .int .i64 1, .string ⟨#[107]⟩, .string ⟨#[118]⟩, .string ⟨#[]⟩] W (AskOut w0 W B b gn ch cap v se sq i) := by
  have hnb := hI.number
  by_cases ha : v.asked = true
  · refine (asks_busy h (by rw [ha]; rfl) 1 ⟨#[107]⟩ ⟨#[118]⟩ ⟨#[]⟩).mono ?_
    rintro e w' ⟨rfl, rfl⟩
    exact ⟨v, h, FarC.refl _ _ _, ha, rfl, .inl ⟨ha, rfl, rfl, ⟨hI.id, hI.nodes, hI.num, by omega, hI.vs, hI.vq, hI.wait, hI.op, hI.opn, hI.se⟩⟩⟩
  · have ha' : v.asked = false := by simpa using ha
    have ho : v.opn = true → False := fun hx => ha (hI.opn hx).1
    refine (asks_put h ha' (by omega) ⟨#[107]⟩ ⟨#[118]⟩ ⟨#[]⟩ (by decide) (by decide) (by decide) (PutO_ok (a := 1) (c := 1) (by omega) (by omega)).2).mono ?_
    rintro e w' ⟨rfl, hc, hf⟩
    exact ⟨_, hc, hf, rfl, rfl, .inr ⟨ha', rfl, rfl, ⟨hI.id, hI.nodes, hI.num, by show v.number + 1 ≤ _; omega, hI.vs, hI.vq, hI.wait, fun _ => rfl, fun hx => (ho hx).elim, fun _ => .inl rfl⟩⟩⟩
end
end Go.Proofs.Ytfogoebflfkknaa
