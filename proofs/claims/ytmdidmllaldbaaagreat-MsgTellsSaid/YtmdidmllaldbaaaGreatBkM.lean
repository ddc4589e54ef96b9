/- What a Book keeps of messages: a row of messages and its copy; each message's lists lie in rows that no adding turns (printed by wip/gen_bookm.py). -/
import Derived.Test.YtmdidmllaldbaaaGreatBkSet
import Derived.Test.YtmdidmllaldbaaaGreatMsgM
import Derived.Test.YtmdidmllaldbaaaGreatBook
import Derived.Test.YtmdidmllaldbaaaGreatSince
import Derived.Test.YtmdidmllaldbaaaGreatChecked
import Derived.Test.YtmdidmllaldbaaaGreatMsgSm
import Derived.BigQuiet
import Derived.Deep.RegionLaw
import Derived.Laws.AppendOwnNone
import Derived.Deep.RegionWith
import Derived.Test.YtmdidmllaldbaaaGreatBkE
import Derived.Test.YtmdidmllaldbaaaGreatBkI
import Derived.Test.YtmdidmllaldbaaaGreatBkP
namespace Go.Proofs.YtmdidmllaldbaaaGreat
/-! ### What a Book keeps of messages: a row of messages and its copy; each message's lists lie in rows that no adding turns (printed by wip/gen_bookm.py). -/
section
open Go.RowKit
set_option linter.unusedVariables false
/-- A message and its copy. -/
abbrev MM := MsgR × MsgR
def cellsM (l : List MsgR) : List Value := l.flatMap MsgR.cells
def encM (l : List MM) : List Value := cellsM (l.map Prod.fst)
def encMw (l : List MM) : List Value := cellsM (l.map Prod.snd)
theorem cellsM_len (l : List MsgR) : (cellsM l).length = l.length * 14 := by
  induction l with
  | nil => rfl
  | cons e l ih =>
    show (e.cells ++ cellsM l).length = _
    rw [List.length_append, ih, List.length_cons]
    show 14 + _ = _
    omega
theorem cellsM_get (l : List MsgR) : ∀ (k r : Nat), r < 14 → (cellsM l)[k * 14 + r]? = (l[k]?).bind (fun e => e.cells[r]?) := by
  induction l with
  | nil => intro k r _; simp [cellsM]
  | cons e l ih =>
    intro k r hr
    show (e.cells ++ cellsM l)[k * 14 + r]? = _
    have he : e.cells.length = 14 := rfl
    cases k with
    | zero => rw [List.getElem?_append_left (by omega)]; simp
    | succ k =>
      rw [List.getElem?_append_right (by omega), he, show (k + 1) * 14 + r - 14 = k * 14 + r from by omega, ih k r hr]
      simp
theorem cellsM_append (a b : List MsgR) : cellsM (a ++ b) = cellsM a ++ cellsM b := by simp [cellsM]
theorem cellsM_one (l : List MsgR) : ∀ u ∈ cellsM l, u.oneCell' = true := by
  intro u hu
  simp only [cellsM, List.mem_flatMap] at hu
  obtain ⟨e, _, hu⟩ := hu
  simp only [MsgR.cells, List.mem_cons, List.not_mem_nil, or_false] at hu
  rcases hu with rfl | rfl | rfl | rfl | rfl | rfl | rfl | rfl | rfl | rfl | rfl | rfl | rfl | rfl <;> rfl
theorem encM_len (l : List MM) : (encM l).length = l.length * 14 := by unfold encM; rw [cellsM_len, List.length_map]
theorem encMw_len (l : List MM) : (encMw l).length = l.length * 14 := by unfold encMw; rw [cellsM_len, List.length_map]
theorem encM_get (l : List MM) (k r : Nat) (hr : r < 14) : (encM l)[k * 14 + r]? = (l[k]?).bind (fun e => e.1.cells[r]?) := by
  unfold encM
  rw [cellsM_get _ k r hr, List.getElem?_map]
  cases l[k]? <;> rfl
theorem encM_append (a b : List MM) : encM (a ++ b) = encM a ++ encM b := by unfold encM; rw [List.map_append, cellsM_append]
theorem encM_one (l : List MM) : ∀ u ∈ encM l, u.oneCell' = true := cellsM_one _
/-- No adding turns a message's lists. -/
def NS (o : Nat → Tag) (m : MsgR) : Prop :=
  (∀ g, (Value.slice m.eo m.en m.ec).ownBlock = some g → ¬ SS (o g)) ∧ (∀ g, (Value.slice m.mo m.mn m.mc).ownBlock = some g → ¬ SS (o g)) ∧ (∀ g, (Value.slice m.po m.pn m.pc).ownBlock = some g → ¬ SS (o g))
theorem own_ns {o : Nat → Tag} {S : Tag → Prop} {w w' : World} {base : Nat} {e : TypeId} {size n : Nat} {v : Value} {xs : List Value} (h : w.ownsRow base e size v n xs) (hn : ∀ g, v.ownBlock = some g → ¬ S (o g)) (hT : Turn o S w w') : w'.ownsRow base e size v n xs := by
  rcases h with ⟨hl, ⟨rfl, rfl⟩ | ⟨g, cap, cur, rfl, hb, hg, hr⟩⟩
  · exact ⟨hl, .inl ⟨rfl, rfl⟩⟩
  · have hlt : g < w.heap.size := blk_lt hg
    exact ⟨hl, .inr ⟨g, cap, cur, rfl, hb, (hT.block g hlt (hn g rfl)).trans hg, hr⟩⟩
theorem MsgOwn.lt {W : World} {base : Nat} {m : MsgR} (h : MsgOwn W base m) : (∀ g, (Value.slice m.eo m.en m.ec).ownBlock = some g → base ≤ g ∧ g < W.heap.size) ∧ (∀ g, (Value.slice m.mo m.mn m.mc).ownBlock = some g → base ≤ g ∧ g < W.heap.size) ∧ (∀ g, (Value.slice m.po m.pn m.pc).ownBlock = some g → base ≤ g ∧ g < W.heap.size) :=
  ⟨fun g hg => h.es.lt g hg, fun g hg => h.ms.lt g hg, fun g hg => h.ps.lt g hg⟩
theorem MsgOwn.ns {W W' : World} {base : Nat} {m : MsgR} {o : Nat → Tag} {S : Tag → Prop} (h : MsgOwn W base m) (hn : NS o m) (hS : ∀ t, S t → SS t) (hT : Turn o S W W') : MsgOwn W' base m :=
  ⟨own_ns h.es (fun g hg e => hn.1 g hg (hS _ e)) hT, own_ns h.ms (fun g hg e => hn.2.1 g hg (hS _ e)) hT, own_ns h.ps (fun g hg e => hn.2.2 g hg (hS _ e)) hT, h.el, h.ml, h.pl⟩
/-- From the blocks' tags. -/
theorem NS.of {W : World} {base : Nat} {m : MsgR} {o : Nat → Tag} (h : MsgOwn W base m) (ht : ∀ g, base ≤ g → g < W.heap.size → ¬ SS (o g)) : NS o m :=
  ⟨fun g hg => ht g (h.lt.1 g hg).1 (h.lt.1 g hg).2, fun g hg => ht g (h.lt.2.1 g hg).1 (h.lt.2.1 g hg).2, fun g hg => ht g (h.lt.2.2 g hg).1 (h.lt.2.2 g hg).2⟩
theorem NS.map {W : World} {base : Nat} {m : MsgR} {o o' : Nat → Tag} (h : MsgOwn W base m) (hn : NS o m) (ht : ∀ g, g < W.heap.size → ¬ SS (o g) → ¬ SS (o' g)) : NS o' m :=
  ⟨fun g hg => ht g (h.lt.1 g hg).2 (hn.1 g hg), fun g hg => ht g (h.lt.2.1 g hg).2 (hn.2.1 g hg), fun g hg => ht g (h.lt.2.2 g hg).2 (hn.2.2 g hg)⟩
theorem NS.agree {W : World} {base : Nat} {m : MsgR} {o o' : Nat → Tag} (h : MsgOwn W base m) (hn : NS o m) (ha : Agree o o' W.heap.size) : NS o' m := hn.map h (fun g hg hs => by rw [ha g hg]; exact hs)
structure DeepM (w : World) (B : Nat) (o : Nat → Tag) (p : MM) : Prop where
  o1 : MsgOwn w B p.1
  o2 : MsgOwn w B p.2
  n1 : NS o p.1
  n2 : NS o p.2
  eq : p.2.v = p.1.v
  ok : MsgOk p.1.v
  sm : MsgSm p.1.v
theorem DeepM.turn {w w' : World} {B : Nat} {o o' : Nat → Tag} {S : Tag → Prop} {p : MM} (h : DeepM w B o p) (hT : Turn o S w w') (hS : ∀ t, S t → SS t) (ha : Agree o o' w.heap.size) : DeepM w' B o' p :=
  ⟨h.o1.ns h.n1 hS hT, h.o2.ns h.n2 hS hT, h.n1.agree h.o1 ha, h.n2.agree h.o2 ha, h.eq, h.ok, h.sm⟩
structure KeptM (w : World) (B : Nat) (o : Nat → Tag) (j : Nat) (te T : TypeId) (size : Nat) (enc : List MM → List Value) (ov wv : Value) (rows : List (KRow MM)) : Prop where
  few : rows.length ≤ 1000
  short : ∀ r ∈ rows, r.l.length ≤ 100000
  out : w.ownsRow B te 1 ov rows.length (rows.map (·.v))
  was : w.ownsRow B te 1 wv rows.length (rows.map (·.c))
  tout : Tagged o w.heap.size (j, 0, 0) ov
  twas : Tagged o w.heap.size (j, 1, 0) wv
  row : ∀ i r, rows[i]? = some r → w.ownsRow B T size r.v r.l.length (enc r.l) ∧ w.ownsRow B T size r.c r.l.length (encMw r.l) ∧ Tagged o w.heap.size (j, 2, i) r.v ∧ Tagged o w.heap.size (j, 3, i) r.c
  deep : ∀ (i : Nat) (r : KRow MM), rows[i]? = some r → ∀ p ∈ r.l, DeepM w B o p
theorem KeptM.nil_ {w : World} {B : Nat} {o : Nat → Tag} {j : Nat} {te T : TypeId} {size : Nat} {enc : List MM → List Value} : KeptM w B o j te T size enc (.slice none 0 0) (.slice none 0 0) [] :=
  ⟨by simp, by simp, World.ownsRow_nil _ _ _ _, World.ownsRow_nil _ _ _ _, (fun g hg => by cases hg), (fun g hg => by cases hg), (fun i r h => by simp at h), (fun i r h => by simp at h)⟩
theorem KeptM.turn {w w' : World} {B : Nat} {o o' : Nat → Tag} {S : Tag → Prop} {j : Nat} {te T : TypeId} {size : Nat} {enc : List MM → List Value} {ov wv : Value} {rows : List (KRow MM)}
    (h : KeptM w B o j te T size enc ov wv rows) (hT : Turn o S w w') (hS : ∀ r i, ¬ S (j, r, i)) (hSS : ∀ t, S t → SS t) (ha : Agree o o' w.heap.size) : KeptM w' B o' j te T size enc ov wv rows :=
  ⟨h.few, h.short, own_turn h.out h.tout hT (hS _ _), own_turn h.was h.twas hT (hS _ _), (h.tout.agree ha).more h.out _, (h.twas.agree ha).more h.was _, fun i r hr => by
    obtain ⟨r1, r2, r3, r4⟩ := h.row i r hr
    exact ⟨own_turn r1 r3 hT (hS _ _), own_turn r2 r4 hT (hS _ _), (r3.agree ha).more r1 _, (r4.agree ha).more r2 _⟩, fun i r hr p hp => (h.deep i r hr p hp).turn hT hSS ha⟩
theorem KeptM.below {w w' : World} {B : Nat} {o : Nat → Tag} {j : Nat} {te T : TypeId} {size : Nat} {enc : List MM → List Value} {ov wv : Value} {rows : List (KRow MM)}
    (h : KeptM w B o j te T size enc ov wv rows) (hb : Below w.heap.size w w') : KeptM w' B o j te T size enc ov wv rows :=
  h.turn (S := fun _ => False) (Turn.ofBelow hb) (fun _ _ => id) (fun _ h => h.elim) (Agree.refl _ _)
theorem KeptM.add {w w1 w2 w3 w4 w5 : World} {B bn p q j : Nat} {o : Nat → Tag} {BT te T : TypeId} {size n : Nat} {enc : List MM → List Value} {ov wv ov' wv' v c : Value} {rows : List (KRow MM)} {l : List MM} {cs : Array Value}
    (h : KeptM w B o j te T size enc ov wv rows) (hB : BookAt w B BT o bn cs) (hBw : B ≤ w.heap.size) (hj : j ≠ 99) (hj50 : j < 50) (hN : rows.length ≤ 999) (hv : w.ownsRow B T size v n (enc l)) (hl : l.length = n) (hn : n ≤ 100000) (ht : Tagged o w.heap.size (j, 2, rows.length) v)
    (g1 : w.grownBy w1 ov.ownBlock) (own1 : w1.ownsRow B te 1 ov' (rows.length + 1) (rows.map (·.v) ++ [v])) (at1 : ov'.ownBlock = ov.ownBlock ∨ ∀ g, ov'.ownBlock = some g → w.heap.size ≤ g)
    (e2 : w2 = w1.setCell ⟨bn, p, none⟩ ov') (hb : Below w2.heap.size w2 w3) (own3 : w3.ownsRow w2.heap.size T size c n (encMw l)) (hd1 : ∀ p ∈ l, MsgOwn w B p.1 ∧ NS o p.1 ∧ p.2.v = p.1.v ∧ MsgOk p.1.v ∧ MsgSm p.1.v) (hd2 : ∀ p ∈ l, MsgOwn w3 w2.heap.size p.2)
    (g4 : w3.grownBy w4 wv.ownBlock) (own4 : w4.ownsRow B te 1 wv' (rows.length + 1) (rows.map (·.c) ++ [c])) (at4 : wv'.ownBlock = wv.ownBlock ∨ ∀ g, wv'.ownBlock = some g → w3.heap.size ≤ g)
    (e5 : w5 = w4.setCell ⟨bn, q, none⟩ wv') :
    ∃ o', Agree o o' w.heap.size ∧ BookAt w5 B BT o' bn ((cs.setIfInBounds p ov').setIfInBounds q wv') ∧ KeptM w5 B o' j te T size enc ov' wv' (rows ++ [⟨v, c, l⟩]) ∧ Turn o (fun t => t = (99, 0, 0) ∨ t = (j, 0, 0) ∨ t = (j, 1, 0)) w w5 := by
  obtain ⟨b1, b2, b3, b4⟩ := hB
  have hbl : bn < w.heap.size := blk_lt b1
  have s1 : w.heap.size ≤ w1.heap.size := g1.size
  have s2 : w2.heap.size = w1.heap.size := by rw [e2]; simp [World.setCell]
  have s3 : w2.heap.size ≤ w3.heap.size := hb.size
  have s4 : w3.heap.size ≤ w4.heap.size := g4.size
  have a1 : Agree o (retag o w.heap.size (j, 0, 0)) w.heap.size := retag_agree _ _ _
  have a2 : Agree (retag o w.heap.size (j, 0, 0)) (retag (retag o w.heap.size (j, 0, 0)) w2.heap.size (j, 3, rows.length)) w2.heap.size := retag_agree _ _ _
  have a3 : Agree (retag (retag o w.heap.size (j, 0, 0)) w2.heap.size (j, 3, rows.length)) (retag (retag (retag o w.heap.size (j, 0, 0)) w2.heap.size (j, 3, rows.length)) w3.heap.size (j, 1, 0)) w3.heap.size := retag_agree _ _ _
  have a12 := a1.trans a2 (by omega)
  have a13 := a12.trans a3 (by omega)
  have a23 := a2.trans a3 (by omega)
  have hob : ∀ o', Agree o o' w.heap.size → o' bn = (99, 0, 0) := fun o' ha => (ha bn hbl).trans b4
  have ne99 : ∀ r i, ¬ ((j, r, i) : Tag) = (99, 0, 0) := fun r i e => by injection e with e; exact hj e
  have set_turn : ∀ (o' : Nat → Tag) (W : World) (i : Nat) (u : Value), Agree o o' w.heap.size → Turn o' (fun t => t = (99, 0, 0)) W (W.setCell ⟨bn, i, none⟩ u) := fun o' W i u ha =>
    (Turn.refl _ _ _).grown (grown_set W bn i u) (fun g hg _ => by injection hg with hg; subst hg; exact hob o' ha)
  have bn1 : ov.ownBlock ≠ some bn := fun e => by
    have := h.tout bn e hbl
    rw [b4] at this
    exact ne99 0 0 this.symm
  have bn4 : wv.ownBlock ≠ some bn := fun e => by
    have := h.twas bn e hbl
    rw [b4] at this
    exact ne99 1 0 this.symm
  -- the turns
  have T12 : Turn o (fun t => t = (99, 0, 0) ∨ t = (j, 0, 0) ∨ t = (j, 1, 0)) w w2 := by
    rw [e2]
    exact ((Turn.refl _ _ _).grown g1 (fun g hg hlt => .inr (.inl (h.tout g hg hlt)))).trans ((set_turn o w1 p ov' (Agree.refl _ _)).wide (fun t ht => .inl ht)) (Agree.refl _ _)
  have T15 : Turn o (fun t => t = (99, 0, 0) ∨ t = (j, 0, 0) ∨ t = (j, 1, 0)) w w5 := by
    rw [e5]
    exact ((T12.below hb).grown g4 (fun g hg hlt => .inr (.inr (h.twas g hg hlt)))).trans ((set_turn o w4 q wv' (Agree.refl _ _)).wide (fun t ht => .inl ht)) (Agree.refl _ _)
  have T35 : ∀ o', Agree o o' w.heap.size → Turn o' (fun t => t = (99, 0, 0) ∨ t = (j, 1, 0)) w3 w5 := fun o' ha => by
    rw [e5]
    exact ((Turn.refl _ _ _).grown g4 (fun g hg hlt => .inr (((h.twas.agree ha).more h.was w3.heap.size) g hg hlt))).trans ((set_turn o' w4 q wv' ha).wide (fun t ht => .inl ht)) (Agree.refl _ _)
  have T25 : ∀ o', Agree o o' w.heap.size → Turn o' (fun t => t = (99, 0, 0) ∨ t = (j, 1, 0)) w2 w5 := fun o' ha => (Turn.ofBelow hb).trans (T35 o' ha) (Agree.refl _ _)
  have tov : ∀ M, Tagged (retag o w.heap.size (j, 0, 0)) M (j, 0, 0) ov' := fun M => retag_hat h.tout at1
  have ov2 : w2.ownsRow B te 1 ov' (rows.length + 1) (rows.map (·.v) ++ [v]) := by
    rw [e2]
    exact own_turn own1 (tov _) (set_turn _ w1 p ov' a1) (ne99 _ _)
  have tc : ∀ M, Tagged (retag (retag o w.heap.size (j, 0, 0)) w2.heap.size (j, 3, rows.length)) M (j, 3, rows.length) c := fun M => retag_own own3
  have twv : ∀ M, Tagged (retag (retag (retag o w.heap.size (j, 0, 0)) w2.heap.size (j, 3, rows.length)) w3.heap.size (j, 1, 0)) M (j, 1, 0) wv' := fun M => retag_hat ((h.twas.agree a12).more h.was _) at4
  have fin1 : w5.ownsRow B te 1 ov' (rows.length + 1) (rows.map (·.v) ++ [v]) := own_turn ov2 (tov _) (T25 _ a1) (by rintro (e | e); exact ne99 _ _ e; (injection e with _ e; injection e with e; cases e))
  have fin2 : w5.ownsRow B te 1 wv' (rows.length + 1) (rows.map (·.c) ++ [c]) := by
    rw [e5]
    exact own_turn own4 (twv _) (set_turn _ w4 q wv' a13) (ne99 _ _)
  have hS : ∀ r i, 2 ≤ r → ¬ (((j, r, i) : Tag) = (99, 0, 0) ∨ ((j, r, i) : Tag) = (j, 0, 0) ∨ ((j, r, i) : Tag) = (j, 1, 0)) := fun r i hr e => by
    rcases e with e | e | e
    · exact ne99 _ _ e
    · injection e with _ e; injection e with e; omega
    · injection e with _ e; injection e with e; omega
  refine ⟨_, a13, ⟨?_, by simpa using b2, b3, hob _ a13⟩, ⟨by simp; omega, ?_, ?_, ?_, ((tov w2.heap.size).agree a23).more ov2 _, twv _, ?_, ?_⟩, T15⟩
  · have k1 : w1.heap[bn]? = some (.cells cs BT (0, 0)) := (g1.block bn hbl (fun e => bn1 e.symm)).trans b1
    have k2 : w2.heap[bn]? = some (.cells (cs.setIfInBounds p ov') BT (0, 0)) := by rw [e2]; exact blk_set k1 p ov'
    have k3 := (hb.block bn (by omega)).trans k2
    have k4 := (g4.block bn (by omega) (fun e => bn4 e.symm)).trans k3
    rw [e5]
    exact blk_set k4 q wv'
  · intro r hr
    rcases List.mem_append.1 hr with hr | hr
    · exact h.short r hr
    · simp at hr; subst hr; show l.length ≤ _; omega
  · rw [List.length_append, List.map_append]; exact fin1
  · rw [List.length_append, List.map_append]; exact fin2
  · intro i r hr
    rcases Nat.lt_or_ge i rows.length with hlt | hge
    · rw [List.getElem?_append_left hlt] at hr
      obtain ⟨r1, r2, r3, r4⟩ := h.row i r hr
      exact ⟨own_turn r1 r3 T15 (hS _ _ (by omega)), own_turn r2 r4 T15 (hS _ _ (by omega)), (r3.agree a13).more r1 _, (r4.agree a13).more r2 _⟩
    · rw [List.getElem?_append_right hge] at hr
      have hi0 : i - rows.length = 0 := by
        have := (List.getElem?_eq_some_iff.1 hr).1
        simp at this
        omega
      rw [hi0] at hr
      injection hr with hr
      subst hr
      obtain rfl : i = rows.length := by omega
      refine ⟨by rw [show (⟨v, c, l⟩ : KRow MM).l.length = n from hl]; exact own_turn hv ht T15 (hS _ _ (by omega)), ?_, (ht.agree a13).more hv _, ((tc w3.heap.size).agree a3).more own3 _⟩
      rw [show (⟨v, c, l⟩ : KRow MM).l.length = n from hl]
      exact own_turn (own_monoK own3 (by omega)) (tc _) (T35 _ a12) (by rintro (e | e); exact ne99 _ _ e; (injection e with _ e; injection e with e; cases e))
  · have hSS : ∀ t, (t = (99, 0, 0) ∨ t = (j, 0, 0) ∨ t = (j, 1, 0)) → SS t := fun t e => by
      rcases e with e | e | e
      · exact .inl e
      · exact .inr ⟨by rw [e]; exact hj50, by rw [e]; exact Nat.zero_le _⟩
      · exact .inr ⟨by rw [e]; exact hj50, by rw [e]; exact Nat.le_refl _⟩
    have hn3 : ∀ q, ¬ SS (j, 3, q) := fun q e => by
      rcases e with e | ⟨_, e⟩
      · exact ne99 _ _ e
      · exact absurd e (by show ¬ (3 ≤ 1); omega)
    intro i r hr p hp
    rcases Nat.lt_or_ge i rows.length with hlt | hge
    · rw [List.getElem?_append_left hlt] at hr
      exact (h.deep i r hr p hp).turn T15 hSS a13
    · rw [List.getElem?_append_right hge] at hr
      have hi0 : i - rows.length = 0 := by
        have := (List.getElem?_eq_some_iff.1 hr).1
        simp at this
        omega
      rw [hi0] at hr
      injection hr with hr
      subst hr
      obtain ⟨d1, d2, d3, d4, d5⟩ := hd1 p hp
      have e2' := hd2 p hp
      have nc : NS (retag (retag o w.heap.size (j, 0, 0)) w2.heap.size (j, 3, rows.length)) p.2 := NS.of e2' (fun g hg _ => by
        unfold retag
        rw [if_neg (by omega)]
        exact hn3 _)
      exact ⟨d1.ns d2 hSS T15, (e2'.ns nc (fun t e => hSS t (by rcases e with e | e; exact .inl e; exact .inr (.inr e))) (T35 _ a12)).low (by omega), d2.agree d1 a13, nc.agree e2' a3, d3, d4, d5⟩
theorem KeptM.apart {w : World} {B bn j : Nat} {o : Nat → Tag} {BT te T : TypeId} {size : Nat} {enc : List MM → List Value} {ov wv : Value} {rows : List (KRow MM)} {cs : Array Value} (h : KeptM w B o j te T size enc ov wv rows) (hB : BookAt w B BT o bn cs) (hj : j ≠ 99) : ov.ownBlock ≠ some bn ∧ wv.ownBlock ≠ some bn := by
  have hbl : bn < w.heap.size := blk_lt hB.1
  have ne99 : ∀ r i, ¬ ((j, r, i) : Tag) = (99, 0, 0) := fun r i e => by injection e with e; exact hj e
  refine ⟨fun e => ?_, fun e => ?_⟩
  · have := h.tout bn e hbl
    rw [hB.2.2.2] at this
    exact ne99 0 0 this.symm
  · have := h.twas bn e hbl
    rw [hB.2.2.2] at this
    exact ne99 1 0 this.symm
def AddPostM (w : World) (B bn p q j : Nat) (o : Nat → Tag) (BT te T : TypeId) (size : Nat) (enc : List MM → List Value) (cs : Array Value) (w' : World) : Prop :=
  ∃ o' ov' wv' rows', Agree o o' w.heap.size ∧ BookAt w' B BT o' bn ((cs.setIfInBounds p ov').setIfInBounds q wv') ∧ KeptM w' B o' j te T size enc ov' wv' rows' ∧ Turn o (fun t => t = (99, 0, 0) ∨ t = (j, 0, 0) ∨ t = (j, 1, 0)) w w'
theorem AddPostM.same {w : World} {B bn p q j : Nat} {o : Nat → Tag} {BT te T : TypeId} {size : Nat} {enc : List MM → List Value} {ov wv : Value} {rows : List (KRow MM)} {cs : Array Value} (hB : BookAt w B BT o bn cs) (h : KeptM w B o j te T size enc ov wv rows) (hc : (cs.setIfInBounds p ov).setIfInBounds q wv = cs) : AddPostM w B bn p q j o BT te T size enc cs w :=
  ⟨o, ov, wv, rows, Agree.refl _ _, by rw [hc]; exact hB, h, Turn.refl _ _ _⟩
theorem settle_ns {o : Nat → Tag} {i j n : Nat} (g : Nat) (hg : ¬ SS (o g)) : ¬ SS (Go.Proofs.YtmdidmllaldbaaaGreat.settle o i j n g) := by
  unfold Go.Proofs.YtmdidmllaldbaaaGreat.settle
  split
  · rintro (e | ⟨_, e⟩)
    · injection e with _ e; injection e with e; cases e
    · exact absurd e (by show ¬ (2 ≤ 1); omega)
  · exact hg
theorem add_ss {j : Nat} (hj : j < 50) (t : Tag) (e : t = (99, 0, 0) ∨ t = (j, 0, 0) ∨ t = (j, 1, 0)) : SS t := by
  rcases e with e | e | e
  · exact .inl e
  · exact .inr ⟨by rw [e]; exact hj, by rw [e]; exact Nat.zero_le _⟩
  · exact .inr ⟨by rw [e]; exact hj, by rw [e]; exact Nat.le_refl _⟩
theorem KeptM.settle {w : World} {B i j j' n : Nat} {o : Nat → Tag} {te T : TypeId} {size : Nat} {enc : List MM → List Value} {ov wv : Value} {rows : List (KRow MM)} (h : KeptM w B o j te T size enc ov wv rows) (hj : j ≠ 77) : KeptM w B (settle o i j' n) j te T size enc ov wv rows :=
  ⟨h.few, h.short, h.out, h.was, settle_tag h.tout hj, settle_tag h.twas hj, fun q r hr => ⟨(h.row q r hr).1, (h.row q r hr).2.1, settle_tag (h.row q r hr).2.2.1 hj, settle_tag (h.row q r hr).2.2.2 hj⟩,
    fun q r hr p hp => by
      have d := h.deep q r hr p hp
      exact ⟨d.o1, d.o2, d.n1.map d.o1 (fun g _ => settle_ns g), d.n2.map d.o2 (fun g _ => settle_ns g), d.eq, d.ok, d.sm⟩⟩
end
/-! ### The walks of a Book's lists of one kind: Msgs (printed by wip/gen_book.py). -/
section
open Go.RowKit
set_option linter.unusedVariables false
set_option linter.unusedSimpArgs false
theorem bkInfoM : (Tryz.prog.info? 118).map (fun i => (i.zero, i.size, i.bytes)) = some (some (.agg #[.int .i64 0, .int .i64 0, .int .i64 0, .int .i64 0, .int .i64 0, .int .i64 0, .int .i64 0, .int .i64 0, .bool false, .bool false, .slice none 0 0, .slice none 0 0, .int .i64 0, .slice none 0 0]), 14, 152) := by kernel_rfl
theorem bkRowM : (Tryz.prog.info? 127).map (fun i => (i.zero, i.size, i.bytes)) = some (some (.slice none 0 0), 1, 24) := by kernel_rfl
def markM (i k : Nat) : MsgR := ⟨⟨-1 - (i : Int), k, 0, 0, 0, 0, 0, 0, false, false, [], [], 0, []⟩, none, 0, 0, none, 0, 0, none, 0, 0⟩
def mkM (i k : Nat) : MM := (markM i k, markM i k)
theorem markM_at (W : World) (i k : Nat) : MsgAt W (markM i k) := ⟨Ents.nil_ _ _ _, ⟨rfl, fun v hv => (by cases hv), fun h => by exact absurd h (by show ¬ (0 < 0); omega)⟩, Pars.nil_ _ _ _, ⟨Nat.le_refl _, Nat.zero_le _⟩, ⟨Nat.le_refl _, Nat.zero_le _⟩, ⟨Nat.le_refl _, Nat.zero_le _⟩⟩
theorem markM_ok {i k : Nat} (hi : i ≤ 1000) (hk : k ≤ 1000000) : MsgOk (markM i k).v := by
  refine ⟨?_, ?_, ?_, ?_, ?_, ?_, ?_, ?_, ?_, ⟨fun e he => (by cases he), by show (0 : Nat) ≤ _; omega⟩, ⟨fun e he => (by cases he), by show (0 : Nat) ≤ _; omega⟩, ⟨fun e he => (by cases he), by show (0 : Nat) ≤ _; omega⟩⟩ <;> (unfold I64 markM; dsimp only; omega)
theorem markM_sm (i k : Nat) : MsgSm (markM i k).v := ⟨Nat.zero_le _, Nat.zero_le _, Nat.zero_le _, Nat.zero_le _, Nat.zero_le _⟩
set_option maxRecDepth 20000 in
set_option maxHeartbeats 1000000 in
theorem markM_any (i fr n : Nat) (w : World) (hi1 : i ≤ 1000) (hn : fr + n ≤ 1000000) :
    Calls Tryz.prog 222 #[.int .i64 i, .int .i64 fr, .int .i64 n] w fun e w' => ∃ ao c, e = .returned (.slice ao n c) ∧ w'.ownsRow w.heap.size 118 14 (.slice ao n c) n (encM ((List.range n).map (fun k => mkM i (fr + k)))) ∧ Below w.heap.size w w' := by
  obtain ⟨i0, hi, hz0, hz1, hz2⟩ := info_parts bkInfoM
  have HL : Hid (∀ m, (encM ((List.range m).map (fun k => mkM i (fr + k)))) ++ [.int .i64 (-1 - (i : Int)), .int .i64 ((fr : Int) + m), .int .i64 0, .int .i64 0, .int .i64 0, .int .i64 0, .int .i64 0, .int .i64 0, .bool false, .bool false, .slice none 0 0, .slice none 0 0, .int .i64 0, .slice none 0 0] = encM ((List.range (m + 1)).map (fun k => mkM i (fr + k)))) := Lib.hid (by
    intro m
    rw [List.range_succ, List.map_append, encM_append]
    simp [encM, cellsM, MsgR.cells, mkM, markM])
  go_enter Tryz.func222, Tryz.ntmps222
  go_wp2_with fail
  go_loopw [7, 8] (fun l kk wr => ∃ (m : Nat) (ao : Option Addr) (c : Nat), m ≤ n ∧ kk = .int .i64 ((fr : Int) + m) ∧ l = .slice ao m c ∧ Hid (wr.ownsRow w.heap.size 118 14 (.slice ao m c) m (encM ((List.range m).map (fun k => mkM i (fr + k))))) ∧ Hid (Below w.heap.size w wr)) (fun _ kk _ => fr + n - (intOf kk).toNat)
  case atStart => exact ⟨0, none, 0, Nat.zero_le _, by simp, rfl, Lib.hid (World.ownsRow_nil _ _ _ _), Lib.hid (Below.refl _ _)⟩
  case round =>
    obtain ⟨m, ao, c, hm, rfl, rfl, HO, HB⟩ := hrel
    have hsz := HB.out.size
    by_cases hlt : m < n
    · have hx1 : (fr : Int) + m < fr + n := by omega
      go_wp2_with (at_builtin; refine wpList_append_new rfl (.tmp 17) (.tmp 22) 127 rfl w.heap.size 118 i0 _ 14 152 Tryz.underlying127 hi hz0 hz1 hz2 rfl (by omega) _ m _ rfl HO.out hsz [.int .i64 (-1 - (i : Int)), .int .i64 ((fr : Int) + m), .int .i64 0, .int .i64 0, .int .i64 0, .int .i64 0, .int .i64 0, .int .i64 0, .bool false, .bool false, .slice none 0 0, .slice none 0 0, .int .i64 0, .slice none 0 0] 1 rfl rfl rfl (by simp [Value.oneCell']) (by omega) (by omega) ?_; intro v1 w1 hown1 hg1 hb1 hs1 hat1; obtain ⟨g1, cap1, hv1, _⟩ := hat1; subst hv1; have HO1 := Lib.hid hown1; have HB1 := Lib.hid (hb1 w HB.out); clear hown1 hb1 hg1)
      go_roundw
      case rel => exact ⟨m + 1, some ⟨g1, 0, none⟩, cap1, by omega, by go_num, rfl, Lib.hid (by rw [← HL.out]; exact HO1.out), HB1⟩
      case measure => simp [intOf]; omega
    · obtain rfl : m = n := by omega
      go_wp2_with fail
      go_ret
      exact ⟨ao, c, rfl, HO.out, HB.out⟩
set_option maxRecDepth 20000 in
set_option maxHeartbeats 4000000 in
theorem bkSameMs {w : World} {ao bo : Option Addr} {n c d : Nat} {la lb : List MsgR} (ha : Reads w (.slice ao n c) n (cellsM la)) (hb : Reads w (.slice bo n d) n (cellsM lb)) (hla : la.length = n) (hlb : lb.length = n) (hn : n ≤ 1000000)
    (hda : ∀ m ∈ la, MsgAt w m ∧ MsgOk m.v ∧ MsgSm m.v) (hdb : ∀ m ∈ lb, MsgAt w m) (hv : ∀ (k : Nat) (x y : MsgR), la[k]? = some x → lb[k]? = some y → x.v = y.v) :
    Calls Tryz.prog 217 #[.slice ao n c, .slice bo n d] w fun e w' => e = .returned (.bool true) ∧ Below w.heap.size w w' := by
  have HG : ∀ (xo : Option Addr) (q : Nat) (l : List MsgR), l.length = n → Reads w (.slice xo n q) n (cellsM l) → Hid (∀ k, k < n → ∃ g e, xo = some ⟨g, 0, none⟩ ∧ g < w.heap.size ∧ l[k]? = some e ∧ w.cell? ⟨g, k * 14, none⟩ = some (.int .i64 e.v.kd) ∧ w.cell? ⟨g, k * 14 + 1, none⟩ = some (.int .i64 e.v.frm) ∧ w.cell? ⟨g, k * 14 + 2, none⟩ = some (.int .i64 e.v.dst) ∧ w.cell? ⟨g, k * 14 + 3, none⟩ = some (.int .i64 e.v.tm) ∧ w.cell? ⟨g, k * 14 + 4, none⟩ = some (.int .i64 e.v.ix) ∧ w.cell? ⟨g, k * 14 + 5, none⟩ = some (.int .i64 e.v.lt) ∧ w.cell? ⟨g, k * 14 + 6, none⟩ = some (.int .i64 e.v.cm) ∧ w.cell? ⟨g, k * 14 + 7, none⟩ = some (.int .i64 e.v.rd) ∧ w.cell? ⟨g, k * 14 + 8, none⟩ = some (.bool e.v.ok) ∧ w.cell? ⟨g, k * 14 + 9, none⟩ = some (.bool e.v.dn) ∧ w.cell? ⟨g, k * 14 + 10, none⟩ = some (.slice e.eo e.en e.ec) ∧ w.cell? ⟨g, k * 14 + 11, none⟩ = some (.slice e.mo e.mn e.mc) ∧ w.cell? ⟨g, k * 14 + 12, none⟩ = some (.int .i64 e.v.off) ∧ w.cell? ⟨g, k * 14 + 13, none⟩ = some (.slice e.po e.pn e.pc)) := fun xo q l hl h => Lib.hid (fun k hk => by
    obtain ⟨ao', c', hv, _, _, _, h3⟩ := h
    injection hv with hv _ _
    subst hv
    obtain ⟨g, hg, hlt, hc⟩ := h3 (by omega)
    have hkl : k < l.length := by omega
    exact ⟨g, l[k], hg, hlt, List.getElem?_eq_getElem hkl, hc _ _ (by rw [show k * 14 = k * 14 + 0 from rfl, cellsM_get _ k 0 (by omega), List.getElem?_eq_getElem hkl]; rfl), hc _ _ (by rw [cellsM_get _ k 1 (by omega), List.getElem?_eq_getElem hkl]; rfl), hc _ _ (by rw [cellsM_get _ k 2 (by omega), List.getElem?_eq_getElem hkl]; rfl), hc _ _ (by rw [cellsM_get _ k 3 (by omega), List.getElem?_eq_getElem hkl]; rfl), hc _ _ (by rw [cellsM_get _ k 4 (by omega), List.getElem?_eq_getElem hkl]; rfl), hc _ _ (by rw [cellsM_get _ k 5 (by omega), List.getElem?_eq_getElem hkl]; rfl), hc _ _ (by rw [cellsM_get _ k 6 (by omega), List.getElem?_eq_getElem hkl]; rfl), hc _ _ (by rw [cellsM_get _ k 7 (by omega), List.getElem?_eq_getElem hkl]; rfl), hc _ _ (by rw [cellsM_get _ k 8 (by omega), List.getElem?_eq_getElem hkl]; rfl), hc _ _ (by rw [cellsM_get _ k 9 (by omega), List.getElem?_eq_getElem hkl]; rfl), hc _ _ (by rw [cellsM_get _ k 10 (by omega), List.getElem?_eq_getElem hkl]; rfl), hc _ _ (by rw [cellsM_get _ k 11 (by omega), List.getElem?_eq_getElem hkl]; rfl), hc _ _ (by rw [cellsM_get _ k 12 (by omega), List.getElem?_eq_getElem hkl]; rfl), hc _ _ (by rw [cellsM_get _ k 13 (by omega), List.getElem?_eq_getElem hkl]; rfl)⟩)
  have HA := HG _ _ _ hla ha
  have HB := HG _ _ _ hlb hb
  have HS : Hid (∀ (W : World) (k : Nat) (x y : MsgR), Below w.heap.size w W → la[k]? = some x → lb[k]? = some y → Calls Tryz.prog 88 #[x.agg, y.agg] W fun e w' => e = .returned (.bool true) ∧ Below W.heap.size W w') := Lib.hid (fun W k x y hW hx hy => by
    obtain ⟨h1, h2, h3⟩ := hda x (List.mem_of_getElem? hx)
    exact rsameMsg_yes (h1.below hW) ((hdb y (List.mem_of_getElem? hy)).below hW) (hv k x y hx hy) h2 h3)
  clear ha hb HG hla hlb hda hdb hv
  go_enter Tryz.func217, Tryz.ntmps217
  go_wp2_with fail
  go_loopw [5] (fun i wr => ∃ k : Nat, k ≤ n ∧ i = .int .i64 k ∧ Hid (Below w.heap.size w wr)) (fun i _ => n - (intOf i).toNat)
  case atStart => exact ⟨0, Nat.zero_le _, rfl, Lib.hid (Below.refl _ _)⟩
  case round =>
    obtain ⟨k, hk, rfl, HBl⟩ := hrel
    by_cases hlt : k < n
    · obtain ⟨g, e, rfl, hgB, hek, q0, q1, q2, q3, q4, q5, q6, q7, q8, q9, q10, q11, q12, q13⟩ := HA.out k hlt
      obtain ⟨g', e', rfl, hgB', hek', r0, r1, r2, r3, r4, r5, r6, r7, r8, r9, r10, r11, r12, r13⟩ := HB.out k hlt
      have hx1 : (0 : Int) ≤ k := by omega
      have hx2 : (k : Int) < n := by omega
      have HC := Lib.hid (fun W hW => HS.out W k e e' hW hek hek')
      unfold MsgR.agg at HC
      have HBd : Hid (∀ p : SinceW wr.heap.size wr, Below w.heap.size w p.w) := Lib.hid (fun p => HBl.out.trans (p.h.mono HBl.out.size))
      have p0 : ∀ p : SinceW wr.heap.size wr, p.w.cell? ⟨g, k * 14, none⟩ = some (.int .i64 e.v.kd) := fun p => ((HBd.out p).cell (p := ⟨g, k * 14, none⟩) hgB).trans q0
      have p1 : ∀ p : SinceW wr.heap.size wr, p.w.cell? ⟨g, k * 14 + 1, none⟩ = some (.int .i64 e.v.frm) := fun p => ((HBd.out p).cell (p := ⟨g, k * 14 + 1, none⟩) hgB).trans q1
      have p2 : ∀ p : SinceW wr.heap.size wr, p.w.cell? ⟨g, k * 14 + 2, none⟩ = some (.int .i64 e.v.dst) := fun p => ((HBd.out p).cell (p := ⟨g, k * 14 + 2, none⟩) hgB).trans q2
      have p3 : ∀ p : SinceW wr.heap.size wr, p.w.cell? ⟨g, k * 14 + 3, none⟩ = some (.int .i64 e.v.tm) := fun p => ((HBd.out p).cell (p := ⟨g, k * 14 + 3, none⟩) hgB).trans q3
      have p4 : ∀ p : SinceW wr.heap.size wr, p.w.cell? ⟨g, k * 14 + 4, none⟩ = some (.int .i64 e.v.ix) := fun p => ((HBd.out p).cell (p := ⟨g, k * 14 + 4, none⟩) hgB).trans q4
      have p5 : ∀ p : SinceW wr.heap.size wr, p.w.cell? ⟨g, k * 14 + 5, none⟩ = some (.int .i64 e.v.lt) := fun p => ((HBd.out p).cell (p := ⟨g, k * 14 + 5, none⟩) hgB).trans q5
      have p6 : ∀ p : SinceW wr.heap.size wr, p.w.cell? ⟨g, k * 14 + 6, none⟩ = some (.int .i64 e.v.cm) := fun p => ((HBd.out p).cell (p := ⟨g, k * 14 + 6, none⟩) hgB).trans q6
      have p7 : ∀ p : SinceW wr.heap.size wr, p.w.cell? ⟨g, k * 14 + 7, none⟩ = some (.int .i64 e.v.rd) := fun p => ((HBd.out p).cell (p := ⟨g, k * 14 + 7, none⟩) hgB).trans q7
      have p8 : ∀ p : SinceW wr.heap.size wr, p.w.cell? ⟨g, k * 14 + 8, none⟩ = some (.bool e.v.ok) := fun p => ((HBd.out p).cell (p := ⟨g, k * 14 + 8, none⟩) hgB).trans q8
      have p9 : ∀ p : SinceW wr.heap.size wr, p.w.cell? ⟨g, k * 14 + 9, none⟩ = some (.bool e.v.dn) := fun p => ((HBd.out p).cell (p := ⟨g, k * 14 + 9, none⟩) hgB).trans q9
      have p10 : ∀ p : SinceW wr.heap.size wr, p.w.cell? ⟨g, k * 14 + 10, none⟩ = some (.slice e.eo e.en e.ec) := fun p => ((HBd.out p).cell (p := ⟨g, k * 14 + 10, none⟩) hgB).trans q10
      have p11 : ∀ p : SinceW wr.heap.size wr, p.w.cell? ⟨g, k * 14 + 11, none⟩ = some (.slice e.mo e.mn e.mc) := fun p => ((HBd.out p).cell (p := ⟨g, k * 14 + 11, none⟩) hgB).trans q11
      have p12 : ∀ p : SinceW wr.heap.size wr, p.w.cell? ⟨g, k * 14 + 12, none⟩ = some (.int .i64 e.v.off) := fun p => ((HBd.out p).cell (p := ⟨g, k * 14 + 12, none⟩) hgB).trans q12
      have p13 : ∀ p : SinceW wr.heap.size wr, p.w.cell? ⟨g, k * 14 + 13, none⟩ = some (.slice e.po e.pn e.pc) := fun p => ((HBd.out p).cell (p := ⟨g, k * 14 + 13, none⟩) hgB).trans q13
      have s0 : ∀ p : SinceW wr.heap.size wr, p.w.cell? ⟨g', k * 14, none⟩ = some (.int .i64 e'.v.kd) := fun p => ((HBd.out p).cell (p := ⟨g', k * 14, none⟩) hgB').trans r0
      have s1 : ∀ p : SinceW wr.heap.size wr, p.w.cell? ⟨g', k * 14 + 1, none⟩ = some (.int .i64 e'.v.frm) := fun p => ((HBd.out p).cell (p := ⟨g', k * 14 + 1, none⟩) hgB').trans r1
      have s2 : ∀ p : SinceW wr.heap.size wr, p.w.cell? ⟨g', k * 14 + 2, none⟩ = some (.int .i64 e'.v.dst) := fun p => ((HBd.out p).cell (p := ⟨g', k * 14 + 2, none⟩) hgB').trans r2
      have s3 : ∀ p : SinceW wr.heap.size wr, p.w.cell? ⟨g', k * 14 + 3, none⟩ = some (.int .i64 e'.v.tm) := fun p => ((HBd.out p).cell (p := ⟨g', k * 14 + 3, none⟩) hgB').trans r3
      have s4 : ∀ p : SinceW wr.heap.size wr, p.w.cell? ⟨g', k * 14 + 4, none⟩ = some (.int .i64 e'.v.ix) := fun p => ((HBd.out p).cell (p := ⟨g', k * 14 + 4, none⟩) hgB').trans r4
      have s5 : ∀ p : SinceW wr.heap.size wr, p.w.cell? ⟨g', k * 14 + 5, none⟩ = some (.int .i64 e'.v.lt) := fun p => ((HBd.out p).cell (p := ⟨g', k * 14 + 5, none⟩) hgB').trans r5
      have s6 : ∀ p : SinceW wr.heap.size wr, p.w.cell? ⟨g', k * 14 + 6, none⟩ = some (.int .i64 e'.v.cm) := fun p => ((HBd.out p).cell (p := ⟨g', k * 14 + 6, none⟩) hgB').trans r6
      have s7 : ∀ p : SinceW wr.heap.size wr, p.w.cell? ⟨g', k * 14 + 7, none⟩ = some (.int .i64 e'.v.rd) := fun p => ((HBd.out p).cell (p := ⟨g', k * 14 + 7, none⟩) hgB').trans r7
      have s8 : ∀ p : SinceW wr.heap.size wr, p.w.cell? ⟨g', k * 14 + 8, none⟩ = some (.bool e'.v.ok) := fun p => ((HBd.out p).cell (p := ⟨g', k * 14 + 8, none⟩) hgB').trans r8
      have s9 : ∀ p : SinceW wr.heap.size wr, p.w.cell? ⟨g', k * 14 + 9, none⟩ = some (.bool e'.v.dn) := fun p => ((HBd.out p).cell (p := ⟨g', k * 14 + 9, none⟩) hgB').trans r9
      have s10 : ∀ p : SinceW wr.heap.size wr, p.w.cell? ⟨g', k * 14 + 10, none⟩ = some (.slice e'.eo e'.en e'.ec) := fun p => ((HBd.out p).cell (p := ⟨g', k * 14 + 10, none⟩) hgB').trans r10
      have s11 : ∀ p : SinceW wr.heap.size wr, p.w.cell? ⟨g', k * 14 + 11, none⟩ = some (.slice e'.mo e'.mn e'.mc) := fun p => ((HBd.out p).cell (p := ⟨g', k * 14 + 11, none⟩) hgB').trans r11
      have s12 : ∀ p : SinceW wr.heap.size wr, p.w.cell? ⟨g', k * 14 + 12, none⟩ = some (.int .i64 e'.v.off) := fun p => ((HBd.out p).cell (p := ⟨g', k * 14 + 12, none⟩) hgB').trans r12
      have s13 : ∀ p : SinceW wr.heap.size wr, p.w.cell? ⟨g', k * 14 + 13, none⟩ = some (.slice e'.po e'.pn e'.pc) := fun p => ((HBd.out p).cell (p := ⟨g', k * 14 + 13, none⟩) hgB').trans r13
      clear hek hek' HS q0 q1 q2 q3 q4 q5 q6 q7 q8 q9 q10 q11 q12 q13 r0 r1 r2 r3 r4 r5 r6 r7 r8 r9 r10 r11 r12 r13
      go_wp2_with fail
      refine wp_region_since (B := wr.heap.size) (W0 := wr) (by kernel_rfl) (by kernel_rfl) (Below.refl _ _) ?_
      repeat (go_big_quiet_step ((go_at_call 88; exact since_call (Nat.le_refl _) (HC.out _ (HBd.out _)))))
      refine wpQuiet_nil ?_
      intro _ hw'
      obtain ⟨⟨w5, hv5⟩, rfl⟩ := hw'
      have HB5 := Lib.hid (HBl.out.trans (hv5.mono HBl.out.size))
      clear p0 s0 p1 s1 p2 s2 p3 s3 p4 s4 p5 s5 p6 s6 p7 s7 p8 s8 p9 s9 p10 s10 p11 s11 p12 s12 p13 s13 hv5
      go_wp2_with fail
      go_roundw
      case rel => exact ⟨k + 1, by omega, by go_num, HB5⟩
      case measure => simp [intOf]; omega
    · obtain rfl : k = n := by omega
      go_wp2_with fail
      go_ret
      exact ⟨rfl, HBl.out⟩
theorem bkSameM {w : World} {ao bo : Option Addr} {n c d i : Nat} (ha : Reads w (.slice ao n c) n (encM ((List.range n).map (mkM i)))) (hb : Reads w (.slice bo n d) n (encM ((List.range n).map (mkM i)))) (hi : i ≤ 1000) (hn : n ≤ 1000000) :
    Calls Tryz.prog 217 #[.slice ao n c, .slice bo n d] w fun e w' => e = .returned (.bool true) ∧ Below w.heap.size w w' := by
  have hm : ∀ m ∈ ((List.range n).map (mkM i)).map Prod.fst, ∃ k, k < n ∧ m = markM i k := by
    intro m hm
    rw [List.map_map] at hm
    obtain ⟨k, hk, rfl⟩ := List.mem_map.1 hm
    exact ⟨k, by simpa using hk, rfl⟩
  refine bkSameMs ha hb (by simp) (by simp) hn (fun m hq => ?_) (fun m hq => ?_) (fun k x y hx hy => by rw [hx] at hy; injection hy with hy; rw [hy])
  · obtain ⟨k, hk, rfl⟩ := hm m hq
    exact ⟨markM_at _ _ _, markM_ok hi (by omega), markM_sm _ _⟩
  · obtain ⟨k, hk, rfl⟩ := hm m hq
    exact markM_at _ _ _
end
/-! ### The walks of a Book's lists of one kind: Msgs (printed by wip/gen_bkm.py), on. -/
section
open Go.RowKit
set_option linter.unusedVariables false
set_option linter.unusedSimpArgs false
theorem bkcellsM_set : ∀ (l : List MsgR) (k : Nat) (x : MsgR), k < l.length → ((((((((((((((cellsM l).set (k * 14) (.int .i64 x.v.kd)).set (k * 14 + 1) (.int .i64 x.v.frm)).set (k * 14 + 2) (.int .i64 x.v.dst)).set (k * 14 + 3) (.int .i64 x.v.tm)).set (k * 14 + 4) (.int .i64 x.v.ix)).set (k * 14 + 5) (.int .i64 x.v.lt)).set (k * 14 + 6) (.int .i64 x.v.cm)).set (k * 14 + 7) (.int .i64 x.v.rd)).set (k * 14 + 8) (.bool x.v.ok)).set (k * 14 + 9) (.bool x.v.dn)).set (k * 14 + 10) (.slice x.eo x.en x.ec)).set (k * 14 + 11) (.slice x.mo x.mn x.mc)).set (k * 14 + 12) (.int .i64 x.v.off)).set (k * 14 + 13) (.slice x.po x.pn x.pc) = cellsM (l.set k x) := by
  intro l
  induction l with
  | nil => intro k x h; simp at h
  | cons y l ih =>
    intro k x h
    have e0 : ∀ (z : MsgR) (r : List MsgR), cellsM (z :: r) = [.int .i64 z.v.kd, .int .i64 z.v.frm, .int .i64 z.v.dst, .int .i64 z.v.tm, .int .i64 z.v.ix, .int .i64 z.v.lt, .int .i64 z.v.cm, .int .i64 z.v.rd, .bool z.v.ok, .bool z.v.dn, .slice z.eo z.en z.ec, .slice z.mo z.mn z.mc, .int .i64 z.v.off, .slice z.po z.pn z.pc] ++ cellsM r := fun z r => rfl
    cases k with
    | zero => rw [e0]; simp only [Nat.zero_mul, Nat.zero_add, List.cons_append, List.nil_append, List.set_cons_zero, List.set_cons_succ]; rw [e0]; rfl
    | succ k =>
      rw [e0]
      simp only [List.set_cons_succ]
      rw [e0, ← ih k x (by simpa using h)]
      rw [show (k + 1) * 14 + 13 = k * 14 + 13 + 1 + 1 + 1 + 1 + 1 + 1 + 1 + 1 + 1 + 1 + 1 + 1 + 1 + 1 from by omega]
      rw [show (k + 1) * 14 + 12 = k * 14 + 12 + 1 + 1 + 1 + 1 + 1 + 1 + 1 + 1 + 1 + 1 + 1 + 1 + 1 + 1 from by omega]
      rw [show (k + 1) * 14 + 11 = k * 14 + 11 + 1 + 1 + 1 + 1 + 1 + 1 + 1 + 1 + 1 + 1 + 1 + 1 + 1 + 1 from by omega]
      rw [show (k + 1) * 14 + 10 = k * 14 + 10 + 1 + 1 + 1 + 1 + 1 + 1 + 1 + 1 + 1 + 1 + 1 + 1 + 1 + 1 from by omega]
      rw [show (k + 1) * 14 + 9 = k * 14 + 9 + 1 + 1 + 1 + 1 + 1 + 1 + 1 + 1 + 1 + 1 + 1 + 1 + 1 + 1 from by omega]
      rw [show (k + 1) * 14 + 8 = k * 14 + 8 + 1 + 1 + 1 + 1 + 1 + 1 + 1 + 1 + 1 + 1 + 1 + 1 + 1 + 1 from by omega]
      rw [show (k + 1) * 14 + 7 = k * 14 + 7 + 1 + 1 + 1 + 1 + 1 + 1 + 1 + 1 + 1 + 1 + 1 + 1 + 1 + 1 from by omega]
      rw [show (k + 1) * 14 + 6 = k * 14 + 6 + 1 + 1 + 1 + 1 + 1 + 1 + 1 + 1 + 1 + 1 + 1 + 1 + 1 + 1 from by omega]
      rw [show (k + 1) * 14 + 5 = k * 14 + 5 + 1 + 1 + 1 + 1 + 1 + 1 + 1 + 1 + 1 + 1 + 1 + 1 + 1 + 1 from by omega]
      rw [show (k + 1) * 14 + 4 = k * 14 + 4 + 1 + 1 + 1 + 1 + 1 + 1 + 1 + 1 + 1 + 1 + 1 + 1 + 1 + 1 from by omega]
      rw [show (k + 1) * 14 + 3 = k * 14 + 3 + 1 + 1 + 1 + 1 + 1 + 1 + 1 + 1 + 1 + 1 + 1 + 1 + 1 + 1 from by omega]
      rw [show (k + 1) * 14 + 2 = k * 14 + 2 + 1 + 1 + 1 + 1 + 1 + 1 + 1 + 1 + 1 + 1 + 1 + 1 + 1 + 1 from by omega]
      rw [show (k + 1) * 14 + 1 = k * 14 + 1 + 1 + 1 + 1 + 1 + 1 + 1 + 1 + 1 + 1 + 1 + 1 + 1 + 1 + 1 from by omega]
      rw [show (k + 1) * 14 = k * 14 + 1 + 1 + 1 + 1 + 1 + 1 + 1 + 1 + 1 + 1 + 1 + 1 + 1 + 1 from by omega]
      simp only [List.cons_append, List.nil_append, List.set_cons_succ]
theorem bkencM_set (l : List MM) (k : Nat) (x : MM) (h : k < l.length) : ((((((((((((((encM l).set (k * 14) (.int .i64 x.1.v.kd)).set (k * 14 + 1) (.int .i64 x.1.v.frm)).set (k * 14 + 2) (.int .i64 x.1.v.dst)).set (k * 14 + 3) (.int .i64 x.1.v.tm)).set (k * 14 + 4) (.int .i64 x.1.v.ix)).set (k * 14 + 5) (.int .i64 x.1.v.lt)).set (k * 14 + 6) (.int .i64 x.1.v.cm)).set (k * 14 + 7) (.int .i64 x.1.v.rd)).set (k * 14 + 8) (.bool x.1.v.ok)).set (k * 14 + 9) (.bool x.1.v.dn)).set (k * 14 + 10) (.slice x.1.eo x.1.en x.1.ec)).set (k * 14 + 11) (.slice x.1.mo x.1.mn x.1.mc)).set (k * 14 + 12) (.int .i64 x.1.v.off)).set (k * 14 + 13) (.slice x.1.po x.1.pn x.1.pc) = encM (l.set k x) := by
  unfold encM
  rw [bkcellsM_set (l.map Prod.fst) k x.1 (by rw [List.length_map]; exact h), List.map_set]
set_option maxRecDepth 20000 in
set_option maxHeartbeats 2000000 in
theorem bputM_any {w : World} {B bn : Nat} {o : Nat → Tag} {cs : Array Value} {ov wv : Value} {rows : List (KRow MM)} (hB : BookAt w B 39 o bn cs) (hc : cs[12]? = some ov) (hK : KeptM w B o 6 127 118 14 encM ov wv rows) :
    Calls Tryz.prog 143 #[.pointer (some ⟨bn, 0, none⟩)] w fun e w' => e = .returned (.tuple #[]) ∧ Turn o (fun t => t.1 = 6 ∧ t.2.1 = 2) w w' ∧ Marked w' B o 6 127 118 14 encM mkM ov (rows.map (fun r => (r.v, r.l.length))) := by
  have HK := Lib.hid hK
  have HB := Lib.hid hB
  have hbn : o bn = (99, 0, 0) := hB.2.2.2
  have hbl : bn < w.heap.size := blk_lt hB.1
  have hbc : Hid (∀ W, Turn o (fun t => t.1 = 6 ∧ t.2.1 = 2) w W → W.cell? ⟨bn, 12, none⟩ = some ov) := Lib.hid (fun W hT => by
    rw [blk_cell ((hT.block bn hbl (by rw [hbn]; simp)).trans hB.1)]; exact hc)
  obtain ⟨oa, oc, hov, hoc, _⟩ := own_shape hK.out
  subst hov
  have hN : rows.length ≤ 1000 := hK.few
  have hout : Hid (∀ W, Turn o (fun t => t.1 = 6 ∧ t.2.1 = 2) w W → ∀ i r, rows[i]? = some r → ∃ g, oa = some ⟨g, 0, none⟩ ∧ W.cell? ⟨g, i, none⟩ = some r.v) := Lib.hid (fun W hT i r hr => by
    have hi : i < rows.length := (List.getElem?_eq_some_iff.1 hr).1
    have h := own_turn hK.out hK.tout hT (by simp)
    obtain ⟨g, c', hv, _, _⟩ := h.form (by omega)
    injection hv with hv _ _
    subst hv
    exact ⟨g, rfl, by rw [h.cellAt i (by omega), List.getElem?_map, hr]; rfl⟩)
  have hfin : Hid (∀ W, Turn o (fun t => t.1 = 6 ∧ t.2.1 = 2) w W → PutAt w B 118 14 encM mkM rows rows.length W → Marked W B o 6 127 118 14 encM mkM (.slice oa rows.length oc) (rows.map (fun r => (r.v, r.l.length)))) := Lib.hid (fun W hT hP =>
    ⟨by simpa using hN, by simpa using hK.short, by rw [List.map_map, List.length_map]; exact own_turn hK.out hK.tout hT (by simp), hK.tout.more hK.out _, fun i r hr => by
      rw [List.getElem?_map] at hr
      cases hq : rows[i]? with
      | none => rw [hq] at hr; cases hr
      | some q =>
        rw [hq] at hr
        injection hr with hr
        subst hr
        have h := hP i q hq
        rw [if_pos (List.getElem?_eq_some_iff.1 hq).1] at h
        exact ⟨h, (hK.row i q hq).2.2.1.more (hK.row i q hq).1 _⟩⟩)
  clear hbn hbl hc hoc hB hK
  go_enter Tryz.func143, Tryz.ntmps143
  go_wp2_with fail
  go_loopw [2] (fun x wr => ∃ i : Nat, i ≤ rows.length ∧ x = .int .i64 i ∧ Hid (Turn o (fun t => t.1 = 6 ∧ t.2.1 = 2) w wr) ∧ Hid (PutAt w B 118 14 encM mkM rows i wr)) (fun x _ => rows.length - (intOf x).toNat)
  case atStart => exact ⟨0, Nat.zero_le _, rfl, Lib.hid (Turn.refl _ _ _), Lib.hid (fun i' r hr => (HK.out.row i' r hr).1)⟩
  case round =>
    obtain ⟨i, hi, rfl, HT, HP⟩ := hrel
    rename World => wA
    have c0 := hbc.out wA HT.out
    by_cases hlt : i < rows.length
    · obtain ⟨r, hr⟩ : ∃ r, rows[i]? = some r := ⟨_, List.getElem?_eq_getElem hlt⟩
      obtain ⟨go, rfl, c1⟩ := hout.out wA HT.out i r hr
      have hrow := HK.out.row i r hr
      have hown := HP.out i r hr
      rw [if_neg (Nat.lt_irrefl _)] at hown
      obtain ⟨ra, rc, hrv, hrc, _⟩ := own_shape hown
      have hshort : r.l.length ≤ 100000 := HK.out.short r (List.mem_of_getElem? hr)
      have HOwn := Lib.hid hown
      have HR := Lib.hid hr
      have HRow := Lib.hid hrow
      obtain ⟨n, hn⟩ : ∃ n, n = r.l.length := ⟨_, rfl⟩
      rw [hrv] at c1
      rw [← hn] at hrv hrc hshort c1
      have HRv := Lib.hid hrv
      have HN := Lib.hid hn
      have hx1 : (i : Int) < rows.length := by omega
      have hx2 : (0 : Int) ≤ i := by omega
      clear hr hrow hown hrv hn
      go_wp2_with fail
      refine (markM_any i 0 n wA (by omega) (by omega)).mono ?_
      rintro e w1 ⟨ma, mc, rfl, hm, hb1⟩
      have HT1 := Lib.hid (HT.out.below hb1)
      have c0 := hbc.out w1 HT1.out
      obtain ⟨_, e1, c1⟩ := hout.out w1 HT1.out i r HR.out
      injection e1 with e1
      injection e1 with e1
      subst e1
      rw [HRv.out] at c1
      have HM := Lib.hid hm
      have HO1 := Lib.hid (own_below HOwn.out hb1)
      have HB1 := Lib.hid hb1
      clear hb1 hm
      go_wp2_with fail
      go_loopw [4] (fun x wq => ∃ k : Nat, k ≤ n ∧ x = .int .i64 k ∧ Hid (w1.grownBy wq r.v.ownBlock) ∧ Hid (wq.ownsRow B 118 14 r.v r.l.length (encM (mix mkM i r.l k)))) (fun x _ => n - (intOf x).toNat)
      case atStart => exact ⟨0, Nat.zero_le _, rfl, Lib.hid (grown_refl _ _), Lib.hid (by rw [mix_zero]; exact HO1.out)⟩
      case round =>
        obtain ⟨k, hk, rfl, HG, HOk⟩ := hrel
        have HT2 : Hid (Turn o (fun t => t.1 = 6 ∧ t.2.1 = 2) w wr) := Lib.hid (HT1.out.grown HG.out (fun g hg hlt => by rw [HRow.out.2.2.1 g hg hlt]; exact ⟨rfl, rfl⟩))
        have c0 := hbc.out wr HT2.out
        obtain ⟨_, e1, c1⟩ := hout.out wr HT2.out i r HR.out
        injection e1 with e1
        injection e1 with e1
        subst e1
        by_cases hkl : k < n
        · obtain ⟨g, c', hv, hBg, hglt⟩ := HOk.out.form (by rw [← HN.out]; omega)
          have hgw : g < w.heap.size := (HRow.out.1.lt g (by rw [hv]; rfl)).2
          obtain ⟨gm, cm, hmv, hmB, _⟩ := HM.out.form (by omega)
          injection hmv with hmv _ hmc
          subst hmv
          subst hmc
          have hm2 : wr.ownsRow wA.heap.size 118 14 (.slice (some ⟨gm, 0, none⟩) n mc) n (encM ((List.range n).map (fun k => mkM i (0 + k)))) := HM.out.kept HG.out (.inr (by
            rw [hv]
            have := HT.out.size
            simp [Value.ownBlock]
            omega))
          have c20 : wr.cell? ⟨gm, k * 14, none⟩ = some (.int .i64 (mkM i k).1.v.kd) := by
            rw [hm2.cellAt (k * 14) (by omega), show k * 14 = k * 14 + 0 from rfl, encM_get _ k 0 (by omega)]
            simp [hkl, MsgR.cells]
          have c21 : wr.cell? ⟨gm, k * 14 + 1, none⟩ = some (.int .i64 (mkM i k).1.v.frm) := by
            rw [hm2.cellAt (k * 14 + 1) (by omega), encM_get _ k 1 (by omega)]
            simp [hkl, MsgR.cells]
          have c22 : wr.cell? ⟨gm, k * 14 + 2, none⟩ = some (.int .i64 (mkM i k).1.v.dst) := by
            rw [hm2.cellAt (k * 14 + 2) (by omega), encM_get _ k 2 (by omega)]
            simp [hkl, MsgR.cells]
          have c23 : wr.cell? ⟨gm, k * 14 + 3, none⟩ = some (.int .i64 (mkM i k).1.v.tm) := by
            rw [hm2.cellAt (k * 14 + 3) (by omega), encM_get _ k 3 (by omega)]
            simp [hkl, MsgR.cells]
          have c24 : wr.cell? ⟨gm, k * 14 + 4, none⟩ = some (.int .i64 (mkM i k).1.v.ix) := by
            rw [hm2.cellAt (k * 14 + 4) (by omega), encM_get _ k 4 (by omega)]
            simp [hkl, MsgR.cells]
          have c25 : wr.cell? ⟨gm, k * 14 + 5, none⟩ = some (.int .i64 (mkM i k).1.v.lt) := by
            rw [hm2.cellAt (k * 14 + 5) (by omega), encM_get _ k 5 (by omega)]
            simp [hkl, MsgR.cells]
          have c26 : wr.cell? ⟨gm, k * 14 + 6, none⟩ = some (.int .i64 (mkM i k).1.v.cm) := by
            rw [hm2.cellAt (k * 14 + 6) (by omega), encM_get _ k 6 (by omega)]
            simp [hkl, MsgR.cells]
          have c27 : wr.cell? ⟨gm, k * 14 + 7, none⟩ = some (.int .i64 (mkM i k).1.v.rd) := by
            rw [hm2.cellAt (k * 14 + 7) (by omega), encM_get _ k 7 (by omega)]
            simp [hkl, MsgR.cells]
          have c28 : wr.cell? ⟨gm, k * 14 + 8, none⟩ = some (.bool (mkM i k).1.v.ok) := by
            rw [hm2.cellAt (k * 14 + 8) (by omega), encM_get _ k 8 (by omega)]
            simp [hkl, MsgR.cells]
          have c29 : wr.cell? ⟨gm, k * 14 + 9, none⟩ = some (.bool (mkM i k).1.v.dn) := by
            rw [hm2.cellAt (k * 14 + 9) (by omega), encM_get _ k 9 (by omega)]
            simp [hkl, MsgR.cells]
          have c210 : wr.cell? ⟨gm, k * 14 + 10, none⟩ = some (.slice (mkM i k).1.eo (mkM i k).1.en (mkM i k).1.ec) := by
            rw [hm2.cellAt (k * 14 + 10) (by omega), encM_get _ k 10 (by omega)]
            simp [hkl, MsgR.cells]
          have c211 : wr.cell? ⟨gm, k * 14 + 11, none⟩ = some (.slice (mkM i k).1.mo (mkM i k).1.mn (mkM i k).1.mc) := by
            rw [hm2.cellAt (k * 14 + 11) (by omega), encM_get _ k 11 (by omega)]
            simp [hkl, MsgR.cells]
          have c212 : wr.cell? ⟨gm, k * 14 + 12, none⟩ = some (.int .i64 (mkM i k).1.v.off) := by
            rw [hm2.cellAt (k * 14 + 12) (by omega), encM_get _ k 12 (by omega)]
            simp [hkl, MsgR.cells]
          have c213 : wr.cell? ⟨gm, k * 14 + 13, none⟩ = some (.slice (mkM i k).1.po (mkM i k).1.pn (mkM i k).1.pc) := by
            rw [hm2.cellAt (k * 14 + 13) (by omega), encM_get _ k 13 (by omega)]
            simp [hkl, MsgR.cells]
          have hO2 := HOk.out
          rw [hv] at hO2 c1
          have hlen : (encM (mix mkM i r.l k)).length = n * 14 := by rw [encM_len, mix_len _ _ _ _ (by rw [← HN.out]; omega), ← HN.out]
          obtain ⟨u30, c30⟩ : ∃ u, wr.cell? ⟨g, k * 14, none⟩ = some u := by
            rw [hO2.cellAt (k * 14) (by rw [← HN.out]; omega)]
            exact ⟨_, List.getElem?_eq_getElem (by omega)⟩
          have f30 : wr.frozen? ⟨g, k * 14, none⟩ = false := hO2.frozenAt (k * 14)
          obtain ⟨u31, c31⟩ : ∃ u, wr.cell? ⟨g, k * 14 + 1, none⟩ = some u := by
            rw [hO2.cellAt (k * 14 + 1) (by rw [← HN.out]; omega)]
            exact ⟨_, List.getElem?_eq_getElem (by omega)⟩
          have f31 : wr.frozen? ⟨g, k * 14 + 1, none⟩ = false := hO2.frozenAt (k * 14 + 1)
          obtain ⟨u32, c32⟩ : ∃ u, wr.cell? ⟨g, k * 14 + 2, none⟩ = some u := by
            rw [hO2.cellAt (k * 14 + 2) (by rw [← HN.out]; omega)]
            exact ⟨_, List.getElem?_eq_getElem (by omega)⟩
          have f32 : wr.frozen? ⟨g, k * 14 + 2, none⟩ = false := hO2.frozenAt (k * 14 + 2)
          obtain ⟨u33, c33⟩ : ∃ u, wr.cell? ⟨g, k * 14 + 3, none⟩ = some u := by
            rw [hO2.cellAt (k * 14 + 3) (by rw [← HN.out]; omega)]
            exact ⟨_, List.getElem?_eq_getElem (by omega)⟩
          have f33 : wr.frozen? ⟨g, k * 14 + 3, none⟩ = false := hO2.frozenAt (k * 14 + 3)
          obtain ⟨u34, c34⟩ : ∃ u, wr.cell? ⟨g, k * 14 + 4, none⟩ = some u := by
            rw [hO2.cellAt (k * 14 + 4) (by rw [← HN.out]; omega)]
            exact ⟨_, List.getElem?_eq_getElem (by omega)⟩
          have f34 : wr.frozen? ⟨g, k * 14 + 4, none⟩ = false := hO2.frozenAt (k * 14 + 4)
          obtain ⟨u35, c35⟩ : ∃ u, wr.cell? ⟨g, k * 14 + 5, none⟩ = some u := by
            rw [hO2.cellAt (k * 14 + 5) (by rw [← HN.out]; omega)]
            exact ⟨_, List.getElem?_eq_getElem (by omega)⟩
          have f35 : wr.frozen? ⟨g, k * 14 + 5, none⟩ = false := hO2.frozenAt (k * 14 + 5)
          obtain ⟨u36, c36⟩ : ∃ u, wr.cell? ⟨g, k * 14 + 6, none⟩ = some u := by
            rw [hO2.cellAt (k * 14 + 6) (by rw [← HN.out]; omega)]
            exact ⟨_, List.getElem?_eq_getElem (by omega)⟩
          have f36 : wr.frozen? ⟨g, k * 14 + 6, none⟩ = false := hO2.frozenAt (k * 14 + 6)
          obtain ⟨u37, c37⟩ : ∃ u, wr.cell? ⟨g, k * 14 + 7, none⟩ = some u := by
            rw [hO2.cellAt (k * 14 + 7) (by rw [← HN.out]; omega)]
            exact ⟨_, List.getElem?_eq_getElem (by omega)⟩
          have f37 : wr.frozen? ⟨g, k * 14 + 7, none⟩ = false := hO2.frozenAt (k * 14 + 7)
          obtain ⟨u38, c38⟩ : ∃ u, wr.cell? ⟨g, k * 14 + 8, none⟩ = some u := by
            rw [hO2.cellAt (k * 14 + 8) (by rw [← HN.out]; omega)]
            exact ⟨_, List.getElem?_eq_getElem (by omega)⟩
          have f38 : wr.frozen? ⟨g, k * 14 + 8, none⟩ = false := hO2.frozenAt (k * 14 + 8)
          obtain ⟨u39, c39⟩ : ∃ u, wr.cell? ⟨g, k * 14 + 9, none⟩ = some u := by
            rw [hO2.cellAt (k * 14 + 9) (by rw [← HN.out]; omega)]
            exact ⟨_, List.getElem?_eq_getElem (by omega)⟩
          have f39 : wr.frozen? ⟨g, k * 14 + 9, none⟩ = false := hO2.frozenAt (k * 14 + 9)
          obtain ⟨u310, c310⟩ : ∃ u, wr.cell? ⟨g, k * 14 + 10, none⟩ = some u := by
            rw [hO2.cellAt (k * 14 + 10) (by rw [← HN.out]; omega)]
            exact ⟨_, List.getElem?_eq_getElem (by omega)⟩
          have f310 : wr.frozen? ⟨g, k * 14 + 10, none⟩ = false := hO2.frozenAt (k * 14 + 10)
          obtain ⟨u311, c311⟩ : ∃ u, wr.cell? ⟨g, k * 14 + 11, none⟩ = some u := by
            rw [hO2.cellAt (k * 14 + 11) (by rw [← HN.out]; omega)]
            exact ⟨_, List.getElem?_eq_getElem (by omega)⟩
          have f311 : wr.frozen? ⟨g, k * 14 + 11, none⟩ = false := hO2.frozenAt (k * 14 + 11)
          obtain ⟨u312, c312⟩ : ∃ u, wr.cell? ⟨g, k * 14 + 12, none⟩ = some u := by
            rw [hO2.cellAt (k * 14 + 12) (by rw [← HN.out]; omega)]
            exact ⟨_, List.getElem?_eq_getElem (by omega)⟩
          have f312 : wr.frozen? ⟨g, k * 14 + 12, none⟩ = false := hO2.frozenAt (k * 14 + 12)
          obtain ⟨u313, c313⟩ : ∃ u, wr.cell? ⟨g, k * 14 + 13, none⟩ = some u := by
            rw [hO2.cellAt (k * 14 + 13) (by rw [← HN.out]; omega)]
            exact ⟨_, List.getElem?_eq_getElem (by omega)⟩
          have f313 : wr.frozen? ⟨g, k * 14 + 13, none⟩ = false := hO2.frozenAt (k * 14 + 13)
          have hst0 := hO2.stored (k * 14) (.int .i64 (mkM i k).1.v.kd)
          have hst1 := hst0.1.stored (k * 14 + 1) (.int .i64 (mkM i k).1.v.frm)
          have hst2 := hst1.1.stored (k * 14 + 2) (.int .i64 (mkM i k).1.v.dst)
          have hst3 := hst2.1.stored (k * 14 + 3) (.int .i64 (mkM i k).1.v.tm)
          have hst4 := hst3.1.stored (k * 14 + 4) (.int .i64 (mkM i k).1.v.ix)
          have hst5 := hst4.1.stored (k * 14 + 5) (.int .i64 (mkM i k).1.v.lt)
          have hst6 := hst5.1.stored (k * 14 + 6) (.int .i64 (mkM i k).1.v.cm)
          have hst7 := hst6.1.stored (k * 14 + 7) (.int .i64 (mkM i k).1.v.rd)
          have hst8 := hst7.1.stored (k * 14 + 8) (.bool (mkM i k).1.v.ok)
          have hst9 := hst8.1.stored (k * 14 + 9) (.bool (mkM i k).1.v.dn)
          have hst10 := hst9.1.stored (k * 14 + 10) (.slice (mkM i k).1.eo (mkM i k).1.en (mkM i k).1.ec)
          have hst11 := hst10.1.stored (k * 14 + 11) (.slice (mkM i k).1.mo (mkM i k).1.mn (mkM i k).1.mc)
          have hst12 := hst11.1.stored (k * 14 + 12) (.int .i64 (mkM i k).1.v.off)
          have hst13 := hst12.1.stored (k * 14 + 13) (.slice (mkM i k).1.po (mkM i k).1.pn (mkM i k).1.pc)
          rw [bkencM_set _ _ _ (by rw [mix_len _ _ _ _ (by rw [← HN.out]; omega), ← HN.out]; exact hkl), ← mix_succ mkM i r.l k (by rw [← HN.out]; exact hkl)] at hst13
          have HSt := Lib.hid hst13.1
          have HSg := Lib.hid ((((((((((((((hst0.2).trans hst1.2).trans hst2.2).trans hst3.2).trans hst4.2).trans hst5.2).trans hst6.2).trans hst7.2).trans hst8.2).trans hst9.2).trans hst10.2).trans hst11.2).trans hst12.2).trans hst13.2)
          rw [← HN.out] at c1
          have hx3 : (0 : Int) ≤ k := by omega
          have hx4 : (k : Int) < n := by omega
          have hx5 : (i : Int) < rows.length := by omega
          have HHv := Lib.hid hv
          clear hst0 hst1 hst2 hst3 hst4 hst5 hst6 hst7 hst8 hst9 hst10 hst11 hst12 hst13 hO2 hm2 hv hlen
          go_wp2_with fail
          go_region
          all_goals (
            go_wp2_with fail
            go_roundw
            case rel =>
              rw [HHv.out] at HG ⊢
              exact ⟨k + 1, by omega, by go_num, Lib.hid ((HG.out.trans HSg.out).trans (grown_drewN _ 1 _)), HSt.out.drew⟩
            case measure => simp [intOf]; omega)
        · obtain rfl : k = n := by omega
          go_wp2_with fail
          go_roundw
          case rel =>
            refine ⟨i + 1, by omega, by go_num, HT2, Lib.hid (fun i' r' hr' => ?_)⟩
            by_cases hii : i' = i
            · subst hii
              rw [HR.out] at hr'
              injection hr' with hr'
              subst hr'
              rw [if_pos (Nat.lt_succ_self _), ← mix_all]
              have := HOk.out
              rw [HN.out] at this
              exact this
            · have h1 := HP.out i' r' hr'
              have h2 := HK.out.row i' r' hr'
              have h3 := (own_below h1 HB1.out).kept HG.out (row_ne (N := w.heap.size) h2.1 h2.2.2.1 HRow.out.2.2.1 (Nat.le_refl _) (by simp; exact hii))
              rw [show (if i' < i + 1 then (List.range r'.l.length).map (mkM i') else r'.l) = (if i' < i then (List.range r'.l.length).map (mkM i') else r'.l) from by
                by_cases h : i' < i
                · rw [if_pos h, if_pos (by omega)]
                · rw [if_neg h, if_neg (by omega)]]
              exact h3
          case measure => simp [intOf]; omega
    · obtain rfl : i = rows.length := by omega
      go_wp2_with fail
      go_end0
      exact ⟨rfl, HT.out, hfin.out _ HT.out HP.out⟩
set_option maxRecDepth 20000 in
set_option maxHeartbeats 4000000 in
theorem growM_any {w : World} {B bn : Nat} {o : Nat → Tag} {cs : Array Value} {ov : Value} {rows : List (Value × Nat)} (hB : BookAt w B 39 o bn cs) (hBw : B ≤ w.heap.size) (hc : cs[12]? = some ov) (hK : Marked w B o 6 127 118 14 encM mkM ov rows) :
    Calls Tryz.prog 160 #[.pointer (some ⟨bn, 0, none⟩)] w fun e w' => ∃ gv o' grown, e = .returned gv ∧ Agree o o' w.heap.size ∧ Turn o (fun t => t.1 = 6 ∧ 2 ≤ t.2.1) w w' ∧ Looks w' B o' 6 127 encM mkM ov gv rows grown := by
  obtain ⟨i0, hi, hz0, hz1, hz2⟩ := info_parts bkInfoM
  obtain ⟨i1, hj, hj0, hj1, hj2⟩ := info_parts bkRowM
  have HK := Lib.hid hK
  have hbn : o bn = (99, 0, 0) := hB.2.2.2
  have hbl : bn < w.heap.size := blk_lt hB.1
  have hbc : Hid (∀ W, Turn o (fun t => t.1 = 6 ∧ 2 ≤ t.2.1) w W → W.cell? ⟨bn, 12, none⟩ = some ov) := Lib.hid (fun W hT => by
    rw [blk_cell ((hT.block bn hbl (by rw [hbn]; simp)).trans hB.1)]; exact hc)
  obtain ⟨oa, oc, hov, hoc, _⟩ := own_shape hK.out
  subst hov
  have hN : rows.length ≤ 1000 := hK.few
  have hout : Hid (∀ W, Turn o (fun t => t.1 = 6 ∧ 2 ≤ t.2.1) w W → ∀ i r, rows[i]? = some r → ∃ g, oa = some ⟨g, 0, none⟩ ∧ W.cell? ⟨g, i, none⟩ = some r.1) := Lib.hid (fun W hT i r hr => by
    have hi : i < rows.length := (List.getElem?_eq_some_iff.1 hr).1
    have h := own_turn hK.out hK.tout hT (by simp)
    obtain ⟨g, c', hv, _, _⟩ := h.form (by omega)
    injection hv with hv _ _
    subst hv
    exact ⟨g, rfl, by rw [h.cellAt i (by omega), List.getElem?_map, hr]; rfl⟩)
  clear hbn hbl hc hoc hB hK
  go_enter Tryz.func160, Tryz.ntmps160
  go_wp2_with fail
  go_loopw [3, 4] (fun ot x wr => ∃ (i : Nat) (done : List (Value × Nat)) (oi : Nat → Tag) (da : Option Addr) (dc : Nat), i ≤ rows.length ∧ x = .int .i64 i ∧ ot = .slice da i dc ∧ Hid (GrowAt w B o 6 127 118 14 encM mkM rows i done oi wr ot)) (fun _ x _ => rows.length - (intOf x).toNat)
  case atStart => exact ⟨0, [], o, none, 0, Nat.zero_le _, rfl, rfl, Lib.hid (GrowAt.start HK.out)⟩
  case round =>
    obtain ⟨i, done, oi, da, dc, hi1, rfl, rfl, HA⟩ := hrel
    rename World => wA
    have hT := HA.out.turn
    have c0 := hbc.out wA hT
    have hBA : B ≤ wA.heap.size := Nat.le_trans hBw hT.size
    by_cases hlt : i < rows.length
    · obtain ⟨⟨rv, n⟩, hr⟩ : ∃ r, rows[i]? = some r := ⟨_, List.getElem?_eq_getElem hlt⟩
      obtain ⟨go, rfl, c1⟩ := hout.out wA hT i _ hr
      have hshort : n ≤ 100000 := HK.out.short _ (List.mem_of_getElem? hr)
      have HR := Lib.hid hr
      have HL0 := Lib.hid (HA.out.row hr)
      obtain ⟨ra, rc, hrv, hrc, _⟩ := own_shape HL0.out.own
      dsimp only at hrv
      rw [Nat.add_zero] at hrv hrc
      subst hrv
      have hx1 : (i : Int) < rows.length := by omega
      have hx2 : (0 : Int) ≤ i := by omega
      clear hr hT
      go_wp2_with fail
      go_loopw [5, 6] (fun l x wq => ∃ (m : Nat) (la : Option Addr) (lc : Nat), m ≤ 12 ∧ x = .int .i64 m ∧ l = .slice la (n + m) lc ∧ Hid (GrowL wA oi 6 i B 118 14 encM mkM (.slice ra n rc) n m l wq)) (fun _ x _ => 12 - (intOf x).toNat)
      case atStart => exact ⟨0, ra, rc, by omega, rfl, rfl, HL0⟩
      case round =>
        obtain ⟨m, la, lc, hm, rfl, rfl, HL⟩ := hrel
        by_cases hml : m < 12
        · have hx3 : (m : Int) < 12 := by omega
          go_wp2_with fail
          refine (markM_any i (n + m) 1 wr (by omega) (by omega)).mono ?_
          rintro e w1 ⟨ma, mc, rfl, hmo, hb1⟩
          obtain ⟨gm, cm, hmv, _, _⟩ := hmo.form (by omega)
          injection hmv with hmv _ hmc
          subst hmv
          subst hmc
          have HO1 := Lib.hid (own_below HL.out.own hb1)
          have HMo := Lib.hid hmo
          have HMc := Lib.hid (hmo.cells (g := gm) rfl)
          have hB1 : B ≤ w1.heap.size := Nat.le_trans hBA (HL.out.turn.below hb1).size
          have HB1 := Lib.hid hb1
          clear hmo hb1
          go_wp2_with (at_builtin; refine wpList_append_own_old _ rfl (.tmp 27) (.tmp 31) 127 rfl B 118 i0 _ 14 152 Tryz.underlying127 hi hz0 hz1 hz2 rfl (by omega) _ (n + m) _ rfl HO1.out ⟨gm, 0, none⟩ 1 mc _ rfl (by rw [HMo.out.1]) HMc.out (encM_one _) (by unfold maxLen; omega) (by omega) hB1 ?_; intro v2 w2 hown2 hg2 hat2 hold2; have HL2 := Lib.hid (HL.out.step encM_append HB1.out hg2 hown2 hat2 hold2); obtain ⟨la2, lc2, hv2, _⟩ := own_shape hown2; subst hv2; clear hown2 hg2 hat2 hold2)
          go_roundw
          case rel => exact ⟨m + 1, la2, lc2, by omega, by go_num, rfl, HL2⟩
          case measure => simp [intOf]; omega
        · obtain rfl : m = 12 := by omega
          go_wp2_with fail
          refine (markM_any i (n + 12) 60 wr (by omega) (by omega)).mono ?_
          rintro e w1 ⟨ma, mc, rfl, hmo, hb1⟩
          obtain ⟨gm, cm, hmv, _, _⟩ := hmo.form (by omega)
          injection hmv with hmv _ hmc
          subst hmv
          subst hmc
          have HO1 := Lib.hid (own_below HL.out.own hb1)
          have HMo := Lib.hid hmo
          have HMc := Lib.hid (hmo.cells (g := gm) rfl)
          have hB1 : B ≤ w1.heap.size := Nat.le_trans hBA (HL.out.turn.below hb1).size
          have HB1 := Lib.hid hb1
          clear hmo hb1
          go_wp2_with (first | (at_builtin; refine wpList_append_own_old _ rfl (.tmp 34) (.tmp 38) 127 rfl B 118 i0 _ 14 152 Tryz.underlying127 hi hz0 hz1 hz2 rfl (by omega) _ (n + 12) _ rfl HO1.out ⟨gm, 0, none⟩ 60 mc _ rfl (by rw [HMo.out.1]) HMc.out (encM_one _) (by unfold maxLen; omega) (by omega) hB1 ?_; intro v2 w2 hown2 hg2 hat2 hold2; have HL2 := Lib.hid (HL.out.step encM_append HB1.out hg2 hown2 hat2 hold2); obtain ⟨la2, lc2, hv2, _⟩ := own_shape hown2; subst hv2; have hsz2 := HL2.out.turn.size; have HO2 := Lib.hid (own_turn HA.out.oown HA.out.tout HL2.out.turn (fun e => by injection e with _ e; injection e with e; cases e)); clear hown2 hg2 hat2 hold2) | (at_builtin; refine wpList_append_new rfl (.tmp 33) (.tmp 40) 33 rfl B 127 i1 _ 1 24 Tryz.underlying33 hj hj0 hj1 hj2 rfl (by omega) _ i _ rfl HO2.out (by omega) [.slice la2 (n + 12 + 60) lc2] 1 rfl rfl rfl (by simp [Value.oneCell']) (by omega) (by omega) ?_; intro v3 w3 hown3 hg3 hb3 hs3 hat3; obtain ⟨g3, c3, hv3, hat3⟩ := hat3; subst hv3; have HA3 := Lib.hid (HA.out.step (m := 72) HR.out HL2.out (by show n + 72 ≤ _; omega) hg3 hown3 (grow_hat hat3)); clear hown3 hg3 hb3 hat3))
          go_roundw
          case rel => exact ⟨i + 1, _, _, _, _, by omega, by go_num, rfl, HA3⟩
          case measure => simp [intOf]; omega
    · obtain rfl : i = rows.length := by omega
      go_wp2_with fail
      go_ret
      exact ⟨_, oi, done, rfl, HA.out.agree, HA.out.turn, HA.out.fin HK.out⟩
end
/-! ### The walks of a Book's lists of one kind: Msgs (printed by wip/gen_bkm.py), on. -/
section
open Go.RowKit
set_option linter.unusedVariables false
set_option linter.unusedSimpArgs false
set_option maxRecDepth 20000 in
set_option maxHeartbeats 4000000 in
theorem markedM_any {w : World} {B N c : Nat} {ao : Option Addr} {rows : List (Value × Nat)} (hBw : B ≤ w.heap.size) (hown : w.ownsRow B 127 1 (.slice ao N c) N (rows.map (·.1))) (hN : N ≤ 1000) (hl : rows.length = N) (hsh : ∀ r ∈ rows, r.2 ≤ 200000)
    (hrow : ∀ i r, rows[i]? = some r → Reads w r.1 r.2 (encM ((List.range r.2).map (mkM i)))) :
    Calls Tryz.prog 171 #[.slice ao N c] w fun e w' => e = .returned (.bool true) ∧ Below w.heap.size w w' := by
  have hcell : Hid (∀ W, Below w.heap.size w W → ∀ i r, rows[i]? = some r → ∃ g, ao = some ⟨g, 0, none⟩ ∧ W.cell? ⟨g, i, none⟩ = some r.1) := Lib.hid (fun W hb i r hr => by
    have hi : i < rows.length := (List.getElem?_eq_some_iff.1 hr).1
    have h := own_below hown hb
    obtain ⟨g, c', hv, _, _⟩ := h.form (by omega)
    injection hv with hv _ _
    subst hv
    exact ⟨g, rfl, by rw [h.cellAt i (by omega), List.getElem?_map, hr]; rfl⟩)
  have HRow := Lib.hid hrow
  have HSh := Lib.hid hsh
  clear hown hrow hsh
  go_enter Tryz.func171, Tryz.ntmps171
  go_wp2_with fail
  go_loopw [3] (fun x wr => ∃ i : Nat, i ≤ N ∧ x = .int .i64 i ∧ Hid (Below w.heap.size w wr)) (fun x _ => N - (intOf x).toNat)
  case atStart => exact ⟨0, Nat.zero_le _, rfl, Lib.hid (Below.refl _ _)⟩
  case round =>
    obtain ⟨i, hi1, rfl, HB⟩ := hrel
    by_cases hlt : i < N
    · obtain ⟨⟨rv, n⟩, hr⟩ : ∃ r, rows[i]? = some r := ⟨_, List.getElem?_eq_getElem (by omega)⟩
      obtain ⟨go, rfl, c1⟩ := hcell.out wr HB.out i _ hr
      have hrd := HRow.out i _ hr
      have hshort : n ≤ 200000 := HSh.out _ (List.mem_of_getElem? hr)
      obtain ⟨ra, rc, hrv, _, _, _, _⟩ := hrd
      dsimp only at hrv
      subst hrv
      have HRd : Hid (∀ W, Below w.heap.size w W → Reads W (.slice ra n rc) n (encM ((List.range n).map (mkM i)))) := Lib.hid (fun W hb => (HRow.out i _ hr).below hb)
      have HCc : Hid (∀ W, Below w.heap.size w W → W.cell? ⟨go, i, none⟩ = some (.slice ra n rc)) := Lib.hid (fun W hb => by
        obtain ⟨_, e1, h⟩ := hcell.out W hb i _ hr
        injection e1 with e1
        injection e1 with e1
        subst e1
        exact h)
      have hx1 : (i : Int) < N := by omega
      have hx2 : (0 : Int) ≤ i := by omega
      have hsz := HB.out.size
      have HBd : Hid (Below w.heap.size w wr.drew) := Lib.hid (HB.out.drew)
      clear hr
      go_wp2_with fail
      go_region_with (first
        | (go_at_call 222; refine (markM_any i 0 n _ (by omega) (by omega)).mono ?_; rintro e w1 ⟨ma, mc, rfl, hm, hb1⟩; have HB1 := Lib.hid (HBd.out.trans (hb1.mono hsz)); have c1 := HCc.out w1 HB1.out; have HM := Lib.hid (Reads.own hm); clear hm hb1)
        | (go_at_call 217; refine (bkSameM (i := i) (HRd.out _ HB1.out) (by simpa using HM.out) (by omega) (by omega)).mono ?_; rintro e w2 ⟨rfl, hb2⟩; have HB2 := Lib.hid (HB1.out.trans (hb2.mono HB1.out.size)); clear hb2))
      all_goals (
        go_wp2_with fail
        go_roundw
        case rel => exact ⟨i + 1, by omega, by go_num, HB2⟩
        case measure => simp [intOf]; omega)
    · obtain rfl : i = N := by omega
      go_wp2_with fail
      go_ret
      exact ⟨rfl, HB.out⟩
set_option maxRecDepth 20000 in
set_option maxHeartbeats 4000000 in
theorem stillM_any {w : World} {B bn : Nat} {o : Nat → Tag} {cs : Array Value} {ov wv : Value} {rows : List (KRow MM)} (hB : BookAt w B 39 o bn cs) (hc : cs[12]? = some ov) (hc2 : cs[13]? = some wv) (hK : KeptM w B o 6 127 118 14 encM ov wv rows) :
    Calls Tryz.prog 138 #[.pointer (some ⟨bn, 0, none⟩)] w fun e w' => e = .returned (.bool true) ∧ Below w.heap.size w w' := by
  obtain ⟨oa, oc, hov, _, _, _⟩ := own_shape hK.out
  obtain ⟨wa, wc, hwv, _, _, _⟩ := own_shape hK.was
  subst hov
  subst hwv
  have hN : rows.length ≤ 1000 := hK.few
  have hfacts : Hid (∀ W, Below w.heap.size w W → W.cell? ⟨bn, 12, none⟩ = some (.slice oa rows.length oc) ∧ W.cell? ⟨bn, 13, none⟩ = some (.slice wa rows.length wc)) := Lib.hid (fun W hb => by
    have hk := (hb.block bn (blk_lt hB.1)).trans hB.1
    exact ⟨by rw [blk_cell hk, hc], by rw [blk_cell hk, hc2]⟩)
  have hrows : Hid (∀ i r, rows[i]? = some r → ∃ g g', oa = some ⟨g, 0, none⟩ ∧ wa = some ⟨g', 0, none⟩ ∧ ∀ W, Below w.heap.size w W → W.cell? ⟨g, i, none⟩ = some r.v ∧ W.cell? ⟨g', i, none⟩ = some r.c) := Lib.hid (fun i r hr => by
    have hi : i < rows.length := (List.getElem?_eq_some_iff.1 hr).1
    obtain ⟨g, c', hv, _, _⟩ := hK.out.form (by omega)
    obtain ⟨g', c'', hv', _, _⟩ := hK.was.form (by omega)
    injection hv with hv _ _
    injection hv' with hv' _ _
    subst hv
    subst hv'
    exact ⟨g, g', rfl, rfl, fun W hb => ⟨by rw [(own_below hK.out hb).cellAt i (by omega), List.getElem?_map, hr]; rfl, by rw [(own_below hK.was hb).cellAt i (by omega), List.getElem?_map, hr]; rfl⟩⟩)
  have HK := Lib.hid hK
  clear hK hB hc hc2
  go_enter Tryz.func138, Tryz.ntmps138
  go_wp2_with fail
  go_loopw [3] (fun x wr => ∃ i : Nat, i ≤ rows.length ∧ x = .int .i64 i ∧ Hid (Below w.heap.size w wr)) (fun x _ => rows.length - (intOf x).toNat)
  case atStart => exact ⟨0, Nat.zero_le _, rfl, Lib.hid (Below.refl _ _)⟩
  case round =>
    obtain ⟨i, hi1, rfl, HB⟩ := hrel
    have c0 := (hfacts.out wr HB.out).1
    by_cases hlt : i < rows.length
    · obtain ⟨r, hr⟩ : ∃ r, rows[i]? = some r := ⟨_, List.getElem?_eq_getElem hlt⟩
      obtain ⟨go, gw, rfl, rfl, hcs⟩ := hrows.out i r hr
      have hrow := HK.out.row i r hr
      have hshort : r.l.length ≤ 100000 := HK.out.short r (List.mem_of_getElem? hr)
      obtain ⟨ra, rc, hrv, _, _, _⟩ := own_shape hrow.1
      obtain ⟨qa, qc, hqv, _, _, _⟩ := own_shape hrow.2.1
      obtain ⟨n, hn⟩ : ∃ n, n = r.l.length := ⟨_, rfl⟩
      have HS : Hid (∀ W, Below wr.heap.size wr W → Calls Tryz.prog 217 #[.slice ra n rc, .slice qa n qc] W fun e w' => e = .returned (.bool true) ∧ Below W.heap.size W w') := Lib.hid (fun W hb => by
        have hW := HB.out.trans (hb.mono HB.out.size)
        have hrow := hrow
        rw [hrv] at hrow
        rw [hqv] at hrow
        rw [hn]
        have hD := HK.out.deep i r hr
        refine bkSameMs (la := r.l.map Prod.fst) (lb := r.l.map Prod.snd) (Reads.own (own_below hrow.1 hW)) (Reads.own (own_below hrow.2.1 hW)) (by simp) (by simp) (by omega) (fun m hm => ?_) (fun m hm => ?_) (fun k x y hx hy => ?_)
        · obtain ⟨p, hp, rfl⟩ := List.mem_map.1 hm
          have d := hD p hp
          exact ⟨(d.o1.below hW).at_ d.ok, d.ok, d.sm⟩
        · obtain ⟨p, hp, rfl⟩ := List.mem_map.1 hm
          have d := hD p hp
          exact (d.o2.below hW).at_ (by rw [d.eq]; exact d.ok)
        · rw [List.getElem?_map] at hx hy
          cases hq : r.l[k]? with
          | none => rw [hq] at hx; cases hx
          | some p =>
            rw [hq] at hx hy
            injection hx with hx
            injection hy with hy
            subst hx hy
            exact (hD p (List.mem_of_getElem? hq)).eq.symm)
      rw [hrv, hqv, ← hn] at hcs
      have q : ∀ p : SinceW wr.heap.size wr, p.w.cell? ⟨bn, 12, none⟩ = some (.slice (some ⟨go, 0, none⟩) rows.length oc) ∧ p.w.cell? ⟨bn, 13, none⟩ = some (.slice (some ⟨gw, 0, none⟩) rows.length wc) ∧ p.w.cell? ⟨go, i, none⟩ = some (.slice ra n rc) ∧ p.w.cell? ⟨gw, i, none⟩ = some (.slice qa n qc) := fun p => by
        have hW := HB.out.trans (p.h.mono HB.out.size)
        exact ⟨(hfacts.out _ hW).1, (hfacts.out _ hW).2, (hcs _ hW).1, (hcs _ hW).2⟩
      have q0 := fun p => (q p).1
      have q1 := fun p => (q p).2.1
      have q2 := fun p => (q p).2.2.1
      have q3 := fun p => (q p).2.2.2
      have hx1 : (i : Int) < rows.length := by omega
      have hx2 : (0 : Int) ≤ i := by omega
      clear q hr hrow hrv hqv hn hcs
      go_wp2_with fail
      refine wp_region_since (B := wr.heap.size) (W0 := wr) (by kernel_rfl) (by kernel_rfl) (Below.refl _ _) ?_
      repeat (go_big_quiet_step ((go_at_call 217; exact since_call (Nat.le_refl _) (HS.out _ (SinceW.h _)))))
      refine wpQuiet_nil ?_
      intro _ hw'
      obtain ⟨⟨w5, hv5⟩, rfl⟩ := hw'
      have HB5 := Lib.hid (HB.out.trans (hv5.mono HB.out.size))
      clear q0 q1 q2 q3 hv5
      go_wp2_with fail
      go_roundw
      case rel => exact ⟨i + 1, by omega, by go_num, HB5⟩
      case measure => simp [intOf]; omega
    · obtain rfl : i = rows.length := by omega
      go_wp2_with fail
      go_ret
      exact ⟨rfl, HB.out⟩
end
/-! ### The walks of a Book's lists of one kind: Msgs (printed by wip/gen_bkm.py), on. -/
section
open Go.RowKit
set_option linter.unusedVariables false
set_option linter.unusedSimpArgs false
theorem cellsM1 (m c : MsgR) : encM [(m, c)] = m.cells := by simp [encM, cellsM]
theorem cellsM2 (m c : MsgR) : encMw [(m, c)] = c.cells := by simp [encMw, cellsM]
/-- The row of one message, three of whose cells were laid anew. -/
theorem own_set3 {W : World} {base g c : Nat} {m : MsgR} (h : W.ownsRow base 118 14 (.slice (some ⟨g, 0, none⟩) 1 c) 1 m.cells) (ea : Option Addr) (en ec : Nat) (ma : Option Addr) (mn mc : Nat) (pa : Option Addr) (pn pc : Nat) :
    (((W.setCell ⟨g, 10, none⟩ (.slice ea en ec)).setCell ⟨g, 11, none⟩ (.slice ma mn mc)).setCell ⟨g, 13, none⟩ (.slice pa pn pc)).ownsRow base 118 14 (.slice (some ⟨g, 0, none⟩) 1 c) 1 (MsgR.cells ⟨m.v, ea, en, ec, ma, mn, mc, pa, pn, pc⟩) ∧
      W.grownBy (((W.setCell ⟨g, 10, none⟩ (.slice ea en ec)).setCell ⟨g, 11, none⟩ (.slice ma mn mc)).setCell ⟨g, 13, none⟩ (.slice pa pn pc)) (some g) := by
  have h1 := h.stored 10 (.slice ea en ec)
  have h2 := h1.1.stored 11 (.slice ma mn mc)
  have h3 := h2.1.stored 13 (.slice pa pn pc)
  exact ⟨h3.1, (h1.2.trans h2.2).trans h3.2⟩
set_option maxRecDepth 20000 in
set_option maxHeartbeats 4000000 in
theorem copyM_any {w : World} {ad : Addr} {c : Nat} {m : MsgR} (h : Reads w (.slice (some ad) 1 c) 1 m.cells) (hm : MsgOwn w 0 m) (hs : MsgSm m.v) :
    Calls Tryz.prog 237 #[.slice (some ad) 1 c] w fun e w' => ∃ (ao' : Option Addr) (c' : Nat) (mc : MsgR), e = .returned (.slice ao' 1 c') ∧ mc.v = m.v ∧ w'.ownsRow w.heap.size 118 14 (.slice ao' 1 c') 1 mc.cells ∧ MsgOwn w' w.heap.size mc ∧ Below w.heap.size w w' := by
  obtain ⟨i0, hi, hz0, hz1, hz2⟩ := info_parts bkInfoM
  have HC := Lib.hid (reads_news (size := 14) h rfl)
  have hen : m.en ≤ 200000 := by have := hm.el; have := hs.el; omega
  have hmn : m.mn ≤ 200000 := by have := hm.ml; have := hs.ml; omega
  have hpn : m.pn ≤ 200000 := by have := hm.pl; have := hs.pl; omega
  have nil_ : ∀ {base : Nat} {e : TypeId} {size n : Nat} {ao : Option Addr} {c : Nat} {xs : List Value}, w.ownsRow base e size (.slice ao n c) n xs → ao = none → n = 0 := by
    intro base e size n ao c xs h h0
    subst h0
    rcases h.2 with ⟨_, h0⟩ | ⟨g, cap, cur, hv, _⟩
    · exact h0
    · cases hv
  have HE : Hid (∀ W, Below w.heap.size w W → Calls Tryz.prog 123 #[.slice m.eo m.en m.ec] W fun e w' => ∃ ao' c', e = .returned (.slice ao' m.en c') ∧ w'.ownsRow W.heap.size 51 4 (.slice ao' m.en c') m.en (entCells m.v.es) ∧ Below W.heap.size W w') := Lib.hid (fun W hb => copyE_any ((Reads.own hm.es).below hb) (nil_ hm.es) hm.el hen)
  have HI : Hid (∀ W, Below w.heap.size w W → Calls Tryz.prog 124 #[.slice m.mo m.mn m.mc] W fun e w' => ∃ ao' c', e = .returned (.slice ao' m.mn c') ∧ w'.ownsRow W.heap.size 3 1 (.slice ao' m.mn c') m.mn (m.v.ms.map (Value.int .i64)) ∧ Below W.heap.size W w') := Lib.hid (fun W hb => copyI_any (l := m.v.ms) ((Reads.own hm.ms).below hb) (nil_ hm.ms) hm.ml hmn)
  have HP : Hid (∀ W, Below w.heap.size w W → Calls Tryz.prog 236 #[.slice m.po m.pn m.pc] W fun e w' => ∃ ao' c', e = .returned (.slice ao' m.pn c') ∧ w'.ownsRow W.heap.size 202 2 (.slice ao' m.pn c') m.pn (parCells m.v.ps) ∧ Below W.heap.size W w') := Lib.hid (fun W hb => copyP_any ((Reads.own hm.ps).below hb) (nil_ hm.ps) hm.pl hpn)
  have HLs := Lib.hid (And.intro hm.el (And.intro hm.ml hm.pl))
  clear h hm hs nil_
  go_enter Tryz.func237, Tryz.ntmps237
  go_wp2_with (at_builtin; refine wpList_append_own_at _ rfl (.const (.slice none 0 0)) (.tmp 4) 127 rfl w.heap.size 118 i0 _ 14 152 Tryz.underlying127 hi hz0 hz1 hz2 rfl (by omega) _ 0 [] rfl (World.ownsRow_nil _ _ _ _) ad 1 c m.cells rfl rfl HC.out (by have := cellsM_one [m]; rw [show cellsM [m] = m.cells from by simp [cellsM]] at this; exact this) (by unfold maxLen; omega) (by omega) (by simp) ?_; intro v1 w8 hown8 hg8 _ _; rw [Nat.zero_add, List.nil_append] at hown8; obtain ⟨g8, c8, hv8, hB8, _⟩ := hown8.form (by omega); subst hv8; have HO8 := Lib.hid hown8; have HB8 := Lib.hid ((Below.refl w.heap.size w).grown hg8 (by simp) (fun k hk => by cases hk)); clear hown8 hg8)
  go_loopw [3] (fun x wr => ∃ k : Nat, k ≤ 1 ∧ x = .int .i64 k ∧ (k = 0 → wr = w8) ∧ (k = 1 → Hid (∃ mc : MsgR, mc.v = m.v ∧ wr.ownsRow w.heap.size 118 14 (.slice (some ⟨g8, 0, none⟩) 1 c8) 1 mc.cells ∧ MsgOwn wr w.heap.size mc ∧ Below w.heap.size w wr))) (fun x _ => 1 - (intOf x).toNat)
  case atStart => exact ⟨0, by omega, rfl, fun _ => rfl, fun h => by omega⟩
  case round =>
    obtain ⟨k, hk, rfl, h0, h1⟩ := hrel
    by_cases hk0 : k = 0
    · subst hk0
      have e8 := h0 rfl
      subst e8
      rename World => w8
      clear h0 h1 hk hen hmn hpn
      have hF : ∀ W, Below w8.heap.size w8 W → (W.cell? ⟨g8, 10, none⟩ = some (.slice m.eo m.en m.ec) ∧ W.cell? ⟨g8, 11, none⟩ = some (.slice m.mo m.mn m.mc) ∧ W.cell? ⟨g8, 13, none⟩ = some (.slice m.po m.pn m.pc)) ∧ W.frozen? ⟨g8, 10, none⟩ = false ∧ W.frozen? ⟨g8, 11, none⟩ = false ∧ W.frozen? ⟨g8, 13, none⟩ = false := fun W hb => by
        have h := own_below HO8.out hb
        exact ⟨⟨by rw [h.cellAt 10 (by omega)]; rfl, by rw [h.cellAt 11 (by omega)]; rfl, by rw [h.cellAt 13 (by omega)]; rfl⟩, h.frozenAt 10, h.frozenAt 11, h.frozenAt 13⟩
      have HF := Lib.hid hF
      obtain ⟨⟨c0, c1, c2⟩, f0, f1, f2⟩ := hF w8 (Below.refl _ _)
      clear hF
      go_wp2_with fail
      go_region_law (first
        | (go_simp; go_at_call 123; refine (HE.out _ HB8.out.drew).mono ?_; rintro e' wa ⟨aoa, ca, rfl, owna, hba⟩; have HBa : Hid (Below w8.heap.size w8 wa) := Lib.hid (below_undrew hba); have HOa := Lib.hid owna; clear owna hba; obtain ⟨⟨c0a, c1a, c2a⟩, f0a, f1a, f2a⟩ := HF.out wa HBa.out)
        | (go_simp; go_at_call 124; refine (HI.out _ (HB8.out.trans (HBa.out.mono HB8.out.size))).mono ?_; rintro e' wb ⟨aob, cb, rfl, ownb, hbb⟩; have HBb : Hid (Below w8.heap.size w8 wb) := Lib.hid (HBa.out.trans (hbb.mono HBa.out.size)); have HOb := Lib.hid ownb; have HOa := Lib.hid (own_below HOa.out hbb); clear ownb hbb; obtain ⟨⟨c0b, c1b, c2b⟩, f0b, f1b, f2b⟩ := HF.out wb HBb.out)
        | (go_simp; go_at_call 236; refine (HP.out _ (HB8.out.trans (HBb.out.mono HB8.out.size))).mono ?_; rintro e' wc ⟨aoc, cc, rfl, ownc, hbc⟩; have HBc : Hid (Below w8.heap.size w8 wc) := Lib.hid (HBb.out.trans (hbc.mono HBb.out.size)); have HOc := Lib.hid ownc; have HOb := Lib.hid (own_below HOb.out hbc); have HOa := Lib.hid (own_below HOa.out hbc); clear ownc hbc; obtain ⟨⟨c0c, c1c, c2c⟩, f0c, f1c, f2c⟩ := HF.out wc HBc.out))
      all_goals (
        have hs3 := own_set3 (own_below HO8.out HBc.out) aoa m.en ca aob m.mn cb aoc m.pn cc
        have hmo : MsgOwn wc w8.heap.size ⟨m.v, aoa, m.en, ca, aob, m.mn, cb, aoc, m.pn, cc⟩ := ⟨own_lowM HOa.out (by simp), own_lowM HOb.out HBa.out.size, own_lowM HOc.out HBb.out.size, HLs.out.1, HLs.out.2.1, HLs.out.2.2⟩
        have HS3 := Lib.hid hs3
        have HMo := Lib.hid hmo
        clear hs3 hmo
        go_wp2_with fail
        go_roundw
        case rel =>
          refine ⟨1, Nat.le_refl _, by go_num, fun h => by omega, fun _ => Lib.hid ⟨⟨m.v, aoa, m.en, ca, aob, m.mn, cb, aoc, m.pn, cc⟩, rfl, HS3.out.1, ?_, ?_⟩⟩
          · exact (HMo.out.far HS3.out.2 (HO8.out.lt g8 rfl).2).low HB8.out.size
          · exact (HB8.out.trans (HBc.out.mono HB8.out.size)).grown HS3.out.2 (Nat.le_trans HB8.out.size HBc.out.size) (fun k hk => by injection hk with hk; omega)
        case measure => simp [intOf])
    · obtain rfl : k = 1 := by omega
      have HF := h1 rfl
      clear h0 h1
      go_wp2_with fail
      go_ret
      obtain ⟨mc, q1, q2, q3, q4⟩ := HF.out
      exact ⟨_, _, mc, rfl, q1, q2, q3, q4⟩
end
/-! ### The walks of a Book's lists of one kind: Msgs (printed by wip/gen_bkm.py), on. -/
section
open Go.RowKit
set_option linter.unusedVariables false
set_option linter.unusedSimpArgs false
set_option maxRecDepth 20000 in
set_option maxHeartbeats 4000000 in
theorem addM_any {w : World} {B bn c : Nat} {ao : Option Addr} {o : Nat → Tag} {cs : Array Value} {ov wv : Value} {rows : List (KRow MM)} {m : MsgR} (hB : BookAt w B 39 o bn cs) (hBw : B ≤ w.heap.size) (hc : cs[12]? = some ov) (hc2 : cs[13]? = some wv)
    (hK : KeptM w B o 6 127 118 14 encM ov wv rows) (hown : w.ownsRow B 118 14 (.slice ao 1 c) 1 m.cells) (hm : MsgOwn w B m) (hns : NS o m) (hok : MsgOk m.v) (hsm : MsgSm m.v) (ht : Tagged o w.heap.size (6, 2, rows.length) (.slice ao 1 c)) :
    Calls Tryz.prog 197 #[.pointer (some ⟨bn, 0, none⟩), .slice ao 1 c] w fun e w' => e = .returned (.tuple #[]) ∧ AddPostM w B bn 12 13 6 o 39 127 118 14 encM cs w' := by
  obtain ⟨g0, hg0⟩ : ∃ g, ao = some ⟨g, 0, none⟩ := by
    obtain ⟨g0, c0', hv0, _, _⟩ := hown.form (by omega)
    injection hv0 with hv0 _ _
    exact ⟨g0, hv0⟩
  subst hg0
  obtain ⟨i1, hj, hj0, hj1, hj2⟩ := info_parts bkRowM
  have HK := Lib.hid hK
  have HB := Lib.hid hB
  have hbl : bn < w.heap.size := blk_lt hB.1
  have hsz : cs.size = 22 := hB.2.1
  obtain ⟨oa, oc, hov, _, _, _⟩ := own_shape hK.out
  obtain ⟨wa, wc, hwv, _, _, _⟩ := own_shape hK.was
  have HOv := Lib.hid hov
  have HWv := Lib.hid hwv
  have c0 : w.cell? ⟨bn, 12, none⟩ = some (.slice oa rows.length oc) := by rw [blk_cell hB.1, hc, hov]
  by_cases hN : rows.length < 250
  · have hx1 : (rows.length : Int) < 250 := by omega
    have HN := Lib.hid hN
    have HO := Lib.hid hown
    have HDm := Lib.hid (And.intro hm (And.intro hns (And.intro hok hsm)))
    have HT := Lib.hid ht
    have hn1 : rows.length + 1 ≤ 250 := by omega
    have HOut := Lib.hid hK.out
    rw [hov] at HOut
    have HBl := Lib.hid hB.1
    have hne : ov.ownBlock ≠ some bn ∧ wv.ownBlock ≠ some bn := hK.apart hB (by decide)
    have HNe := Lib.hid hne
    rw [hov] at HNe
    have HCs := Lib.hid (And.intro hc hc2)
    clear hB hown hm hns hok hsm ht hov hwv hK hN hne hc hc2
    go_enter Tryz.func197, Tryz.ntmps197
    go_wp2_with (at_builtin; refine wpList_append_new rfl (.tmp 14) (.tmp 16) 33 rfl B 127 i1 _ 1 24 Tryz.underlying33 hj hj0 hj1 hj2 rfl (by omega) _ rows.length _ rfl HOut.out hBw [.slice (some ⟨g0, 0, none⟩) 1 c] 1 rfl rfl rfl (by simp [Value.oneCell']) (by omega) (by omega) ?_; intro v3 w3 hown3 hg3 hb3 hs3 hat3; obtain ⟨g3, c3, hv3, hat3⟩ := hat3; subst hv3; have HG3 := Lib.hid hg3; have HO3 := Lib.hid hown3; have HA3 := Lib.hid (grow_hat hat3 : (Value.slice (some ⟨g3, 0, none⟩) (rows.length + 1) c3).ownBlock = _ ∨ _); have hk3 := (hg3.block bn hbl (fun e => HNe.out.1 e.symm)).trans HBl.out; have f3 : w3.frozen? ⟨bn, 12, none⟩ = false := blk_frozen hk3 12; have cc3 : w3.cell? ⟨bn, 12, none⟩ = some (.slice oa rows.length oc) := (by rw [blk_cell hk3, HCs.out.1, HOv.out]); have HK3 := Lib.hid hk3; clear hown3 hg3 hb3 hs3 hat3 hk3)
    obtain ⟨W2, hW2⟩ : ∃ W, W = w3.setCell ⟨bn, 12, none⟩ (.slice (some ⟨g3, 0, none⟩) (rows.length + 1) c3) := ⟨_, rfl⟩
    rw [← hW2]
    have hb2 : W2.heap.size = w3.heap.size := by rw [hW2]; simp [World.setCell]
    have hT2 : Turn o (fun t => t = (99, 0, 0) ∨ t = (6, 0, 0)) w W2 := by
      rw [hW2]
      exact ((Turn.refl o _ w).grown HG3.out (fun g hg hlt => .inr (by rw [← HOv.out] at hg; exact HK.out.tout g hg hlt))).grown (grown_set w3 bn 12 _) (fun g hg hlt => .inl (by injection hg with hg; subst hg; exact HB.out.2.2.2))
    have hbk2 : W2.heap[bn]? = some (.cells (cs.setIfInBounds 12 (.slice (some ⟨g3, 0, none⟩) (rows.length + 1) c3)) 39 (0, 0)) := by rw [hW2]; exact blk_set HK3.out 12 _
    have hwas : W2.ownsRow B 127 1 (.slice wa rows.length wc) rows.length (rows.map (·.c)) := by
      rw [← HWv.out]
      exact own_turn HK.out.was HK.out.twas hT2 (by simp)
    have hrd : Reads W2 (.slice (some ⟨g0, 0, none⟩) 1 c) 1 m.cells := Reads.own (own_turn HO.out HT.out hT2 (by simp))
    have hmo2 : MsgOwn W2 B m := HDm.out.1.ns HDm.out.2.1 (fun t e => by rcases e with e | e; exact .inl e; exact .inr ⟨by rw [e]; show 6 < 50; omega, by rw [e]; exact Nat.zero_le _⟩) hT2
    have c1 : W2.cell? ⟨bn, 13, none⟩ = some (.slice wa rows.length wc) := by rw [blk_cell hbk2, Array.getElem?_setIfInBounds, if_neg (by decide), HCs.out.2, HWv.out]
    have hblt : bn < W2.heap.size := Nat.lt_of_lt_of_le hbl hT2.size
    have hBW2 : B ≤ W2.heap.size := Nat.le_trans hBw hT2.size
    have HW2 := Lib.hid hW2
    have HBk2 := Lib.hid hbk2
    have HWas := Lib.hid hwas
    have HCp := Lib.hid (copyM_any (w := W2.drew) (ad := ⟨g0, 0, none⟩) (c := c) (m := m) hrd ((hmo2.low (Nat.zero_le _)).below (Below.refl _ _).drew) HDm.out.2.2.2)
    have HNe2 : Hid (∀ g, (Value.slice wa rows.length wc).ownBlock = some g → g ≠ bn) := Lib.hid (fun g hg e => HNe.out.2 (by rw [HWv.out, hg, e]))
    clear hb2 hT2 hbk2 hwas hrd hW2 hmo2
    go_region_law (first
      | (refine step_append_lies _ (by rfl) (.tmp 24) (.tmp 27) 33 (by rfl) B 127 i1 _ 1 24 Tryz.underlying33 hj hj0 hj1 hj2 (by rfl) (by omega) (.slice wa rows.length wc) rows.length _ (by rfl) ((own_below HWas.out HB4.out).alloc _) ⟨w4.heap.size, 0, none⟩ 1 1 [.slice ao4 1 c4] (by rfl) (by rfl) (cell_one_new _ _ _) (by intro u hu; simp at hu; subst hu; rfl) (by omega) (by unfold maxLen; omega) (by omega) (Nat.le_trans hBW2 (Nat.le_trans HB4.out.size (by simp))) _ rfl ?_; intro g5 c5 w5 hown5 hg5 hat5 hlt5; have hk5 := (((World.grownBy_alloc w4 _ _).trans hg5).block bn (Nat.lt_of_lt_of_le hblt HB4.out.size) (fun e => HNe2.out bn e.symm rfl)).trans ((HB4.out.block bn hblt).trans HBk2.out); have f5 : w5.frozen? ⟨bn, 13, none⟩ = false := blk_frozen hk5 13; have cc5 : w5.cell? ⟨bn, 13, none⟩ = some (.slice wa rows.length wc) := (by rw [blk_cell hk5, Array.getElem?_setIfInBounds, if_neg (by decide), HCs.out.2, HWv.out]))
      | (go_simp; go_at_call 237; refine (HCp.out).mono ?_; rintro e' w4 ⟨ao4, c4, mc, rfl, hmv4, hown4, hmo4, hb4⟩; have HB4 : Hid (Below W2.heap.size W2 w4) := Lib.hid (below_undrew hb4); have c1' : w4.cell? ⟨bn, 13, none⟩ = some (.slice wa rows.length wc) := (HB4.out.cell (p := ⟨bn, 13, none⟩) hblt).trans c1; have c1a : ∀ o, (w4.alloc o).cell? ⟨bn, 13, none⟩ = some (.slice wa rows.length wc) := fun o => (World.cell?_alloc_lt w4 o _ (Nat.lt_of_lt_of_le hblt HB4.out.size)).trans c1'; have HO4 := Lib.hid hown4; have HV4 := Lib.hid (And.intro hmv4 hmo4); clear hb4 hown4 hmv4 hmo4))
    all_goals (
      go_wp2
      go_end0
      obtain ⟨o', q1, q2, q3, q4⟩ := KeptM.add (w5 := w5.setCell ⟨bn, 13, none⟩ (.slice (some ⟨g5, 0, none⟩) (rows.length + 1) c5)) (l := [(m, mc)]) (n := 1) HK.out HB.out hBw (by decide) (by decide) (by omega) (by rw [cellsM1]; exact HO.out) rfl (by omega) HT.out (by rw [HOv.out]; exact HG3.out) HO3.out (by rw [HOv.out]; exact HA3.out) HW2.out HB4.out (by rw [cellsM2]; exact HO4.out) (fun p hp => by rw [List.mem_singleton.1 hp]; exact ⟨HDm.out.1, HDm.out.2.1, HV4.out.1, HDm.out.2.2.1, HDm.out.2.2.2⟩) (fun p hp => by rw [List.mem_singleton.1 hp]; exact HV4.out.2) (by rw [HWv.out]; exact (World.grownBy_alloc w4 _ _).trans hg5) hown5 (by rw [HWv.out]; exact grow_hat (hat5.imp id (fun h => by rw [h]; simp))) rfl
      exact ⟨rfl, o', _, _, _, q1, q2, q3, q4⟩)
  · have hx1 : ¬ (rows.length : Int) < 250 := by omega
    have hfin : (cs.setIfInBounds 12 ov).setIfInBounds 13 wv = cs := by
      apply Array.ext_getElem?
      intro i
      by_cases h2 : i = 12
      · subst h2; rw [hc]; simp [hsz]
      · by_cases h3 : i = 13
        · subst h3; rw [hc2]; simp [hsz]
        · simp [Ne.symm h2, Ne.symm h3]
    have HFin := Lib.hid hfin
    clear hB hown hm hns hok hsm ht hov hwv hK hN hfin hc hc2
    go_enter Tryz.func197, Tryz.ntmps197
    go_wp2_with fail
    go_end0
    exact ⟨rfl, AddPostM.same HB.out HK.out HFin.out⟩
end
end Go.Proofs.YtmdidmllaldbaaaGreat
