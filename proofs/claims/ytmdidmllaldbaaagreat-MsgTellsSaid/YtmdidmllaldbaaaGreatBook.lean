/- What a Book keeps: lists in rows apart from each other. Every block has a tag; a row's blocks have the row's tag. -/
import Derived.Test.YtmdidmllaldbaaaGreatRowsN
import Derived.Test.YtmdidmllaldbaaaGreatEntB
import Derived.Deep.AppendLies
import Derived.Laws.OwnMore
namespace Go.Proofs.YtmdidmllaldbaaaGreat
open Go.RowKit
set_option linter.unusedVariables false
/-- append onto a row of the call's own: what stood there can still be read at its old place. -/
theorem run_append_own_old {P : Program} (w : World) (base : Nat) (t ty e : TypeId) (i : TypeInfo) (z : Value) (size bytes : Nat) (ht : P.underlying t = some (.slice e)) (hi : P.info? e = some i) (hz : i.zero = some z)
    (hsize : i.size = size) (hby : i.bytes = bytes) (hzs : z.cells.size = size) (hsz : 0 < size)
    (v : Value) (n : Nat) (xs : List Value) (hown : w.ownsRow base e size v n xs)
    (a : Addr) (m c : Nat) (news : List Value) (hl : news.length = m * size) (hnews : ∀ j u, news[j]? = some u → w.cell? (a.add j) = some u) (h1 : ∀ u ∈ news, u.oneCell' = true)
    (h63 : n + m ≤ maxLen) (hbytes : (n + m) * bytes ≤ 140737488355328) (hbase : base ≤ w.heap.size) :
    ∃ v' w', (Builtin.append_ #[t, t] ty #[v, .slice (some a) m c]).run P w = .ok v' w' ∧ w'.ownsRow base e size v' (n + m) (xs ++ news) ∧ w.grownBy w' v.ownBlock ∧
      (v'.ownBlock = v.ownBlock ∨ v'.ownBlock = some w.heap.size) ∧ (∀ g, v.ownBlock = some g → ∀ j u, xs[j]? = some u → w'.cell? ⟨g, j, none⟩ = some u) := by
  obtain ⟨v', w', hr, h2, h3, _, h5⟩ := run_append_own_at (P := P) w base t ty e i z size bytes ht hi hz hsize hby hzs hsz v n xs hown a m c news hl hnews h1 h63 hbytes hbase
  refine ⟨v', w', hr, h2, h3, h5, fun g hg j u hj => ?_⟩
  subst hsize hby
  rcases hown.2 with ⟨rfl, _⟩ | ⟨g', cap, cur, rfl, _, hb, hnc, _, hcs, _⟩
  · cases hg
  · have hgg : g' = g := by simpa [Value.ownBlock] using hg
    subst hgg
    have ha : (⟨g', 0, none⟩ : Addr).add j = ⟨g', j, none⟩ := add_lit g' j
    by_cases hroom : n + m ≤ cap
    · have hr2 := run_append_room (P := P) w t ty e i ht hi g' n cap cur hb a m c news hl hnews h1 hroom (by rw [hl, hcs, ← Nat.add_mul]; exact Nat.mul_le_mul_right _ hroom)
      have e1 : v' = .slice (some ⟨g', 0, none⟩) (n + m) cap := by
        have := hr.symm.trans hr2
        injection this
      have := h2.cells (g := g') (by rw [e1]; rfl) j u (by rw [List.getElem?_append_left (List.getElem?_eq_some_iff.1 hj).1]; exact hj)
      rwa [ha] at this
    · have hr2 := run_append_grow (P := P) w t ty e i z ht hi hz ⟨g', 0, none⟩ n cap xs hown.1 (hown.cells (g := g') rfl) a m c news hl hnews (by omega) (by unfold maxLen at h63; omega) (growslice_fits (by omega) hbytes)
      have e2 := hr.symm.trans hr2
      injection e2 with _ e2
      have hc := hown.cells (g := g') rfl j u hj
      rw [ha] at hc
      have hlt : g' < w.heap.size := blk_lt hb
      rw [e2, ← hc]
      exact World.cell?_of_block (Go.heap_alloc_old w.drew _ hlt)
theorem wpList_append_own_old {P : Program} (w : World) {ops : Array Oper} {rest : List Oper} {o : Oper} {a : Act} {Q : Exit → Act → World → Prop} (hgd : o.guard = none) (s x : Operand) (t : TypeId)
    (ho : o.op = .call { callee := .builtin .append, args := #[s, x], argTypes := #[t, t] })
    (base : Nat) (e : TypeId) (i : TypeInfo) (z : Value) (size bytes : Nat) (ht : P.underlying t = some (.slice e)) (hi : P.info? e = some i) (hz : i.zero = some z)
    (hsize : i.size = size) (hby : i.bytes = bytes) (hzs : z.cells.size = size) (hsz : 0 < size)
    (v : Value) (n : Nat) (xs : List Value) (hs : a.eval s = v) (hown : w.ownsRow base e size v n xs)
    (ad : Addr) (m c : Nat) (news : List Value) (hx : a.eval x = .slice (some ad) m c) (hl : news.length = m * size) (hnews : ∀ j u, news[j]? = some u → w.cell? (ad.add j) = some u) (h1 : ∀ u ∈ news, u.oneCell' = true)
    (h63 : n + m ≤ maxLen) (hbytes : (n + m) * bytes ≤ 140737488355328) (hbase : base ≤ w.heap.size)
    (h : ∀ v' w', w'.ownsRow base e size v' (n + m) (xs ++ news) → w.grownBy w' v.ownBlock → (v'.ownBlock = v.ownBlock ∨ v'.ownBlock = some w.heap.size) → (∀ g, v.ownBlock = some g → ∀ j u, xs[j]? = some u → w'.cell? ⟨g, j, none⟩ = some u) → wpList P ops Q rest (a.put o.dst v') w') :
    wpList P ops Q (o :: rest) a w := by
  refine wpList_plain hgd fun K hK => ?_
  obtain ⟨v', w', hr, h2, h3, h4, h5⟩ := run_append_own_old (P := P) w base t o.type e i z size bytes ht hi hz hsize hby hzs hsz v n xs hown ad m c news hl hnews h1 h63 hbytes hbase
  unfold Oper.wp execOp
  simp only [ho, resolve, invoke, builtin, Sem.run_bind, Sem.run_pure, Result.andThen_ok, List.map_toArray, List.map_cons, List.map_nil, hs, hx, hr]
  exact hK _ _ (h v' w' h2 h3 h4 h5)
abbrev Tag := Nat × Nat × Nat
/-- The row of a value, if it is one of the first N blocks, has that tag. -/
def Tagged (o : Nat → Tag) (N : Nat) (t : Tag) (v : Value) : Prop := ∀ g, v.ownBlock = some g → g < N → o g = t
def Agree (o o' : Nat → Tag) (N : Nat) : Prop := ∀ g, g < N → o' g = o g
/-- Nothing turned but blocks with a tag in S, and new ones. -/
structure Turn (o : Nat → Tag) (S : Tag → Prop) (w w' : World) : Prop where
  os : w'.os = w.os
  tape : w'.tape = w.tape
  output : w'.output = w.output
  size : w.heap.size ≤ w'.heap.size
  block : ∀ k, k < w.heap.size → ¬ S (o k) → w'.heap[k]? = w.heap[k]?
theorem Agree.refl (o : Nat → Tag) (N : Nat) : Agree o o N := fun _ _ => rfl
theorem Agree.trans {o o' o'' : Nat → Tag} {N M : Nat} (h : Agree o o' N) (k : Agree o' o'' M) (hm : N ≤ M) : Agree o o'' N := fun g hg => (k g (by omega)).trans (h g hg)
theorem Turn.refl (o : Nat → Tag) (S : Tag → Prop) (w : World) : Turn o S w w := ⟨rfl, rfl, rfl, Nat.le_refl _, fun _ _ _ => rfl⟩
theorem Turn.trans {o o' : Nat → Tag} {S : Tag → Prop} {a b c : World} (h : Turn o S a b) (k : Turn o' S b c) (ha : Agree o o' a.heap.size) : Turn o S a c :=
  ⟨k.os.trans h.os, k.tape.trans h.tape, k.output.trans h.output, Nat.le_trans h.size k.size, fun i hi hne => (k.block i (Nat.lt_of_lt_of_le hi h.size) (by rw [ha i hi]; exact hne)).trans (h.block i hi hne)⟩
theorem Turn.below {o : Nat → Tag} {S : Tag → Prop} {a b c : World} (h : Turn o S a b) (k : Below b.heap.size b c) : Turn o S a c :=
  ⟨k.os.trans h.os, k.tape.trans h.tape, k.output.trans h.output, Nat.le_trans h.size k.size, fun i hi hne => (k.block i (Nat.lt_of_lt_of_le hi h.size)).trans (h.block i hi hne)⟩
theorem Turn.grown {o : Nat → Tag} {S : Tag → Prop} {a b c : World} {row : Option Nat} (h : Turn o S a b) (k : b.grownBy c row) (hr : ∀ g, row = some g → g < a.heap.size → S (o g)) : Turn o S a c :=
  ⟨k.os.trans h.os, k.tape.trans h.tape, k.output.trans h.output, Nat.le_trans h.size k.size, fun i hi hne => (k.block i (Nat.lt_of_lt_of_le hi h.size) (fun e => hne (hr i e.symm hi))).trans (h.block i hi hne)⟩
theorem Turn.ofBelow {o : Nat → Tag} {S : Tag → Prop} {a b : World} (k : Below a.heap.size a b) : Turn o S a b := (Turn.refl o S a).below k
theorem Turn.wide {o : Nat → Tag} {S S' : Tag → Prop} {a b : World} (h : Turn o S a b) (hs : ∀ t, S t → S' t) : Turn o S' a b :=
  ⟨h.os, h.tape, h.output, h.size, fun i hi hne => h.block i hi (fun e => hne (hs _ e))⟩
/-- What lies below B has not turned, if no tag in S lies there. -/
theorem Turn.lower {o : Nat → Tag} {S : Tag → Prop} {a b : World} {B : Nat} (h : Turn o S a b) (hB : B ≤ a.heap.size) (ho : ∀ g, g < B → ¬ S (o g)) : Below B a b :=
  ⟨h.os, h.tape, h.output, h.size, fun k hk => h.block k (by omega) (ho k hk)⟩
theorem Tagged.agree {o o' : Nat → Tag} {N : Nat} {t : Tag} {v : Value} (h : Tagged o N t v) (ha : Agree o o' N) : Tagged o' N t v := fun g hg hn => (ha g hn).trans (h g hg hn)
/-- A row of a tag that has not turned. -/
theorem own_turn {o : Nat → Tag} {S : Tag → Prop} {w w' : World} {base : Nat} {e : TypeId} {size n : Nat} {v : Value} {xs : List Value} {t : Tag} (h : w.ownsRow base e size v n xs) (ht : Tagged o w.heap.size t v) (hT : Turn o S w w') (hS : ¬ S t) : w'.ownsRow base e size v n xs := by
  rcases h with ⟨hl, ⟨rfl, rfl⟩ | ⟨g, cap, cur, rfl, hb, hg, hr⟩⟩
  · exact ⟨hl, .inl ⟨rfl, rfl⟩⟩
  · have hlt : g < w.heap.size := blk_lt hg
    refine ⟨hl, .inr ⟨g, cap, cur, rfl, hb, (hT.block g hlt ?_).trans hg, hr⟩⟩
    rw [ht g rfl hlt]
    exact hS
/-- A row's block is one of those that are there. -/
theorem Tagged.more {o : Nat → Tag} {w : World} {base : Nat} {e : TypeId} {size n : Nat} {v : Value} {xs : List Value} {t : Tag} (ht : Tagged o w.heap.size t v) (h : w.ownsRow base e size v n xs) (M : Nat) : Tagged o M t v := fun g hg _ => ht g hg (h.lt g hg).2
/-- From a world on all blocks have the tag t. -/
def retag (o : Nat → Tag) (N : Nat) (t : Tag) : Nat → Tag := fun g => if g < N then o g else t
theorem retag_agree (o : Nat → Tag) (N : Nat) (t : Tag) : Agree o (retag o N t) N := fun g hg => by unfold retag; rw [if_pos hg]
theorem retag_own {o : Nat → Tag} {N M : Nat} {t : Tag} {w : World} {e : TypeId} {size n : Nat} {v : Value} {xs : List Value} (h : w.ownsRow N e size v n xs) : Tagged (retag o N t) M t v := fun g hg _ => by
  have := (h.lt g hg).1
  unfold retag
  rw [if_neg (by omega)]
/-- A row: either of the old tag, or new. -/
theorem retag_tag {o : Nat → Tag} {N M : Nat} {t : Tag} {v : Value} (h : Tagged o N t v) : Tagged (retag o N t) M t v := fun g hg _ => by
  unfold retag
  split
  · exact h g hg (by assumption)
  · rfl
/-- A slice's first n elements, at size cells each, can be read. -/
def Reads (w : World) (v : Value) (n : Nat) (xs : List Value) : Prop :=
  ∃ ao c, v = .slice ao n c ∧ n ≤ c ∧ c ≤ 9223372036854775807 ∧ (∀ g, v.ownBlock = some g → g < w.heap.size) ∧ (0 < n → ∃ g, ao = some ⟨g, 0, none⟩ ∧ g < w.heap.size ∧ ∀ j u, xs[j]? = some u → w.cell? ⟨g, j, none⟩ = some u)
theorem Reads.own {w : World} {base : Nat} {e : TypeId} {size n : Nat} {v : Value} {xs : List Value} (h : w.ownsRow base e size v n xs) : Reads w v n xs := by
  have hh := h
  rcases hh with ⟨hl, ⟨rfl, rfl⟩ | ⟨g, cap, cur, rfl, hb, hg, hnc, hm, _⟩⟩
  · exact ⟨none, 0, rfl, Nat.le_refl _, by omega, (fun g hg => by cases hg), fun h => by omega⟩
  · unfold maxLen at hm
    refine ⟨_, cap, rfl, hnc, hm, fun k hk => (h.lt k hk).2, fun _ => ⟨g, rfl, blk_lt hg, fun j u hj => ?_⟩⟩
    have := h.cells (g := g) rfl j u hj
    rwa [add_lit] at this
theorem Reads.turn {o : Nat → Tag} {S : Tag → Prop} {w w' : World} {v : Value} {n : Nat} {xs : List Value} {t : Tag} (h : Reads w v n xs) (ht : Tagged o w.heap.size t v) (hT : Turn o S w w') (hS : ¬ S t) : Reads w' v n xs := by
  obtain ⟨ao, c, rfl, h1, h2, h4, h3⟩ := h
  refine ⟨ao, c, rfl, h1, h2, fun g hg => Nat.lt_of_lt_of_le (h4 g hg) hT.size, fun hn => ?_⟩
  obtain ⟨g, rfl, hg, hc⟩ := h3 hn
  refine ⟨g, rfl, Nat.lt_of_lt_of_le hg hT.size, fun j u hj => ?_⟩
  rw [← hc j u hj]
  exact World.cell?_of_block (hT.block g hg (by rw [ht g rfl hg]; exact hS))
theorem Reads.below {w w' : World} {v : Value} {n : Nat} {xs : List Value} (h : Reads w v n xs) (hb : Below w.heap.size w w') : Reads w' v n xs := by
  obtain ⟨ao, c, rfl, h1, h2, h4, h3⟩ := h
  refine ⟨ao, c, rfl, h1, h2, fun g hg => Nat.lt_of_lt_of_le (h4 g hg) hb.size, fun hn => ?_⟩
  obtain ⟨g, rfl, hg, hc⟩ := h3 hn
  exact ⟨g, rfl, Nat.lt_of_lt_of_le hg hb.size, fun j u hj => (hb.cell (p := ⟨g, j, none⟩) hg).trans (hc j u hj)⟩
/-- The Book's block. -/
def BookAt (w : World) (B : Nat) (T : TypeId) (o : Nat → Tag) (bn : Nat) (cs : Array Value) : Prop :=
  w.heap[bn]? = some (.cells cs T (0, 0)) ∧ cs.size = 22 ∧ B ≤ bn ∧ o bn = (99, 0, 0)
structure KRow (α : Type) where
  v : Value
  c : Value
  l : List α
/-- The lists of one kind, and their copies. -/
structure Kept {α : Type} (w : World) (B : Nat) (o : Nat → Tag) (j : Nat) (te T : TypeId) (size : Nat) (enc : List α → List Value) (ov wv : Value) (rows : List (KRow α)) : Prop where
  few : rows.length ≤ 1000
  short : ∀ r ∈ rows, r.l.length ≤ 100000
  out : w.ownsRow B te 1 ov rows.length (rows.map (·.v))
  was : w.ownsRow B te 1 wv rows.length (rows.map (·.c))
  tout : Tagged o w.heap.size (j, 0, 0) ov
  twas : Tagged o w.heap.size (j, 1, 0) wv
  row : ∀ i r, rows[i]? = some r → w.ownsRow B T size r.v r.l.length (enc r.l) ∧ w.ownsRow B T size r.c r.l.length (enc r.l) ∧ Tagged o w.heap.size (j, 2, i) r.v ∧ Tagged o w.heap.size (j, 3, i) r.c
theorem Kept.nil_ {α : Type} {w : World} {B : Nat} {o : Nat → Tag} {j : Nat} {te T : TypeId} {size : Nat} {enc : List α → List Value} : Kept w B o j te T size enc (.slice none 0 0) (.slice none 0 0) [] :=
  ⟨by simp, by simp, World.ownsRow_nil _ _ _ _, World.ownsRow_nil _ _ _ _, (fun g hg => by cases hg), (fun g hg => by cases hg), (fun i r h => by simp at h)⟩
theorem Kept.turn {α : Type} {w w' : World} {B : Nat} {o o' : Nat → Tag} {S : Tag → Prop} {j : Nat} {te T : TypeId} {size : Nat} {enc : List α → List Value} {ov wv : Value} {rows : List (KRow α)}
    (h : Kept w B o j te T size enc ov wv rows) (hT : Turn o S w w') (hS : ∀ r i, ¬ S (j, r, i)) (ha : Agree o o' w.heap.size) : Kept w' B o' j te T size enc ov wv rows :=
  ⟨h.few, h.short, own_turn h.out h.tout hT (hS _ _), own_turn h.was h.twas hT (hS _ _), (h.tout.agree ha).more h.out _, (h.twas.agree ha).more h.was _, fun i r hr => by
    obtain ⟨r1, r2, r3, r4⟩ := h.row i r hr
    exact ⟨own_turn r1 r3 hT (hS _ _), own_turn r2 r4 hT (hS _ _), (r3.agree ha).more r1 _, (r4.agree ha).more r2 _⟩⟩
theorem Kept.below {α : Type} {w w' : World} {B : Nat} {o : Nat → Tag} {j : Nat} {te T : TypeId} {size : Nat} {enc : List α → List Value} {ov wv : Value} {rows : List (KRow α)}
    (h : Kept w B o j te T size enc ov wv rows) (hb : Below w.heap.size w w') : Kept w' B o j te T size enc ov wv rows :=
  h.turn (S := fun _ => False) (Turn.ofBelow hb) (fun _ _ => id) (Agree.refl _ _)
/-- The lists of one kind, each marked with its own marks. -/
structure Marked {α : Type} (w : World) (B : Nat) (o : Nat → Tag) (j : Nat) (te T : TypeId) (size : Nat) (enc : List α → List Value) (mk : Nat → Nat → α) (ov : Value) (rows : List (Value × Nat)) : Prop where
  few : rows.length ≤ 1000
  short : ∀ r ∈ rows, r.2 ≤ 100000
  out : w.ownsRow B te 1 ov rows.length (rows.map (·.1))
  tout : Tagged o w.heap.size (j, 0, 0) ov
  row : ∀ i r, rows[i]? = some r → w.ownsRow B T size r.1 r.2 (enc ((List.range r.2).map (mk i))) ∧ Tagged o w.heap.size (j, 2, i) r.1
theorem Marked.turn {α : Type} {w w' : World} {B : Nat} {o o' : Nat → Tag} {S : Tag → Prop} {j : Nat} {te T : TypeId} {size : Nat} {enc : List α → List Value} {mk : Nat → Nat → α} {ov : Value} {rows : List (Value × Nat)}
    (h : Marked w B o j te T size enc mk ov rows) (hT : Turn o S w w') (hS : ∀ r i, ¬ S (j, r, i)) (ha : Agree o o' w.heap.size) : Marked w' B o' j te T size enc mk ov rows :=
  ⟨h.few, h.short, own_turn h.out h.tout hT (hS _ _), (h.tout.agree ha).more h.out _, fun i r hr => by
    obtain ⟨r1, r3⟩ := h.row i r hr
    exact ⟨own_turn r1 r3 hT (hS _ _), (r3.agree ha).more r1 _⟩⟩
/-- Lists that read as marks, for the last look: kept ones and grown ones. -/
structure Looks {α : Type} (w : World) (B : Nat) (o : Nat → Tag) (j : Nat) (te : TypeId) (enc : List α → List Value) (mk : Nat → Nat → α) (ov gv : Value) (rows grown : List (Value × Nat)) : Prop where
  few : rows.length ≤ 1000
  fewg : grown.length ≤ 1000
  short : ∀ r ∈ rows, r.2 ≤ 100000
  shortg : ∀ r ∈ grown, r.2 ≤ 200000
  out : w.ownsRow B te 1 ov rows.length (rows.map (·.1))
  outg : w.ownsRow B te 1 gv grown.length (grown.map (·.1))
  tout : Tagged o w.heap.size (j, 0, 0) ov
  toutg : Tagged o w.heap.size (j, 4, 0) gv
  row : ∀ i r, rows[i]? = some r → Reads w r.1 r.2 (enc ((List.range r.2).map (mk i))) ∧ Tagged o w.heap.size (j, 2, i) r.1
  rowg : ∀ i r, grown[i]? = some r → Reads w r.1 r.2 (enc ((List.range r.2).map (mk i))) ∧ Tagged o w.heap.size (j, 2, i) r.1
theorem Tagged.reads {o o' : Nat → Tag} {t : Tag} {w : World} {v : Value} {n : Nat} {xs : List Value} (ht : Tagged o w.heap.size t v) (h : Reads w v n xs) (ha : Agree o o' w.heap.size) (M : Nat) : Tagged o' M t v := by
  intro g hg _
  obtain ⟨_, _, _, _, _, h4, _⟩ := h
  exact (ha g (h4 g hg)).trans (ht g hg (h4 g hg))
theorem Looks.turn {α : Type} {w w' : World} {B : Nat} {o o' : Nat → Tag} {S : Tag → Prop} {j : Nat} {te : TypeId} {enc : List α → List Value} {mk : Nat → Nat → α} {ov gv : Value} {rows grown : List (Value × Nat)}
    (h : Looks w B o j te enc mk ov gv rows grown) (hT : Turn o S w w') (hS : ∀ r i, ¬ S (j, r, i)) (ha : Agree o o' w.heap.size) : Looks w' B o' j te enc mk ov gv rows grown :=
  ⟨h.few, h.fewg, h.short, h.shortg, own_turn h.out h.tout hT (hS _ _), own_turn h.outg h.toutg hT (hS _ _), (h.tout.agree ha).more h.out _, (h.toutg.agree ha).more h.outg _,
    fun i r hr => by
      obtain ⟨r1, r3⟩ := h.row i r hr
      exact ⟨r1.turn r3 hT (hS _ _), r3.reads r1 ha _⟩,
    fun i r hr => by
      obtain ⟨r1, r3⟩ := h.rowg i r hr
      exact ⟨r1.turn r3 hT (hS _ _), r3.reads r1 ha _⟩⟩
theorem row_ne {o : Nat → Tag} {N : Nat} {t t' : Tag} {w : World} {base : Nat} {e : TypeId} {size n : Nat} {v v' : Value} {xs : List Value} (h : w.ownsRow base e size v n xs) (ht : Tagged o N t v) (ht' : Tagged o N t' v') (hN : w.heap.size ≤ N) (hne : t ≠ t') : v.ownBlock = none ∨ v.ownBlock ≠ v'.ownBlock := by
  rcases hv : v.ownBlock with _ | g
  · exact .inl rfl
  · refine .inr (fun e => ?_)
    have hl := (h.lt g hv).2
    exact hne ((ht g hv (by omega)).symm.trans (ht' g e.symm (by omega)))
/-- The state of a put, at place i: rows ahead of it are marked. -/
def PutAt {α : Type} (w : World) (B : Nat) (T : TypeId) (size : Nat) (enc : List α → List Value) (mk : Nat → Nat → α) (rows : List (KRow α)) (i : Nat) (W : World) : Prop :=
  ∀ i' r, rows[i']? = some r → W.ownsRow B T size r.v r.l.length (enc (if i' < i then (List.range r.l.length).map (mk i') else r.l))
/-- The state within a row. -/
def mix {α : Type} (mk : Nat → Nat → α) (i : Nat) (l : List α) (k : Nat) : List α := (List.range k).map (mk i) ++ l.drop k
theorem mix_len {α : Type} (mk : Nat → Nat → α) (i : Nat) (l : List α) (k : Nat) (h : k ≤ l.length) : (mix mk i l k).length = l.length := by simp [mix]; omega
theorem mix_zero {α : Type} (mk : Nat → Nat → α) (i : Nat) (l : List α) : mix mk i l 0 = l := by simp [mix]
theorem mix_all {α : Type} (mk : Nat → Nat → α) (i : Nat) (l : List α) : mix mk i l l.length = (List.range l.length).map (mk i) := by simp [mix]
theorem mix_succ {α : Type} (mk : Nat → Nat → α) (i : Nat) (l : List α) (k : Nat) (h : k < l.length) : mix mk i l (k + 1) = (mix mk i l k).set k (mk i k) := by
  unfold mix
  rw [List.range_succ, List.map_append, List.set_append, List.length_map, List.length_range, if_neg (by omega), Nat.sub_self, List.drop_eq_getElem_cons h, List.set_cons_zero]
  simp
theorem range_split {α : Type} (f : Nat → α) (a k : Nat) : (List.range (a + k)).map f = (List.range a).map f ++ (List.range k).map (fun x => f (a + x)) := by
  rw [List.range_add, List.map_append, List.map_map]
  rfl
/-- A row that grows, at place i; v0 is what it was. -/
structure GrowL {α : Type} (wA : World) (oi : Nat → Tag) (j i B : Nat) (T : TypeId) (size : Nat) (enc : List α → List Value) (mk : Nat → Nat → α) (v0 : Value) (n m : Nat) (l : Value) (wq : World) : Prop where
  own : wq.ownsRow B T size l (n + m) (enc ((List.range (n + m)).map (mk i)))
  tag : Tagged oi wA.heap.size (j, 2, i) l
  turn : Turn oi (fun t => t = (j, 2, i)) wA wq
  old : Reads wq v0 n (enc ((List.range n).map (mk i)))
theorem GrowL.step {α : Type} {wA wq w1 w2 : World} {oi : Nat → Tag} {j i B : Nat} {T : TypeId} {size : Nat} {enc : List α → List Value} {mk : Nat → Nat → α} {v0 : Value} {n m k : Nat} {l l' : Value}
    (henc : ∀ a b, enc (a ++ b) = enc a ++ enc b) (h : GrowL wA oi j i B T size enc mk v0 n m l wq) (hb : Below wq.heap.size wq w1) (hg : w1.grownBy w2 l.ownBlock)
    (hown : w2.ownsRow B T size l' (n + m + k) (enc ((List.range (n + m)).map (mk i)) ++ enc ((List.range k).map (fun x => mk i (n + m + x)))))
    (hat : l'.ownBlock = l.ownBlock ∨ l'.ownBlock = some w1.heap.size)
    (hold : ∀ g, l.ownBlock = some g → ∀ j u, (enc ((List.range (n + m)).map (mk i)))[j]? = some u → w2.cell? ⟨g, j, none⟩ = some u) :
    GrowL wA oi j i B T size enc mk v0 n (m + k) l' w2 := by
  have hT1 := h.turn.below hb
  refine ⟨by rw [← Nat.add_assoc, range_split, henc]; exact hown, fun g hg' hlt => ?_, hT1.grown hg (fun g hg' hlt => h.tag g hg' hlt), ?_⟩
  · rcases hat with e | e
    · exact h.tag g (e ▸ hg') hlt
    · rw [e] at hg'
      injection hg' with hg'
      have := hT1.size
      omega
  · obtain ⟨ao, c, rfl, h1, h2, h4, h3⟩ := h.old.below hb
    refine ⟨ao, c, rfl, h1, h2, fun g hg' => Nat.lt_of_lt_of_le (h4 g hg') hg.size, fun hn => ?_⟩
    obtain ⟨g, rfl, hlt, hc⟩ := h3 hn
    refine ⟨g, rfl, Nat.lt_of_lt_of_le hlt hg.size, fun q u hq => ?_⟩
    by_cases he : l.ownBlock = some g
    · refine hold g he q u ?_
      rw [range_split, henc, List.getElem?_append_left (List.getElem?_eq_some_iff.1 hq).1]
      exact hq
    · rw [← hc q u hq]
      exact World.cell?_of_block (hg.block g hlt (fun e => he e.symm))
/-- All rows up to place i have grown. -/
structure GrowAt {α : Type} (w : World) (B : Nat) (o : Nat → Tag) (j : Nat) (te T : TypeId) (size : Nat) (enc : List α → List Value) (mk : Nat → Nat → α) (rows : List (Value × Nat)) (i : Nat) (done : List (Value × Nat)) (oi : Nat → Tag) (wr : World) (out : Value) : Prop where
  len : done.length = i
  agree : Agree o oi w.heap.size
  turn : Turn o (fun t => t.1 = j ∧ 2 ≤ t.2.1) w wr
  oown : wr.ownsRow B te 1 out i (done.map (·.1))
  tout : Tagged oi wr.heap.size (j, 4, 0) out
  rowsAt : ∀ i' r, rows[i']? = some r → Reads wr r.1 r.2 (enc ((List.range r.2).map (mk i'))) ∧ Tagged oi wr.heap.size (j, 2, i') r.1 ∧ (i ≤ i' → wr.ownsRow B T size r.1 r.2 (enc ((List.range r.2).map (mk i'))))
  doneAt : ∀ i' r, done[i']? = some r → Reads wr r.1 r.2 (enc ((List.range r.2).map (mk i'))) ∧ Tagged oi wr.heap.size (j, 2, i') r.1
  short : ∀ r ∈ done, r.2 ≤ 200000
theorem GrowAt.start {α : Type} {w : World} {B : Nat} {o : Nat → Tag} {j : Nat} {te T : TypeId} {size : Nat} {enc : List α → List Value} {mk : Nat → Nat → α} {ov : Value} {rows : List (Value × Nat)}
    (h : Marked w B o j te T size enc mk ov rows) : GrowAt w B o j te T size enc mk rows 0 [] o w (.slice none 0 0) :=
  ⟨rfl, Agree.refl _ _, Turn.refl _ _ _, World.ownsRow_nil _ _ _ _, (fun g hg => by cases hg), fun i' r hr => ⟨Reads.own (h.row i' r hr).1, (h.row i' r hr).2, fun _ => (h.row i' r hr).1⟩, (fun i' r hr => by simp at hr), by simp⟩
theorem GrowAt.row {α : Type} {w wr : World} {B : Nat} {o oi : Nat → Tag} {j : Nat} {te T : TypeId} {size : Nat} {enc : List α → List Value} {mk : Nat → Nat → α} {rows done : List (Value × Nat)} {i : Nat} {out : Value} {r : Value × Nat}
    (h : GrowAt w B o j te T size enc mk rows i done oi wr out) (hr : rows[i]? = some r) : GrowL wr oi j i B T size enc mk r.1 r.2 0 r.1 wr :=
  ⟨(h.rowsAt i r hr).2.2 (Nat.le_refl _), (h.rowsAt i r hr).2.1, Turn.refl _ _ _, (h.rowsAt i r hr).1⟩
theorem GrowAt.step {α : Type} {w wA wB wC : World} {B : Nat} {o oi : Nat → Tag} {j : Nat} {te T : TypeId} {size : Nat} {enc : List α → List Value} {mk : Nat → Nat → α} {rows done : List (Value × Nat)} {i m : Nat} {out out' l : Value} {r : Value × Nat}
    (h : GrowAt w B o j te T size enc mk rows i done oi wA out) (hr : rows[i]? = some r) (hL : GrowL wA oi j i B T size enc mk r.1 r.2 m l wB) (hs : r.2 + m ≤ 200000)
    (hg : wB.grownBy wC out.ownBlock) (hown : wC.ownsRow B te 1 out' (i + 1) (done.map (·.1) ++ [l])) (hat : out'.ownBlock = out.ownBlock ∨ ∀ g, out'.ownBlock = some g → wB.heap.size ≤ g) :
    GrowAt w B o j te T size enc mk rows (i + 1) (done ++ [(l, r.2 + m)]) (retag (retag oi wA.heap.size (j, 2, i)) wB.heap.size (j, 4, 0)) wC out' := by
  have hwA : w.heap.size ≤ wA.heap.size := h.turn.size
  have hAB : wA.heap.size ≤ wB.heap.size := hL.turn.size
  have a1 : Agree oi (retag oi wA.heap.size (j, 2, i)) wA.heap.size := retag_agree _ _ _
  have a2 : Agree (retag oi wA.heap.size (j, 2, i)) (retag (retag oi wA.heap.size (j, 2, i)) wB.heap.size (j, 4, 0)) wB.heap.size := retag_agree _ _ _
  have a3 := a1.trans a2 hAB
  have toutB : Tagged (retag oi wA.heap.size (j, 2, i)) wB.heap.size (j, 4, 0) out := (h.tout.agree a1).more h.oown _
  have tlB : Tagged (retag oi wA.heap.size (j, 2, i)) wB.heap.size (j, 2, i) l := retag_tag hL.tag
  have T2 : Turn (retag oi wA.heap.size (j, 2, i)) (fun t => t = (j, 4, 0)) wB wC := (Turn.refl _ _ _).grown hg (fun g hg' hlt => toutB g hg' hlt)
  have far : ∀ i', i' ≠ i → ¬ ((j, 2, i') : Tag) = (j, 2, i) := fun i' hne e => hne (by injection e with _ e; injection e)
  have far2 : ∀ i', ¬ ((j, 2, i') : Tag) = (j, 4, 0) := fun i' e => by injection e with _ e; injection e with e; cases e
  have keep : ∀ i' (v : Value) (n : Nat) (xs : List Value), i' ≠ i → Reads wA v n xs → Tagged oi wA.heap.size (j, 2, i') v → Reads wC v n xs ∧ Tagged (retag (retag oi wA.heap.size (j, 2, i)) wB.heap.size (j, 4, 0)) wC.heap.size (j, 2, i') v := by
    intro i' v n xs hne hR hT
    have r1 := hR.turn hT hL.turn (far i' hne)
    have t1 : Tagged (retag oi wA.heap.size (j, 2, i)) wB.heap.size (j, 2, i') v := hT.reads hR a1 _
    exact ⟨r1.turn t1 T2 (far2 i'), t1.reads r1 a2 _⟩
  refine ⟨by rw [List.length_append, h.len]; rfl, h.agree.trans a3 hwA, ?_, by rw [List.map_append]; exact hown, fun g hg' hlt => ?_, fun i' r' hr' => ?_, fun i' r' hr' => ?_, ?_⟩
  · refine (h.turn.trans (hL.turn.wide (S' := fun t => t.1 = j ∧ 2 ≤ t.2.1) (fun t ht => by subst ht; exact ⟨rfl, Nat.le_refl _⟩)) h.agree).trans (T2.wide (S' := fun t => t.1 = j ∧ 2 ≤ t.2.1) (fun t ht => by subst ht; exact ⟨rfl, by show 2 ≤ 4; omega⟩)) (h.agree.trans a1 hwA)
  · rcases hat with e | e
    · have hlo := (h.oown.lt g (e ▸ hg')).2
      exact (a3 g hlo).trans (h.tout g (e ▸ hg') hlo)
    · have := e g hg'
      unfold retag
      rw [if_neg (by omega)]
  · obtain ⟨q1, q2, q3⟩ := h.rowsAt i' r' hr'
    by_cases hii : i' = i
    · subst hii
      rw [hr] at hr'
      injection hr' with hr'
      subst hr'
      have tB : Tagged (retag oi wA.heap.size (j, 2, i')) wB.heap.size (j, 2, i') r.1 := q2.reads q1 a1 _
      exact ⟨hL.old.turn tB T2 (far2 i'), tB.reads hL.old a2 _, fun hh => by omega⟩
    · obtain ⟨k1, k2⟩ := keep i' _ _ _ hii q1 q2
      refine ⟨k1, k2, fun hh => ?_⟩
      have o1 := own_turn (q3 (by omega)) q2 hL.turn (far i' hii)
      exact own_turn o1 ((q2.agree a1).more (q3 (by omega)) _) T2 (far2 i')
  · rcases Nat.lt_or_ge i' done.length with hlt | hge
    · rw [List.getElem?_append_left hlt] at hr'
      obtain ⟨q1, q2⟩ := h.doneAt i' r' hr'
      exact keep i' _ _ _ (by have := h.len; omega) q1 q2
    · rw [List.getElem?_append_right hge] at hr'
      have hi0 : i' - done.length = 0 := by
        have := (List.getElem?_eq_some_iff.1 hr').1
        simp at this
        omega
      rw [hi0] at hr'
      injection hr' with hr'
      subst hr'
      have hii : i' = i := by have := h.len; omega
      subst hii
      have rB := Reads.own hL.own
      exact ⟨rB.turn tlB T2 (far2 _), tlB.reads rB a2 _⟩
  · intro r' hr'
    rcases List.mem_append.1 hr' with hr' | hr'
    · exact h.short r' hr'
    · simp at hr'
      subst hr'
      exact hs
theorem GrowAt.fin {α : Type} {w wr : World} {B : Nat} {o oi : Nat → Tag} {j : Nat} {te T : TypeId} {size : Nat} {enc : List α → List Value} {mk : Nat → Nat → α} {rows done : List (Value × Nat)} {out ov : Value}
    (h : GrowAt w B o j te T size enc mk rows rows.length done oi wr out) (hM : Marked w B o j te T size enc mk ov rows) : Looks wr B oi j te enc mk ov out rows done :=
  ⟨hM.few, by rw [h.len]; exact hM.few, hM.short, h.short, own_turn hM.out hM.tout h.turn (by simp), by rw [h.len]; exact h.oown, (hM.tout.agree h.agree).more hM.out _, h.tout, fun i r hr => ⟨(h.rowsAt i r hr).1, (h.rowsAt i r hr).2.1⟩, h.doneAt⟩
theorem own_monoK {w : World} {base base' : Nat} {e : TypeId} {size n : Nat} {v : Value} {xs : List Value} (h : w.ownsRow base e size v n xs) (hb : base' ≤ base) : w.ownsRow base' e size v n xs := by
  rcases h with ⟨hl, h | ⟨g, cap, cur, hv, hg, hr⟩⟩
  · exact ⟨hl, .inl h⟩
  · exact ⟨hl, .inr ⟨g, cap, cur, hv, by omega, hr⟩⟩
/-- What a retagged value's row carries: the old row, or a new one. -/
theorem retag_hat {o : Nat → Tag} {N M : Nat} {t : Tag} {v v' : Value} (h : Tagged o N t v) (hv : v'.ownBlock = v.ownBlock ∨ ∀ g, v'.ownBlock = some g → N ≤ g) : Tagged (retag o N t) M t v' := fun g hg _ => by
  unfold retag
  split
  · rename_i hlt
    rcases hv with e | e
    · exact h g (e ▸ hg) hlt
    · have := e g hg
      omega
  · rfl
theorem Kept.add {α : Type} {w w1 w2 w3 w4 w5 : World} {B bn p q j : Nat} {o : Nat → Tag} {BT te T : TypeId} {size n : Nat} {enc : List α → List Value} {ov wv ov' wv' v c : Value} {rows : List (KRow α)} {l : List α} {cs : Array Value}
    (h : Kept w B o j te T size enc ov wv rows) (hB : BookAt w B BT o bn cs) (hBw : B ≤ w.heap.size) (hj : j ≠ 99) (hN : rows.length ≤ 999) (hv : w.ownsRow B T size v n (enc l)) (hl : l.length = n) (hn : n ≤ 100000) (ht : Tagged o w.heap.size (j, 2, rows.length) v)
    (g1 : w.grownBy w1 ov.ownBlock) (own1 : w1.ownsRow B te 1 ov' (rows.length + 1) (rows.map (·.v) ++ [v])) (at1 : ov'.ownBlock = ov.ownBlock ∨ ∀ g, ov'.ownBlock = some g → w.heap.size ≤ g)
    (e2 : w2 = w1.setCell ⟨bn, p, none⟩ ov') (hb : Below w2.heap.size w2 w3) (own3 : w3.ownsRow w2.heap.size T size c n (enc l))
    (g4 : w3.grownBy w4 wv.ownBlock) (own4 : w4.ownsRow B te 1 wv' (rows.length + 1) (rows.map (·.c) ++ [c])) (at4 : wv'.ownBlock = wv.ownBlock ∨ ∀ g, wv'.ownBlock = some g → w3.heap.size ≤ g)
    (e5 : w5 = w4.setCell ⟨bn, q, none⟩ wv') :
    ∃ o', Agree o o' w.heap.size ∧ BookAt w5 B BT o' bn ((cs.setIfInBounds p ov').setIfInBounds q wv') ∧ Kept w5 B o' j te T size enc ov' wv' (rows ++ [⟨v, c, l⟩]) ∧ Turn o (fun t => t = (99, 0, 0) ∨ t = (j, 0, 0) ∨ t = (j, 1, 0)) w w5 := by
  obtain ⟨b1, b2, b3, b4⟩ := hB
  have hbl : bn < w.heap.size := blk_lt b1
  have s1 : w.heap.size ≤ w1.heap.size := g1.size
  have s2 : w2.heap.size = w1.heap.size := by rw [e2]; simp [World.setCell]
  have s3 : w2.heap.size ≤ w3.heap.size := hb.size
  have s4 : w3.heap.size ≤ w4.heap.size := g4.size
  have a1 : Agree o (retag o w.heap.size (j, 0, 0)) w.heap.size := retag_agree _ _ _
  have a2 : Agree (retag o w.heap.size (j, 0, 0)) (retag (retag o w.heap.size (j, 0, 0)) w2.heap.size (j, 3, rows.length)) w2.heap.size := retag_agree _ _ _
  have a3 : Agree (retag (retag o w.heap.size (j, 0, 0)) w2.heap.size (j, 3, rows.length)) (retag (retag (retag o w.heap.size (j, 0, 0)) w2.heap.size (j, 3, rows.length)) w3.heap.size (j, 1, 0)) w3.heap.size := retag_agree _ _ _
  have a12 := a1.trans a2 (by omega)
  have a13 := a12.trans a3 (by omega)
  have a23 := a2.trans a3 (by omega)
  have hob : ∀ o', Agree o o' w.heap.size → o' bn = (99, 0, 0) := fun o' ha => (ha bn hbl).trans b4
  have ne99 : ∀ r i, ¬ ((j, r, i) : Tag) = (99, 0, 0) := fun r i e => by injection e with e; exact hj e
  have set_turn : ∀ (o' : Nat → Tag) (W : World) (i : Nat) (u : Value), Agree o o' w.heap.size → Turn o' (fun t => t = (99, 0, 0)) W (W.setCell ⟨bn, i, none⟩ u) := fun o' W i u ha =>
    (Turn.refl _ _ _).grown (grown_set W bn i u) (fun g hg _ => by injection hg with hg; subst hg; exact hob o' ha)
  have bn1 : ov.ownBlock ≠ some bn := fun e => by
    have := h.tout bn e hbl
    rw [b4] at this
    exact ne99 0 0 this.symm
  have bn4 : wv.ownBlock ≠ some bn := fun e => by
    have := h.twas bn e hbl
    rw [b4] at this
    exact ne99 1 0 this.symm
  -- the turns
  have T12 : Turn o (fun t => t = (99, 0, 0) ∨ t = (j, 0, 0) ∨ t = (j, 1, 0)) w w2 := by
    rw [e2]
    exact ((Turn.refl _ _ _).grown g1 (fun g hg hlt => .inr (.inl (h.tout g hg hlt)))).trans ((set_turn o w1 p ov' (Agree.refl _ _)).wide (fun t ht => .inl ht)) (Agree.refl _ _)
  have T15 : Turn o (fun t => t = (99, 0, 0) ∨ t = (j, 0, 0) ∨ t = (j, 1, 0)) w w5 := by
    rw [e5]
    exact ((T12.below hb).grown g4 (fun g hg hlt => .inr (.inr (h.twas g hg hlt)))).trans ((set_turn o w4 q wv' (Agree.refl _ _)).wide (fun t ht => .inl ht)) (Agree.refl _ _)
  have T35 : ∀ o', Agree o o' w.heap.size → Turn o' (fun t => t = (99, 0, 0) ∨ t = (j, 1, 0)) w3 w5 := fun o' ha => by
    rw [e5]
    exact ((Turn.refl _ _ _).grown g4 (fun g hg hlt => .inr (((h.twas.agree ha).more h.was w3.heap.size) g hg hlt))).trans ((set_turn o' w4 q wv' ha).wide (fun t ht => .inl ht)) (Agree.refl _ _)
  have T25 : ∀ o', Agree o o' w.heap.size → Turn o' (fun t => t = (99, 0, 0) ∨ t = (j, 1, 0)) w2 w5 := fun o' ha => (Turn.ofBelow hb).trans (T35 o' ha) (Agree.refl _ _)
  have tov : ∀ M, Tagged (retag o w.heap.size (j, 0, 0)) M (j, 0, 0) ov' := fun M => retag_hat h.tout at1
  have ov2 : w2.ownsRow B te 1 ov' (rows.length + 1) (rows.map (·.v) ++ [v]) := by
    rw [e2]
    exact own_turn own1 (tov _) (set_turn _ w1 p ov' a1) (ne99 _ _)
  have tc : ∀ M, Tagged (retag (retag o w.heap.size (j, 0, 0)) w2.heap.size (j, 3, rows.length)) M (j, 3, rows.length) c := fun M => retag_own own3
  have twv : ∀ M, Tagged (retag (retag (retag o w.heap.size (j, 0, 0)) w2.heap.size (j, 3, rows.length)) w3.heap.size (j, 1, 0)) M (j, 1, 0) wv' := fun M => retag_hat ((h.twas.agree a12).more h.was _) at4
  have fin1 : w5.ownsRow B te 1 ov' (rows.length + 1) (rows.map (·.v) ++ [v]) := own_turn ov2 (tov _) (T25 _ a1) (by rintro (e | e); exact ne99 _ _ e; (injection e with _ e; injection e with e; cases e))
  have fin2 : w5.ownsRow B te 1 wv' (rows.length + 1) (rows.map (·.c) ++ [c]) := by
    rw [e5]
    exact own_turn own4 (twv _) (set_turn _ w4 q wv' a13) (ne99 _ _)
  have hS : ∀ r i, 2 ≤ r → ¬ (((j, r, i) : Tag) = (99, 0, 0) ∨ ((j, r, i) : Tag) = (j, 0, 0) ∨ ((j, r, i) : Tag) = (j, 1, 0)) := fun r i hr e => by
    rcases e with e | e | e
    · exact ne99 _ _ e
    · injection e with _ e; injection e with e; omega
    · injection e with _ e; injection e with e; omega
  refine ⟨_, a13, ⟨?_, by simpa using b2, b3, hob _ a13⟩, ⟨by simp; omega, ?_, ?_, ?_, ((tov w2.heap.size).agree a23).more ov2 _, twv _, ?_⟩, T15⟩
  · have k1 : w1.heap[bn]? = some (.cells cs BT (0, 0)) := (g1.block bn hbl (fun e => bn1 e.symm)).trans b1
    have k2 : w2.heap[bn]? = some (.cells (cs.setIfInBounds p ov') BT (0, 0)) := by rw [e2]; exact blk_set k1 p ov'
    have k3 := (hb.block bn (by omega)).trans k2
    have k4 := (g4.block bn (by omega) (fun e => bn4 e.symm)).trans k3
    rw [e5]
    exact blk_set k4 q wv'
  · intro r hr
    rcases List.mem_append.1 hr with hr | hr
    · exact h.short r hr
    · simp at hr; subst hr; show l.length ≤ _; omega
  · rw [List.length_append, List.map_append]; exact fin1
  · rw [List.length_append, List.map_append]; exact fin2
  · intro i r hr
    rcases Nat.lt_or_ge i rows.length with hlt | hge
    · rw [List.getElem?_append_left hlt] at hr
      obtain ⟨r1, r2, r3, r4⟩ := h.row i r hr
      exact ⟨own_turn r1 r3 T15 (hS _ _ (by omega)), own_turn r2 r4 T15 (hS _ _ (by omega)), (r3.agree a13).more r1 _, (r4.agree a13).more r2 _⟩
    · rw [List.getElem?_append_right hge] at hr
      have hi0 : i - rows.length = 0 := by
        have := (List.getElem?_eq_some_iff.1 hr).1
        simp at this
        omega
      rw [hi0] at hr
      injection hr with hr
      subst hr
      obtain rfl : i = rows.length := by omega
      refine ⟨by rw [show (⟨v, c, l⟩ : KRow α).l.length = n from hl]; exact own_turn hv ht T15 (hS _ _ (by omega)), ?_, (ht.agree a13).more hv _, ((tc w3.heap.size).agree a3).more own3 _⟩
      rw [show (⟨v, c, l⟩ : KRow α).l.length = n from hl]
      exact own_turn (own_monoK own3 (by omega)) (tc _) (T35 _ a12) (by rintro (e | e); exact ne99 _ _ e; (injection e with _ e; injection e with e; cases e))
theorem Kept.apart {α : Type} {w : World} {B bn j : Nat} {o : Nat → Tag} {BT te T : TypeId} {size : Nat} {enc : List α → List Value} {ov wv : Value} {rows : List (KRow α)} {cs : Array Value} (h : Kept w B o j te T size enc ov wv rows) (hB : BookAt w B BT o bn cs) (hj : j ≠ 99) : ov.ownBlock ≠ some bn ∧ wv.ownBlock ≠ some bn := by
  have hbl : bn < w.heap.size := blk_lt hB.1
  have ne99 : ∀ r i, ¬ ((j, r, i) : Tag) = (99, 0, 0) := fun r i e => by injection e with e; exact hj e
  refine ⟨fun e => ?_, fun e => ?_⟩
  · have := h.tout bn e hbl
    rw [hB.2.2.2] at this
    exact ne99 0 0 this.symm
  · have := h.twas bn e hbl
    rw [hB.2.2.2] at this
    exact ne99 1 0 this.symm
/-- What is behind a list that was added. -/
def AddPost {α : Type} (w : World) (B bn p q j : Nat) (o : Nat → Tag) (BT te T : TypeId) (size : Nat) (enc : List α → List Value) (cs : Array Value) (w' : World) : Prop :=
  ∃ o' ov' wv' rows', Agree o o' w.heap.size ∧ BookAt w' B BT o' bn ((cs.setIfInBounds p ov').setIfInBounds q wv') ∧ Kept w' B o' j te T size enc ov' wv' rows' ∧ Turn o (fun t => t = (99, 0, 0) ∨ t = (j, 0, 0) ∨ t = (j, 1, 0)) w w'
theorem AddPost.same {α : Type} {w : World} {B bn p q j : Nat} {o : Nat → Tag} {BT te T : TypeId} {size : Nat} {enc : List α → List Value} {ov wv : Value} {rows : List (KRow α)} {cs : Array Value} (hB : BookAt w B BT o bn cs) (h : Kept w B o j te T size enc ov wv rows) (hc : (cs.setIfInBounds p ov).setIfInBounds q wv = cs) : AddPost w B bn p q j o BT te T size enc cs w :=
  ⟨o, ov, wv, rows, Agree.refl _ _, by rw [hc]; exact hB, h, Turn.refl _ _ _⟩
theorem grow_hat {g n c H : Nat} {v : Value} (h : v.ownBlock = some g ∨ H ≤ g) : (Value.slice (some ⟨g, 0, none⟩) n c).ownBlock = v.ownBlock ∨ ∀ k, (Value.slice (some ⟨g, 0, none⟩) n c).ownBlock = some k → H ≤ k := by
  rcases h with h | h
  · exact .inl h.symm
  · refine .inr (fun k hk => ?_)
    have : g = k := by simpa [Value.ownBlock] using hk
    omega
theorem reads_news {w : World} {ad : Addr} {n c : Nat} {xs : List Value} {size : Nat} (h : Reads w (.slice (some ad) n c) n xs) (hl : xs.length = n * size) : ∀ j u, xs[j]? = some u → w.cell? (ad.add j) = some u := by
  intro j u hj
  obtain ⟨ao', c', hv, _, _, _, h3⟩ := h
  injection hv with hv _ _
  subst hv
  have hlt := (List.getElem?_eq_some_iff.1 hj).1
  rcases Nat.eq_zero_or_pos n with h0 | h0
  · subst h0; omega
  · obtain ⟨g, hg, _, hc⟩ := h3 h0
    injection hg with hg
    subst hg
    rw [add_lit]
    exact hc j u hj
theorem below_undrew {B : Nat} {a w : World} (h : Below B a.drew w) : Below B a w := ⟨h.os, h.tape, h.output, h.size, h.block⟩
theorem BookAt.turn {w w' : World} {B bn : Nat} {T : TypeId} {o o' : Nat → Tag} {S : Tag → Prop} {cs : Array Value} (h : BookAt w B T o bn cs) (hT : Turn o S w w') (hS : ¬ S (99, 0, 0)) (ha : Agree o o' w.heap.size) : BookAt w' B T o' bn cs := by
  obtain ⟨h1, h2, h3, h4⟩ := h
  have hl := blk_lt h1
  exact ⟨(hT.block bn hl (by rw [h4]; exact hS)).trans h1, h2, h3, (ha bn hl).trans h4⟩
theorem BookAt.below {w w' : World} {B bn : Nat} {T : TypeId} {o : Nat → Tag} {cs : Array Value} (h : BookAt w B T o bn cs) (hb : Below w.heap.size w w') : BookAt w' B T o bn cs :=
  h.turn (S := fun _ => False) (Turn.ofBelow hb) id (Agree.refl _ _)
theorem own_capL {w : World} {base g : Nat} {e : TypeId} {size n c : Nat} {xs : List Value} (h : w.ownsRow base e size (.slice (some ⟨g, 0, none⟩) n c) n xs) : n ≤ c := by
  rcases h.2 with ⟨hv, _⟩ | ⟨g', cap, cur, hv, _, _, hm, _⟩
  · cases hv
  · injection hv with hv _ hc; subst hc; exact hm
theorem EntAt_mk {w : World} {g k : Nat} {e : Ent} (c : ∀ r, r < 4 → ∀ u, e.cells[r]? = some u → w.cell? ⟨g, k * 4 + r, none⟩ = some u) : EntAt w g (k * 4) e :=
  ⟨c 0 (by omega) _ rfl, c 1 (by omega) _ rfl, c 2 (by omega) _ rfl, c 3 (by omega) _ rfl⟩
end Go.Proofs.YtmdidmllaldbaaaGreat
