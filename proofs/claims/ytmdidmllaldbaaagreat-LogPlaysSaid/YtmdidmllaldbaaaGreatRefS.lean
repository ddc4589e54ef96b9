/- Steps that the walks of arboretumref7 share: a struct that is being made beside a reader and a row; append onto a row of the call's own within a region; rows apart. -/
import Derived.Test.YtmdidmllaldbaaaGreatRefRdr
import Derived.Test.YtmdidmllaldbaaaGreatRowsN
import Derived.Test.YtmdidmllaldbaaaGreatSince
import Derived.Deep.RegionLaw
import Derived.Laws.AppendOwnNone
import Derived.Deep.RegionWith
namespace Go.Proofs.YtmdidmllaldbaaaGreat
open Go.RowKit
set_option linter.unusedVariables false
set_option linter.unusedSimpArgs false
theorem undrewN {B m : Nat} {a w : World} (h : Below B (a.drewN m) w) : Below B a w := ⟨h.os, h.tape, h.output, h.size, h.block⟩
theorem RRdr.at7 {w w' : World} {b : Nat} {st : RSt} (h : RRdr w b st) (hb : w'.heap[b]? = w.heap[b]?) : RRdr w' b st := by
  obtain ⟨s, h1, h2, h3⟩ := h
  exact ⟨s, h1, h2, hb.trans h3⟩
theorem own_neT7 {w : World} {b base : Nat} {T e : TypeId} {size n : Nat} {cs : Array Value} {v : Value} {xs : List Value} (hb : w.heap[b]? = some (.cells cs T (0, 0))) (hT : T ≠ e) (h : w.ownsRow base e size v n xs) : v.ownBlock ≠ some b := by
  rcases h.2 with ⟨rfl, _⟩ | ⟨g, cap, cur, rfl, _, hg, _⟩
  · simp [Value.ownBlock]
  · intro he
    have hgb : g = b := by simpa [Value.ownBlock] using he
    subst hgb
    rw [hb] at hg
    injection hg with hg
    injection hg with _ h2
    exact hT h2
/-- A reader of the call's own, a struct that is being made, and a row. -/
structure RT (w0 W : World) (T : TypeId) (size b ge : Nat) (st : RSt) (cs : Array Value) (v : Value) (k : Nat) (xs : List Value) : Prop where
  rd : RRdr W b st
  blk : W.heap[ge]? = some (.cells cs T (0, 0))
  lo : w0.heap.size ≤ ge
  hb : w0.heap.size ≤ b
  own : W.ownsRow w0.heap.size T size v k xs
  ne : v.ownBlock ≠ some ge
  bel : Below w0.heap.size w0 W
theorem RT.apart {w0 W : World} {T : TypeId} {size b ge : Nat} {st : RSt} {cs : Array Value} {v : Value} {k : Nat} {xs : List Value} (h : RT w0 W T size b ge st cs v k xs) (hT : 47 ≠ T) : v.ownBlock ≠ some b ∧ ge ≠ b := by
  obtain ⟨s, _, _, h3⟩ := h.rd
  refine ⟨own_neT7 h3 hT h.own, fun e => ?_⟩
  have h1 := h.blk
  rw [e, h3] at h1
  injection h1 with h1
  injection h1 with _ h1
  exact hT h1
theorem RT.call {w0 W W' : World} {T : TypeId} {size b ge : Nat} {st st' : RSt} {cs : Array Value} {v : Value} {k : Nat} {xs : List Value} (h : RT w0 W T size b ge st cs v k xs) (hT : 47 ≠ T) (h' : RRdr W' b st') (hg : W.grownBy W' (some b)) : RT w0 W' T size b ge st' cs v k xs :=
  ⟨h', (hg.block ge (blk_lt h.blk) (fun e => by injection e with e; exact (h.apart hT).2 e)).trans h.blk, h.lo, h.hb, h.own.kept hg (.inr (h.apart hT).1), h.ne, h.bel.grown hg h.bel.size (fun j hj => by injection hj with hj; have := h.hb; omega)⟩
theorem RT.set {w0 W : World} {T : TypeId} {size b ge : Nat} {st : RSt} {cs : Array Value} {v : Value} {k : Nat} {xs : List Value} (h : RT w0 W T size b ge st cs v k xs) (hT : 47 ≠ T) (i : Nat) (u : Value) : RT w0 (W.setCell ⟨ge, i, none⟩ u) T size b ge st (cs.setIfInBounds i u) v k xs := by
  have hg := grown_set W ge i u
  refine ⟨h.rd.at7 (hg.block b h.rd.lt (fun e => (h.apart hT).2 (by injection e with e; exact e.symm))), blk_set h.blk i u, h.lo, h.hb, h.own.kept hg (.inr h.ne), h.ne, h.bel.grown hg h.bel.size (fun j hj => by injection hj with hj; have := h.lo; omega)⟩
theorem RT.start {w0 W : World} {T : TypeId} {size b k : Nat} {st : RSt} {v : Value} {xs : List Value} (h : RRdr W b st) (hb : w0.heap.size ≤ b) (ho : W.ownsRow w0.heap.size T size v k xs) (hbel : Below w0.heap.size w0 W) (cs : Array Value) :
    RT w0 (W.alloc (.cells cs T)) T size b W.heap.size st cs v k xs :=
  ⟨h.below ((Below.refl _ _).alloc (Nat.le_refl _) _), heap_alloc_new W _, hbel.size, hb, ho.alloc _, (fun e => by have := (ho.lt _ e).2; omega), hbel.alloc hbel.size _⟩
theorem RT.cells {w0 W : World} {T : TypeId} {size b ge : Nat} {st : RSt} {cs : Array Value} {v : Value} {k : Nat} {xs : List Value} (h : RT w0 W T size b ge st cs v k xs) (i : Nat) : W.cell? ⟨ge, i, none⟩ = cs[i]? ∧ W.frozen? ⟨ge, i, none⟩ = false := ⟨blk_cell h.blk i, blk_frozen h.blk i⟩
theorem step_append_own {P : Program} (w : World) {ops : Array Oper} {o : Oper} {a : Act} {K : Act → World → Prop} {Q : Exit → Act → World → Prop} {E : Prop} (hgd : o.guard = none) (s x : Operand) (t : TypeId)
    (ho : o.op = .call { callee := .builtin .append, args := #[s, x], argTypes := #[t, t] })
    (base : Nat) (e : TypeId) (i : TypeInfo) (z : Value) (size bytes : Nat) (ht : P.underlying t = some (.slice e)) (hi : P.info? e = some i) (hz : i.zero = some z)
    (hsize : i.size = size) (hby : i.bytes = bytes) (hzs : z.cells.size = size) (hsz : 0 < size)
    (v : Value) (n : Nat) (xs : List Value) (hs : a.eval s = v) (hown : w.ownsRow base e size v n xs)
    (ad : Addr) (m c : Nat) (news : List Value) (hx : a.eval x = .slice (some ad) m c) (hl : news.length = m * size) (hnews : ∀ j u, news[j]? = some u → w.cell? (ad.add j) = some u) (h1 : ∀ u ∈ news, u.oneCell' = true)
    (h63 : n + m ≤ maxLen) (hbytes : (n + m) * bytes ≤ 140737488355328) (hbase : base ≤ w.heap.size)
    (h : ∀ v' w', w'.ownsRow base e size v' (n + m) (xs ++ news) → w.grownBy w' v.ownBlock → (v'.ownBlock = v.ownBlock ∨ v'.ownBlock = some w.heap.size) → K (a.put o.dst v') w') :
    if Region.wanted o (yielded ops a.tmps) = true then Oper.wp P o a w K Q else E := by
  have hw : Region.wanted o (yielded ops a.tmps) = true := by simp [Region.wanted, hgd]
  rw [if_pos hw]
  obtain ⟨v', w', hr, h2, h3, _, h5⟩ := run_append_own_at (P := P) w base t o.type e i z size bytes ht hi hz hsize hby hzs hsz v n xs hown ad m c news hl hnews h1 h63 hbytes hbase
  unfold Oper.wp execOp
  simp only [ho, resolve, invoke, builtin, Sem.run_bind, Sem.run_pure, Result.andThen_ok, List.map_toArray, List.map_cons, List.map_nil, hs, hx, hr]
  exact h v' w' h2 h3 h5
theorem step_append_none {P : Program} {w : World} {ops : Array Oper} {o : Oper} {a : Act} {K : Act → World → Prop} {Q : Exit → Act → World → Prop} {E : Prop} (hgd : o.guard = none) (s x : Operand) (t : TypeId)
    (ho : o.op = .call { callee := .builtin .append, args := #[s, x], argTypes := #[t, t] })
    (base : Nat) (e : TypeId) (i : TypeInfo) (size : Nat) (ht : P.underlying t = some (.slice e)) (hi : P.info? e = some i)
    (v : Value) (n : Nat) (xs : List Value) (hs : a.eval s = v) (hown : w.ownsRow base e size v n xs) (hx : a.eval x = .slice none 0 0)
    (h : K (a.put o.dst v) w) : if Region.wanted o (yielded ops a.tmps) = true then Oper.wp P o a w K Q else E := by
  have hw : Region.wanted o (yielded ops a.tmps) = true := by simp [Region.wanted, hgd]
  rw [if_pos hw]
  have hrun := run_append_owned_none (P := P) (w := w) base t o.type e i size ht hi v n xs hown
  unfold Oper.wp
  simp [execOp, ho, resolve, invoke, builtin, hs, hx, hrun, Result.andThen]
  exact h
theorem own_none {w w' : World} {base : Nat} {e : TypeId} {size n : Nat} {v : Value} {xs : List Value} (h : w.ownsRow base e size v n xs) (hg : w.grownBy w' (Value.slice none 0 0).ownBlock) : w'.ownsRow base e size v n xs :=
  h.kept hg (by cases hv : v.ownBlock with | none => exact .inl rfl | some g => exact .inr (by intro e; cases e))
theorem apart_of {w w' : World} {base base' : Nat} {e e' : TypeId} {size size' n n' : Nat} {v v' : Value} {xs xs' : List Value} (h : w.ownsRow base e size v n xs) (h' : w'.ownsRow base' e' size' v' n' xs') (hb : w.heap.size ≤ base') : (∀ g, v.ownBlock = some g → v'.ownBlock ≠ some g) ∧ ∀ g, v'.ownBlock = some g → v.ownBlock ≠ some g :=
  ⟨fun g h1 h2 => by have := (h.lt g h1).2; have := (h'.lt g h2).1; omega, fun g h1 h2 => by have := (h.lt g h2).2; have := (h'.lt g h1).1; omega⟩
end Go.Proofs.YtmdidmllaldbaaaGreat
