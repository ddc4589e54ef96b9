/- Rows in new blocks, handed to num.Var and num.Text. -/
import Derived.Test.YtmdidmllaldbaaaGreatText
namespace Go.Proofs.YtmdidmllaldbaaaGreat
open Go.RowKit
set_option linter.unusedVariables false
theorem new_at (W : World) (o : Obj) (g : Nat) (h : g = W.heap.size) : (W.alloc o).heap[g]? = some o := by
  subst h
  exact heap_alloc_new W o
theorem old_at (W : World) (o o' : Obj) (g : Nat) (h : W.heap[g]? = some o) : (W.alloc o').heap[g]? = some o := by
  have hlt : g < W.heap.size := by
    rcases Nat.lt_or_ge g W.heap.size with hlt | hge
    · exact hlt
    · rw [Array.getElem?_eq_none hge] at h; cases h
  exact (Below.heap_alloc W o' g hlt).trans h
/-- Numbers in a block that is known whole. -/
theorem var_row {w : World} {g : Nat} {cs : Array Value} {t : TypeId} (vs : List Int) (n : Nat) (h : w.heap[g]? = some (.cells cs t (0, 0))) (hcs : cs = (vs.map (Value.int .i64)).toArray) (hl : vs.length = n) (hn : n ≤ 1000) (hv : ∀ v ∈ vs, -9223372036854775808 ≤ v ∧ v ≤ 9223372036854775807) :
    Calls Tryz.prog 126 #[.slice (some ⟨g, 0, none⟩) n n] w fun e w' => e = .returned (.string ⟨(vars vs).toArray⟩) ∧ Below w.heap.size w w' := by
  subst hcs
  refine nvar_any (some ⟨g, 0, none⟩) n n vs w hl (by omega) (fun k hk => ⟨⟨g, 0, none⟩, rfl, blk_lt h, ?_⟩) hv
  rw [add_lit, blk_cell h]
  have hk' : k < vs.length := by omega
  simp [List.getD_eq_getElem?_getD, List.getElem?_eq_getElem hk']
/-- Texts in a block that is known whole. -/
theorem text_row {w : World} {g : Nat} {cs : Array Value} {t : TypeId} (ss : List ByteArray) (n : Nat) (h : w.heap[g]? = some (.cells cs t (0, 0))) (hcs : cs = (ss.map Value.string).toArray) (hl : ss.length = n) (hn : n ≤ 1000) (hs : (ss.map (·.size)).sum ≤ 17592186044416) :
    Calls Tryz.prog 127 #[.slice (some ⟨g, 0, none⟩) n n] w fun e w' => e = .returned (.string ⟨(textsB ss).toArray⟩) ∧ Below w.heap.size w w' := by
  subst hcs
  refine ntext_any (some ⟨g, 0, none⟩) n n ss w ⟨hl, fun _ => ⟨g, 0, rfl, blk_lt h, fun k s hk => ?_⟩⟩ (by omega) hs
  rw [Nat.zero_add, blk_cell h]
  have hk' : k < ss.length := (List.getElem?_eq_some_iff.1 hk).1
  rw [List.getElem?_eq_getElem hk'] at hk
  injection hk with hk
  simp [List.getElem?_eq_getElem hk', hk]
/-- Two texts, one behind the other. -/
theorem cat_run (a b : List UInt8) (W : World) (h : a.length + b.length ≤ 9223372036854775807) : (Op.stringOp .add ⟨a.toArray⟩ ⟨b.toArray⟩).run Tryz.prog W = .ok (.string ⟨(a ++ b).toArray⟩) W := by
  rw [run_string_add_sum W _ _ (by show a.toArray.size + b.toArray.size ≤ _; simpa using h), ByteArray.mk_append_mk]
theorem vars_len (vs : List Int) : (vars vs).length ≤ 10 * vs.length := by
  induction vs with
  | nil => simp [vars]
  | cons v r ih =>
    have h1 := var1_len v
    have h2 : vars (v :: r) = var1 v ++ vars r := by simp [vars]
    rw [h2, List.length_append, List.length_cons]
    omega
/-- A row of the call's own outlives writes to another block. -/
theorem own_far {w w' : World} {base b : Nat} {e : TypeId} {size n : Nat} {v : Value} {xs : List Value} (h : w.ownsRow base e size v n xs) (hg : w.grownBy w' (some b)) (hb : b < base) : w'.ownsRow base e size v n xs := by
  refine h.kept hg (.inr ?_)
  rcases h.2 with ⟨rfl, _⟩ | ⟨g, cap, cur, rfl, hbg, _⟩
  · simp [Value.ownBlock]
  · simp [Value.ownBlock]; omega
theorem own_below {w w' : World} {base : Nat} {e : TypeId} {size n : Nat} {v : Value} {xs : List Value} (h : w.ownsRow base e size v n xs) (hb : Below w.heap.size w w') : w'.ownsRow base e size v n xs :=
  h.kept (row := none) ⟨hb.os, hb.tape, hb.output, hb.size, fun k hk _ => hb.block k hk⟩ (by cases v.ownBlock <;> simp)
end Go.Proofs.YtmdidmllaldbaaaGreat
