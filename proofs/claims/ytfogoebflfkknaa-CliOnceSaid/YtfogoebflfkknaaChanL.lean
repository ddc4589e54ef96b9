/- A select of one case in a region of the walk: a send with room, a receive of what is there, the default; a channel's block. -/
import Derived.Test.YtfogoebflfkknaaBase
import Derived.Conc.LoneCalls
import Derived.Conc.LoneSelectN
namespace Go.Proofs.Ytfogoebflfkknaa
open Go.Conc Go.RowKit
section
variable {P : Program}
theorem stepG_comm_any {main : Bool} {b : Frame} {a : Act} {k : List Item} {cs : List Frame} {w : World} {ops : Array Oper} {i : Nat} {rest : List Nat} {o : Oper} {cases : Array CommCase} {blocking : Bool} {shape : CommShape} {w' : World}
    (ho : ops[i]? = some o) (hw : Region.wanted o (yielded ops a.tmps) = true) (hr : (execOp a.eval o).run P w = .ok (.comm cases blocking shape) w') :
    ∃ es, stepG P main (G (b.at a (.inRegion ops (i :: rest) :: k)) cs) w = .comm (G (b.at a (.inRegion ops (i :: rest) :: k)) cs) cases blocking shape w' es := by
  rw [stepG_oper ho hw]
  simp [stepG.apply, hr, G, Frame.at, GStep.after]
/-- One step that ends a region's first operation; the rest is walked as ever. -/
theorem wp_region_first {Q : Exit → Act → World → Prop} {a : Act} {w w' : World} {id : Nat} {o : Oper} {rest : List Oper} (v : Value)
    (hs : ∀ (b : Frame) (k : List Item) (cs : List Frame), step P (lone (b.at a (.inRegion (o :: rest).toArray (0 :: List.range' 1 rest.length) :: k)) cs w) = .next (lone (b.at (a.put o.dst v) (.inRegion (o :: rest).toArray (List.range' 1 rest.length) :: k)) cs w'))
    (h : wpList P (o :: rest).toArray Q rest (a.put o.dst v) w') : (Code.region id (o :: rest).toArray false).wp P Q a w := by
  intro b k cs
  obtain ⟨e, a', w2, q, r⟩ := wp_ops (P := P) (ops := (o :: rest).toArray) (Q := Q) (List.range' 1 rest.length) (a.put o.dst v) w' (by rw [wpOps_eq_wpList rest 1 (fun j => by simp [Nat.add_comm 1 j])]; exact h) b k cs
  refine ⟨e, a', w2, q, .of_steps (Steps.head ?_ (.one (hs b k cs))) r⟩
  have := step_region (P := P) (b := b) (a := a) (k := k) (cs := cs) (w := w) (ops := (o :: rest).toArray) (id := id)
  simpa [List.range_eq_range', List.range'_succ] using this
section
variable {Q : Exit → Act → World → Prop} {a : Act} {w : World} {id : Nat} {o : Oper} {rest : List Oper} {c cap s r : Nat} {buf : Array Value} {v z : Value} {tm closed : Bool}
theorem wp_region_send (hg : o.guard = none) (hr : (execOp a.eval o).run P w = .ok (.comm #[scase c v z] false .select) w) (hc : w.heap[c]? = some (.chan cap buf false s r tm)) (hroom : buf.size < cap)
    (h : wpList P (o :: rest).toArray Q rest (a.put o.dst (.tuple #[goInt 0, .bool false])) (w.setChan c cap (buf.push v) false (s + 1) r tm)) : (Code.region id (o :: rest).toArray false).wp P Q a w := by
  refine wp_region_first _ (fun b k cs => ?_) h
  obtain ⟨es, hst⟩ := stepG_comm_any (P := P) (main := true) (b := b) (k := k) (cs := cs) (rest := List.range' 1 rest.length) (ops := (o :: rest).toArray) (i := 0) (o := o) (a := a) (w := w) (by simp) (by simp [Region.wanted, hg]) hr
  rw [lone_eq_solo, step_lone_sel_send_room (k := 0) (c := c) (v := v) (z := z) hst (by simp) (fun m c' hm hc' => by
    rcases m with _ | m
    · exact absurd rfl hm
    · simp at hc') hc hroom, Frame.finish_at]
  simp [commResult, scase, lone_eq_solo]
theorem wp_region_send_full (hg : o.guard = none) (hr : (execOp a.eval o).run P w = .ok (.comm #[scase c v z] false .select) w) (hc : w.heap[c]? = some (.chan cap buf false s r tm)) (hfull : cap ≤ buf.size)
    (h : wpList P (o :: rest).toArray Q rest (a.put o.dst (.tuple #[goInt (-1), .bool false])) w) : (Code.region id (o :: rest).toArray false).wp P Q a w := by
  refine wp_region_first _ (fun b k cs => ?_) h
  obtain ⟨es, hst⟩ := stepG_comm_any (P := P) (main := true) (b := b) (k := k) (cs := cs) (rest := List.range' 1 rest.length) (ops := (o :: rest).toArray) (i := 0) (o := o) (a := a) (w := w) (by simp) (by simp [Region.wanted, hg]) hr
  rw [lone_eq_solo, step_lone_sel_default hst (fun cc hcc => by
    simp only [List.mem_toArray, List.mem_cons, List.not_mem_nil, or_false] at hcc
    subst hcc
    exact noWay_send hc hfull), Frame.finish_at]
  simp [commResult, scase, lone_eq_solo]
theorem wp_region_recv (hg : o.guard = none) (hr : (execOp a.eval o).run P w = .ok (.comm #[rcase c z] false .select) w) (hc : w.heap[c]? = some (.chan cap buf closed s r tm)) (hsome : 0 < buf.size)
    (h : wpList P (o :: rest).toArray Q rest (a.put o.dst (.tuple #[goInt 0, .bool true, buf.getD 0 undef])) (w.setChan c cap (buf.extract 1 buf.size) closed s (r + 1) tm)) : (Code.region id (o :: rest).toArray false).wp P Q a w := by
  refine wp_region_first _ (fun b k cs => ?_) h
  obtain ⟨es, hst⟩ := stepG_comm_any (P := P) (main := true) (b := b) (k := k) (cs := cs) (rest := List.range' 1 rest.length) (ops := (o :: rest).toArray) (i := 0) (o := o) (a := a) (w := w) (by simp) (by simp [Region.wanted, hg]) hr
  rw [lone_eq_solo, step_lone_sel_recv_buf (k := 0) (c := c) (z := z) hst (by simp) (fun m c' hm hc' => by
    rcases m with _ | m
    · exact absurd rfl hm
    · simp at hc') hc hsome, Frame.finish_at]
  simp [commResult, rcase, lone_eq_solo, List.zipIdx_cons]
theorem wp_region_recv_none (hg : o.guard = none) (hr : (execOp a.eval o).run P w = .ok (.comm #[rcase c z] false .select) w) (hc : w.heap[c]? = some (.chan cap #[] false s r tm))
    (h : wpList P (o :: rest).toArray Q rest (a.put o.dst (.tuple #[goInt (-1), .bool false, z])) w) : (Code.region id (o :: rest).toArray false).wp P Q a w := by
  refine wp_region_first _ (fun b k cs => ?_) h
  obtain ⟨es, hst⟩ := stepG_comm_any (P := P) (main := true) (b := b) (k := k) (cs := cs) (rest := List.range' 1 rest.length) (ops := (o :: rest).toArray) (i := 0) (o := o) (a := a) (w := w) (by simp) (by simp [Region.wanted, hg]) hr
  rw [lone_eq_solo, step_lone_sel_default hst (fun cc hcc => by
    simp only [List.mem_toArray, List.mem_cons, List.not_mem_nil, or_false] at hcc
    subst hcc
    exact noWay_recv hc), Frame.finish_at]
  simp [commResult, rcase, lone_eq_solo, List.zipIdx_cons]
end
end
theorem setChan_other (w : World) (c c' cap : Nat) (buf : Array Value) (closed : Bool) (s r : Nat) (tm : Bool) (h : c ≠ c') : (w.setChan c cap buf closed s r tm).heap[c']? = w.heap[c']? := by
  simp [World.setChan, Array.getElem?_setIfInBounds_ne h]
theorem grown_setChan (w : World) (c cap : Nat) (buf : Array Value) (closed : Bool) (s r : Nat) (tm : Bool) : w.grownBy (w.setChan c cap buf closed s r tm) (some c) :=
  ⟨rfl, rfl, rfl, by simp [World.setChan], fun k _ hk => setChan_other w c k cap buf closed s r tm (fun e => hk (by simp [e]))⟩
theorem chan_lt {w : World} {c cap s r : Nat} {buf : Array Value} {cl tm : Bool} (h : w.heap[c]? = some (.chan cap buf cl s r tm)) : c < w.heap.size := by
  rcases Nat.lt_or_ge c w.heap.size with hlt | hge
  · exact hlt
  · rw [Array.getElem?_eq_none hge] at h; cases h
end Go.Proofs.Ytfogoebflfkknaa
