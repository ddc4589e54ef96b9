/- Slices that came in, opened: of structs of one-cell fields, of numbers, of texts; and what their sizes are. -/
import Derived.Test.YtmdidmllaldbaaaGreatLift
import Derived.Deep.Fields
import Derived.ChangeSame
namespace Go.Proofs.YtmdidmllaldbaaaGreat
open Go.ChangeShapes Go.WideShapes Go.ChangeAt Go.RowKit Go.Deep
section
variable {H : Type} {enc : TypeId × Value → H} {P : Program} {w : World} {base : Nat} {spare : Nat → Bool} {held : Bool}
/-- A slice of structs, whose fields are one cell each, by element and field. -/
theorem open_structs {t e : TypeId} {fs : Array Field} {fuel : Nat} {cs : List Value} {x : DataW H × List MemPlace} (ht : P.underlying t = some (.slice e)) (he : P.underlying e = some (.struct fs))
    (hone : oneCellFields P fs = true) (hC : P.cellsOf e = fs.size) (h : DataW.trod enc P w base spare held fuel t cs = some x) :
    cs = [.slice none 0 0] ∨
    ∃ (a : Addr) (len cap m : Nat) (D : Nat → DataW H), cs = [.slice (some a) len cap] ∧ len ≤ cap ∧ m = (if spare a.block then cap else len) ∧
      x.1 = .slice ((List.range len).map D) ((List.range (m - len)).map fun j => D (len + j)) ∧
      ∀ i, i < m → ∃ (ys : List (DataW H × List MemPlace)) (n : Nat), D i = .agg (ys.map (·.1)) ∧ ys.length = fs.size ∧
        ∀ (j : Nat) (f : Field), fs[j]? = some f → ∃ (v : Value) (y : DataW H × List MemPlace), w.cell? (a.add (i * fs.size + j)) = some v ∧ ys[j]? = some y ∧ DataW.trod enc P w base spare held n f.type [v] = some y := by
  rcases open_slice ht h with ⟨h0, _⟩ | ⟨a, len, cap, m, n, D, Pl, hcs, _, hl, _, hm, hx, hi⟩
  · exact .inl h0
  refine .inr ⟨a, len, cap, m, D, hcs, hl, hm, by rw [hx], fun i him => ?_⟩
  obtain ⟨cs', hc, htr⟩ := hi i him
  obtain ⟨ys, k, _, hy, _, hyl, hf⟩ := DataW.trod_struct he htr
  obtain ⟨_, hcl, hat⟩ := World.cells?_some hc
  simp only [Prod.mk.injEq] at hy
  refine ⟨ys, k, hy.1, hyl, fun j f hj => ?_⟩
  obtain ⟨ho, hk⟩ := hone_of hone j f hj
  have hjl : j < fs.size := (Array.getElem?_eq_some_iff.1 hj).1
  have hjc : j < cs'.length := by omega
  have h1 := hf j f hj
  rw [ho, hk, List.drop_eq_getElem_cons hjc] at h1
  have hys : ys[j]? = some (ys[j]'(by omega)) := List.getElem?_eq_getElem (by omega)
  have h2 : (cs'[j] :: cs'.drop (j + 1)).take 1 = [cs'[j]] := rfl
  rw [h2] at h1
  refine ⟨cs'[j], ys[j]'(by omega), ?_, hys, h1.trans hys⟩
  have := hat j (by omega)
  rw [Go.Deep.add_add, hC] at this
  rw [this, List.getElem?_eq_getElem hjc]
theorem cell_lt {w : World} {a : Addr} {v : Value} (h : w.cell? a = some v) : a.block < w.heap.size := by
  unfold World.cell? at h
  rcases Nat.lt_or_ge a.block w.heap.size with hlt | hge
  · exact hlt
  · rw [Array.getElem?_eq_none hge] at h; cases h
theorem cell_spot {w : World} {a : Addr} {v : Value} (h : w.cell? a = some v) : a.spot = none := by
  unfold World.cell? at h
  split at h
  · split at h
    · cases h
    · rename_i hs; simpa using hs
  · cases h
theorem add_spot (a : Addr) (n : Nat) : (a.add n).spot = none → a.spot = none ∨ n ≠ 0 := by
  unfold Addr.add
  split
  · intro h; exact .inl h
  · rename_i hn; intro _; exact .inr (by simpa using hn)
/-- An address whose first cell is there is plain. -/
theorem addr_plain {w : World} {a : Addr} {v : Value} (h : w.cell? (a.add 0) = some v) : ∃ b o, a = ⟨b, o, none⟩ := by
  have e : a.add 0 = a := by unfold Addr.add; rw [if_pos rfl]
  rw [e] at h
  have hs := cell_spot h
  obtain ⟨b, o, s⟩ := a
  simp at hs
  subst hs
  exact ⟨b, o, rfl⟩
theorem mem_all {l : List (DataW H)} {P : Program} {e : TypeId} {d : DataW H} (hd : d ∈ l) : ∀ n ∈ d.weights P e, n ∈ DataW.weightsAll P e l := by
  induction l with
  | nil => cases hd
  | cons a l ih =>
    intro n hn
    rw [DataW.weightsAll, List.mem_append]
    rcases List.mem_cons.1 hd with rfl | hd
    · exact .inl hn
    · exact .inr (ih hd n hn)
/-- What an element of a slice weighs is within the reach. -/
theorem sized_elem {ts : List TypeId} {ds : List (DataW H)} (h : (DataW.weightsEach P ts ds).all (· ≤ reachBytes) = true) {j : Nat} {t e : TypeId} {elems spare : List (DataW H)} (ht : ts[j]? = some t) (hd : ds[j]? = some (.slice elems spare)) (hu : P.underlying t = some (.slice e))
    {d : DataW H} (hm : d ∈ elems) : ∀ n ∈ d.weights P e, n ≤ reachBytes := by
  intro n hn
  have := List.all_eq_true.1 h n (DataW.weights_mem_each ht hd n (by
    rw [DataW.weights, hu]
    exact List.mem_cons_of_mem _ (List.mem_append_left _ (mem_all hm n hn))))
  simpa using this
/-- A text in a struct of a slice is within the reach. -/
theorem sized_field {ts : List TypeId} {ds : List (DataW H)} (h : (DataW.weightsEach P ts ds).all (· ≤ reachBytes) = true) {j : Nat} {t e : TypeId} {fs : Array Field} {elems spare : List (DataW H)} (ht : ts[j]? = some t) (hd : ds[j]? = some (.slice elems spare)) (hu : P.underlying t = some (.slice e)) (he : P.underlying e = some (.struct fs))
    {parts : List (DataW H)} (hm : DataW.agg parts ∈ elems) {k : Nat} {f : Field} {bytes : List UInt8} (hf : fs[k]? = some f) (hp : parts[k]? = some (.lit (.string bytes))) : bytes.length ≤ reachBytes := by
  refine sized_elem h ht hd hu hm _ ?_
  rw [DataW.weights, he]
  exact DataW.weights_mem_each (j := k) (t := f.type) (by simp [hf]) hp _ (by simp [DataW.weights])
/-- A slice of numbers that came in. -/
theorem open_ints_at {t e : TypeId} {ao : Option Addr} {n c : Nat} {d : DataW H} {p : List MemPlace} (ht : P.underlying t = some (.slice e)) (he : P.underlying e = some (.int .i64)) (hc1 : P.cellsOf e = 1) (hby : P.bytesOf e = 8)
    {ts : List TypeId} {ds : List (DataW H)} (hsz : (DataW.weightsEach P ts ds).all (· ≤ reachBytes) = true) {j : Nat} (hj1 : ts[j]? = some t) (hj2 : ds[j]? = some d)
    (h : DataW.Trod enc P w 0 (fun _ => true) true t (.slice ao n c) d p) :
    ∃ vs : List Int, vs.length = n ∧ n ≤ c ∧ (ao = none → n = 0 ∧ c = 0) ∧ c * 8 ≤ 140737488351232 ∧ (∀ v ∈ vs, -9223372036854775808 ≤ v ∧ v ≤ 9223372036854775807) ∧
      (0 < n → ∃ b o, ao = some ⟨b, o, none⟩ ∧ b < w.heap.size ∧ ∀ k v, vs[k]? = some v → w.cell? ⟨b, o + k, none⟩ = some (.int .i64 v)) := by
  obtain ⟨fuel, hf⟩ := h
  rcases open_ints ht he hc1 hf with ⟨hcs, _⟩ | ⟨a, len, cap, zs, hcs, _, hl, _, hz, hx, hcell, hwf⟩
  · have hcs' : Value.slice ao n c = .slice none 0 0 := by simpa [Value.cells] using hcs
    injection hcs' with e1 e2 e3
    subst e1; subst e2; subst e3
    exact ⟨[], rfl, by omega, fun _ => ⟨rfl, rfl⟩, by omega, by simp, by omega⟩
  · have hcs' : Value.slice ao n c = .slice (some a) len cap := by simpa [Value.cells] using hcs
    injection hcs' with e1 e2 e3
    subst e1; subst e2; subst e3
    have hz' : zs.length = c := by simpa using hz
    have hd : d = .slice (lits .i64 (zs.take n)) (lits .i64 (zs.drop n)) := congrArg Prod.fst hx
    subst hd
    have hw := sized_slice hsz hj1 hj2 ht
    rw [hby] at hw
    simp only [lits, List.length_map, List.length_take, List.length_drop] at hw
    have hr : reachBytes = 140737488351232 := by decide
    refine ⟨zs.take n, by rw [List.length_take]; omega, hl, by simp, by omega, fun v hv => ?_, fun hn => ?_⟩
    · have := hwf v (List.mem_of_mem_take hv)
      simpa [Lit.wf, IntKind.min, IntKind.max, IntKind.bits, IntKind.signed] using this
    · obtain ⟨b, o, rfl⟩ := addr_plain (hcell 0 (by omega))
      refine ⟨b, o, rfl, ?_, fun k v hk => ?_⟩
      · have := cell_lt (hcell 0 (by omega)); simpa [Addr.add] using this
      · have hkn : k < n := by have := (List.getElem?_eq_some_iff.1 hk).1; rw [List.length_take] at this; omega
        have hc := hcell k (by omega)
        rw [List.getElem?_take, if_pos hkn] at hk
        have hg : zs.getD k 0 = v := by simp [List.getD, hk]
        rw [hg] at hc
        rw [← hc]
        congr 1
        unfold Addr.add
        split <;> simp_all
/-- A slice of texts that came in. -/
theorem open_texts_at {t e : TypeId} {ao : Option Addr} {n c : Nat} {d : DataW H} {p : List MemPlace} (ht : P.underlying t = some (.slice e)) (he : P.underlying e = some .string) (hc1 : P.cellsOf e = 1) (hby : P.bytesOf e = 16)
    {ts : List TypeId} {ds : List (DataW H)} (hsz : (DataW.weightsEach P ts ds).all (· ≤ reachBytes) = true) {j : Nat} (hj1 : ts[j]? = some t) (hj2 : ds[j]? = some d)
    (h : DataW.Trod enc P w 0 (fun _ => true) true t (.slice ao n c) d p) :
    ∃ ss : List ByteArray, ss.length = n ∧ n ≤ c ∧ (ao = none → n = 0 ∧ c = 0) ∧ c * 16 ≤ 140737488351232 ∧ (∀ s ∈ ss, s.size ≤ 140737488351232) ∧
      (0 < n → ∃ b o, ao = some ⟨b, o, none⟩ ∧ b < w.heap.size ∧ ∀ k s, ss[k]? = some s → w.cell? ⟨b, o + k, none⟩ = some (.string s)) := by
  obtain ⟨fuel, hf⟩ := h
  have hr : reachBytes = 140737488351232 := by decide
  rcases open_strings ht he hc1 hf with ⟨hcs, _⟩ | ⟨a, len, cap, zs, hcs, _, hl, _, hz, hx, hcell, _⟩
  · have hcs' : Value.slice ao n c = .slice none 0 0 := by simpa [Value.cells] using hcs
    injection hcs' with e1 e2 e3
    subst e1; subst e2; subst e3
    exact ⟨[], rfl, by omega, fun _ => ⟨rfl, rfl⟩, by omega, by simp, by omega⟩
  · have hcs' : Value.slice ao n c = .slice (some a) len cap := by simpa [Value.cells] using hcs
    injection hcs' with e1 e2 e3
    subst e1; subst e2; subst e3
    have hz' : zs.length = c := by simpa using hz
    have hd : d = .slice (strs (zs.take n)) (strs (zs.drop n)) := congrArg Prod.fst hx
    subst hd
    have hw := sized_slice hsz hj1 hj2 ht
    rw [hby] at hw
    simp only [strs, List.length_map, List.length_take, List.length_drop] at hw
    refine ⟨zs.take n, by rw [List.length_take]; omega, hl, by simp, by omega, fun s hs => ?_, fun hn => ?_⟩
    · have := sized_elem hsz hj1 hj2 ht (d := .lit (.string s.data.toList)) (by unfold strs; exact List.mem_map.2 ⟨s, hs, rfl⟩) s.data.toList.length (by simp [DataW.weights])
      rw [hr] at this
      exact this
    · obtain ⟨b, o, rfl⟩ := addr_plain (hcell 0 (by omega))
      refine ⟨b, o, rfl, ?_, fun k v hk => ?_⟩
      · have := cell_lt (hcell 0 (by omega)); simpa [Addr.add] using this
      · have hkn : k < n := by have := (List.getElem?_eq_some_iff.1 hk).1; rw [List.length_take] at this; omega
        have hc := hcell k (by omega)
        rw [List.getElem?_take, if_pos hkn] at hk
        have hg : zs.getD k ByteArray.empty = v := by simp [List.getD, hk]
        rw [hg] at hc
        rw [← hc]
        congr 1
        unfold Addr.add
        split <;> simp_all
end
end Go.Proofs.YtmdidmllaldbaaaGreat
