/- The walks of strings.Clone and of num.NewReader: a text is the same text; a new reader stands in new memory. -/
import Derived.Test.YtmdidmllaldbaaaGreatChecked
import Derived.Test.YtmdidmllaldbaaaGreatBase
namespace Go.Proofs.YtmdidmllaldbaaaGreat
open Go.RowKit
theorem u8info : (Tryz.prog.info? 5).map (fun i => (i.zero, i.size, i.bytes)) = some (some (.int .u8 0), 1, 1) := by kernel_rfl
theorem u8cells : Tryz.prog.cellsOf 5 = 1 := by kernel_rfl
theorem u8size : (Tryz.prog.info? 5).map (·.size) = some 1 := by kernel_rfl
theorem setRow_new (w : World) (c d : Array Value) (e : TypeId) : (w.alloc (.cells c e)).setRow w.heap.size d = w.alloc (.cells d e) := by
  unfold World.setRow World.alloc
  congr 1
  apply Array.ext_getElem?
  intro i
  rw [Array.getElem?_modify, Array.getElem?_push, Array.getElem?_push]
  by_cases h : w.heap.size = i
  · subst h; simp
  · have h' : ¬ i = w.heap.size := fun e => h e.symm
    simp [h, h']
theorem run_copy_new (s : ByteArray) (w : World) :
    (Builtin.copy_ #[160, 9] 3 #[.slice (some ⟨w.heap.size, 0, none⟩) s.size s.size, .string s]).run Tryz.prog (w.alloc (.cells (madeCells #[Value.int .u8 0] s.size) 5)) =
      .ok (goInt s.size) (w.alloc (.cells (Lib.byteCells s.data.toList).toArray 5)) := by
  have hl : (Lib.byteCells s.data.toList).length = s.size := by rw [Lib.byteCells_length]; rfl
  rw [Lib.run_copy_row_string (P := Tryz.prog) (w.alloc (.cells (madeCells #[Value.int .u8 0] s.size) 5)) 160 9 3 5 w.heap.size 0 s.size s.size s (madeCells #[Value.int .u8 0] s.size) 5 Tryz.underlying160 u8size (heap_alloc_new w _) (Nat.le_refl _) (by simp [size_madeCells]), setRow_new]
  congr 3
  simp [madeCells]
theorem run_str_new (s : ByteArray) (w : World) (h0 : ¬ s.size = 0) (hs : s.size ≤ 281474976710656) :
    (Builtin.unsafeString_ #[225, 3] 9 #[.pointer (some ⟨w.heap.size, 0, none⟩), .int .i64 s.size]).run Tryz.prog (w.alloc (.cells (Lib.byteCells s.data.toList).toArray 5)) =
      .ok (.string s) ((w.alloc (.cells (Lib.byteCells s.data.toList).toArray 5)).freeze ⟨w.heap.size, 0, none⟩ s.size) := by
  have hl : s.data.toList.length = s.size := rfl
  have := Lib.run_unsafeString_row (P := Tryz.prog) (w := w.alloc (.cells (Lib.byteCells s.data.toList).toArray 5)) 225 3 9 5 Tryz.underlying225 u8cells w.heap.size s.size
    (by rw [World.shape?, heap_alloc_new]; simp [Lib.byteCells_length]) s.data.toList (by intro h; apply h0; rw [← hl, h]; rfl) (Nat.le_of_eq hl) (by rw [hl]; omega)
    (by
      intro j x hx
      have hadd : (⟨w.heap.size, 0, none⟩ : Addr).add j = ⟨w.heap.size, j, none⟩ := by unfold Addr.add; split <;> simp_all
      rw [hadd, World.cell?_alloc_new]
      simp [Lib.byteCells, hx])
  rw [hl] at this
  exact this
set_option maxHeartbeats 400000 in
theorem clone0_any (s : ByteArray) (w : World) (hs : s.size ≤ 281474976710656) :
    Calls Tryz.prog 211 #[.string s] w fun e w' => e = .returned (.string s) ∧ Below w.heap.size w w' := by
  by_cases h0 : s.size = 0
  · have h1 : ((s.size : Int) == 0) = true := by simp [h0]
    have h2 : s = ⟨#[]⟩ := by
      rcases s with ⟨⟨l⟩⟩
      have : l = [] := List.eq_nil_of_length_eq_zero h0
      subst this; rfl
    subst h2
    go_enter Tryz.func211, Tryz.ntmps211
    go_wp2
    go_ret
    exact ⟨rfl, Below.refl _ _⟩
  · have h1 : ((s.size : Int) == 0) = false := by simp [h0]
    have hmk := run_make_row' (P := Tryz.prog) 160 5 (.int .u8 0) 1 Tryz.underlying160 u8info rfl .i64 .i64 s.size (by omega) (by omega)
    have hcp := run_copy_new s w
    have hus := run_str_new s w h0 hs
    go_enter Tryz.func211, Tryz.ntmps211
    go_wp2
    go_ret
    exact ⟨rfl, Lib.below_freeze ((Below.refl _ _).alloc (Nat.le_refl _) _) (Nat.le_refl _) _⟩
theorem clone_any (s : ByteArray) (w : World) (hs : s.size ≤ 281474976710656) :
    Calls Tryz.prog 114 #[.string s] w fun e w' => e = .returned (.string s) ∧ Below w.heap.size w w' := by
  go_enter Tryz.func114, Tryz.ntmps114
  go_wp2_with (go_at_call 211; refine (clone0_any _ _ hs).mono ?_; rintro e w' ⟨rfl, hb⟩)
  go_ret
  exact ⟨rfl, hb⟩
/-- A reader that stands at block b: the bytes that are left, and its error. -/
def RdAt (w : World) (b : Nat) (s : ByteArray) (e : Int) : Prop := w.heap[b]? = some (.cells #[.string s, .int .i64 e] 154 (0, 0))
theorem newReader_any (s : ByteArray) (w : World) (hs : s.size ≤ 281474976710656) :
    Calls Tryz.prog 12 #[.string s] w fun e w' => ∃ b, e = .returned (.pointer (some ⟨b, 0, none⟩)) ∧ w.heap.size ≤ b ∧ RdAt w' b s 0 ∧ Below w.heap.size w w' := by
  go_enter Tryz.func12, Tryz.ntmps12
  go_wp2_with (go_at_call 114; refine (clone_any _ _ hs).mono ?_; rintro e w1 ⟨rfl, hb⟩)
  go_ret
  exact ⟨_, rfl, hb.size, heap_alloc_new _ _, hb.alloc hb.size _⟩
end Go.Proofs.YtmdidmllaldbaaaGreat
