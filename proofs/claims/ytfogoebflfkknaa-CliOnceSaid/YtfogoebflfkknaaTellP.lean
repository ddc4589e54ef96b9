/- What a client is told, and what a question is: told back, asked back. -/
import Derived.Test.YtfogoebflfkknaaCmdG
import Derived.Test.YtfogoebflfkknaaCmdBackP
import Derived.Test.YtfogoebflfkknaaRefCmdG
import Derived.Test.YtfogoebflfkknaaRefCmdP
namespace Go.Proofs.Ytfogoebflfkknaa
open Go.RowKit
set_option linter.unusedVariables false
theorem tail1' (c : UInt8) (L : List UInt8) : ((ByteArray.mk (c :: L).toArray).extract 1 (ByteArray.mk (c :: L).toArray).size).data.toList = L := by
  rw [Lib.extract_data]
  have : (ByteArray.mk (c :: L).toArray).size = L.length + 1 := by show (c :: L).toArray.size = _; simp
  rw [this]
  simp
theorem pre1' (c : UInt8) (L : List UInt8) : isPre ⟨#[c]⟩ (ByteArray.mk (c :: L).toArray) := rfl
theorem mk_size' (L : List UInt8) : (ByteArray.mk L.toArray).size = L.length := by show L.toArray.size = _; simp
theorem askB_len' {n : Int} {o : OpV} (hv : validV o = 0) : 0 < (askB n o).length ∧ (askB n o).length ≤ 4000 := by
  have hs := validV_sizes hv
  have h1 := vars_len [o.kd, o.ss, o.sq]
  have h2 := textsB_len [o.key, o.val, o.old]
  have h3 := vars_len [n]
  unfold askB opB
  simp at h1 h2 h3 ⊢
  omega
theorem tellB_len' {n l : Int} {r : RepV} (hr : r.val.size ≤ 2000) : (tellB n l r).length ≤ 4000 := by
  have h1 := vars_len [n, l]
  have h2 := textsB_len [r.val]
  have h3 := vars_len [r.err, r.num]
  unfold tellB repB
  simp at h1 h2 h3 ⊢
  omega
theorem told_of {n l : Int} (hn : -9223372036854775808 ≤ n ∧ n ≤ 9223372036854775807) (hl : -9223372036854775808 ≤ l ∧ l ≤ 9223372036854775807) {r : RepV} (hok : RepOk r) (hr : r.val.size ≤ 2000) (W : World) :
    Calls Try.prog 27 #[.string ⟨(tellB n l r).toArray⟩] W fun e w' => e = .returned (.tuple #[.int .i64 n, .int .i64 l, r.agg, .int .i64 0]) ∧ Below W.heap.size W w' := by
  have hs := tellB_len' (n := n) (l := l) hr
  have hg := getRep_put hok hr []
  rw [List.append_nil, if_pos rfl] at hg
  refine told_ok ⟨(tellB n l r).toArray⟩ W (by rw [mk_size']; omega) (pre1' 97 _) (n, (var1 l ++ repB r, 0)) (l, (repB r, 0)) r ?_ (rVar_var1 l _ hl.1 hl.2) hg
  rw [show tellB n l r = 97 :: (vars [n, l] ++ repB r) from rfl, tail1', vars_two, List.append_assoc, rVar_var1 n _ hn.1 hn.2]
theorem rasked_of {n : Int} (hn : -9223372036854775808 ≤ n ∧ n ≤ 9223372036854775807) {o : OpV} (hok : OpOk o) (hv : validV o = 0) (W : World) :
    Calls Try.prog 26 #[.string ⟨(askB n o).toArray⟩] W fun e w' => e = .returned (.tuple #[.int .i64 n, o.agg, .int .i64 0]) ∧ Below W.heap.size W w' := by
  have hl := askB_len' (n := n) hv
  obtain ⟨s1, s2, s3⟩ := validV_sizes hv
  refine rasked_ok ⟨(askB n o).toArray⟩ W (by rw [mk_size']; omega) (pre1' 113 _) (n, (opB o, 0)) o 0 rfl ?_ (getOp_put hok s1 s2 s3 hv)
  rw [show askB n o = 113 :: (vars [n] ++ opB o) from rfl, tail1', vars_one, rVar_var1 n _ hn.1 hn.2]
end Go.Proofs.Ytfogoebflfkknaa
