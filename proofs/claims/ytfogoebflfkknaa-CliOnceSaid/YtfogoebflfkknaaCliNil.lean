/- The walks of cli.Client's methods at no client: nil, or the zero one (printed by wip/gen_clinil.py). -/
import Derived.Test.YtfogoebflfkknaaCmdC
namespace Go.Proofs.Ytfogoebflfkknaa
open Go.RowKit
set_option linter.unusedVariables false
/-- No client: nil, or one without nodes. -/
def NoCli (w : World) (p : Option Addr) : Prop := p = none ∨ ∃ b, p = some ⟨b, 0, none⟩ ∧ b < w.heap.size ∧ w.cell? ⟨b, 1, none⟩ = some (.slice none 0 0)
theorem NoCli.below {w w' : World} {p : Option Addr} (h : NoCli w p) (hb : Below w.heap.size w w') : NoCli w' p := by
  rcases h with h | ⟨b, h1, h2, h3⟩
  · exact .inl h
  · exact .inr ⟨b, h1, Nat.lt_of_lt_of_le h2 hb.size, (hb.cell (p := ⟨b, 1, none⟩) h2).trans h3⟩
theorem none_no {w : World} {p : Option Addr} (h : NoCli w p) : Calls Try.prog 73 #[.pointer p] w fun e w' => e = .returned (.bool true) ∧ w = w' := by
  rcases h with rfl | ⟨b, rfl, hlt, c1⟩
  · go_enter Try.func73, Try.ntmps73
    go_wp2_with fail
    go_ret
    exact ⟨rfl, rfl⟩
  · go_enter Try.func73, Try.ntmps73
    go_wp2_with fail
    go_ret
    exact ⟨rfl, rfl⟩

theorem ask_none {w : World} {p : Option Addr} (h : NoCli w p) (k : Int) (a b c : ByteArray) : Calls Try.prog 37 #[.pointer p, .int .i64 k, .string a, .string b, .string c] w fun e w' => e = .returned (.tuple #[.int .i64 0, .int .i64 1]) ∧ w = w' := by
  have HN := Lib.hid (none_no h)
  clear h
  go_enter Try.func37, Try.ntmps37
  go_wp2_with fail
  refine HN.out.mono ?_
  rintro e w1 ⟨rfl, rfl⟩
  go_wp2_with fail
  go_ret2
  exact ⟨rfl, rfl⟩
theorem drop_none {w : World} {p : Option Addr} (h : NoCli w p) : Calls Try.prog 43 #[.pointer p] w fun e w' => e = .returned (.tuple #[]) ∧ w = w' := by
  have HN := Lib.hid (none_no h)
  clear h
  go_enter Try.func43, Try.ntmps43
  go_wp2_with fail
  refine HN.out.mono ?_
  rintro e w1 ⟨rfl, rfl⟩
  go_wp2_with fail
  first | go_end0 | refine bodyPost_ret (results_none rfl _ _ _) rfl ?_
  exact ⟨rfl, rfl⟩
theorem session_none {w : World} {p : Option Addr} (h : NoCli w p) : Calls Try.prog 44 #[.pointer p] w fun e w' => e = .returned (.tuple #[.int .i64 0, .int .i64 0]) ∧ w = w' := by
  have HN := Lib.hid (none_no h)
  clear h
  go_enter Try.func44, Try.ntmps44
  go_wp2_with fail
  refine HN.out.mono ?_
  rintro e w1 ⟨rfl, rfl⟩
  go_wp2_with fail
  go_ret2
  exact ⟨rfl, rfl⟩
theorem tick_none {w : World} {p : Option Addr} (h : NoCli w p) : Calls Try.prog 38 #[.pointer p] w fun e w' => e = .returned (.slice none 0 0) ∧ w = w' := by
  have HN := Lib.hid (none_no h)
  clear h
  go_enter Try.func38, Try.ntmps38
  go_wp2_with fail
  refine HN.out.mono ?_
  rintro e w1 ⟨rfl, rfl⟩
  go_wp2_with fail
  go_ret
  exact ⟨rfl, rfl⟩
theorem busy_none {w : World} {p : Option Addr} (h : NoCli w p) : Calls Try.prog 40 #[.pointer p] w fun e w' => e = .returned (.bool false) ∧ w = w' := by
  have HN := Lib.hid (none_no h)
  clear h
  go_enter Try.func40, Try.ntmps40
  go_wp2_with fail
  refine HN.out.mono ?_
  rintro e w1 ⟨rfl, rfl⟩
  go_wp2_with fail
  go_ret
  exact ⟨rfl, rfl⟩
end Go.Proofs.Ytfogoebflfkknaa
