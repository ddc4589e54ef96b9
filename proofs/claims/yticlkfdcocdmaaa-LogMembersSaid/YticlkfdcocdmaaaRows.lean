/-
  No cell of these rows narrows 'for every input' (looked for: loops, veiled, ifaces, maps, wideKeys, modest, calm, conditions, laid).
  DERIVED. THE GIVEN ROWS OF THIS SEAT. 6 by the template 'for every input the law returns true; each argument reads behind the call as it read before'; 0 by the template 'total and deterministic' (their statements: YticlkfdcocdmaaaTotals.lean).
  GIVEN WITH THE SEED: the statements are not yours to turn. If you find one false, say at which input.
  Laid BY PROGRAM, IN A SANDBOX (cutbox-rows.mjs): the forced cells as the released guide's own fill.sh prints them over the translation 1f46ad1c3a6e01b0… (all of the seat's roots in one cut). By AI agents, Wed Nov 11 2026. No macro, syntax, notation, axiom, sorry.
-/
import Derived.Test.YticlkfdcocdmaaaChecked
import GoSem.Claim
import GoSem.ClaimJoined
import GoSem.ClaimMapViews
import Derived.JoinedTies
import Derived.KernelRfl
namespace Go.Proofs.Yticlkfdcocdmaaa
/- THE CELL 'sum', in the pinned program and in every row, IS THE sha256 OF THE DUMP (.gsa) THAT YticlkfdcocdmaaaProg.lean LOADS. Nothing in Lean hashes anything: it is a label: what it is worth is what the hold of that sum in a sandbox is worth. -/
noncomputable def Try.pinned : Pinned := { name := "yticlkfdcocdmaaa", sum := "1f46ad1c3a6e01b032a151b67c0fa22d19bcd4a5731dde48e58bed86f76bb4bb", checked := Try.checked }
namespace Rows
def none {H : Type} : Left H := { results := [], args := [] }

/-- 'arboretumlaw18.LogMerges': WHATEVER THE INPUT: true; the input reads as it did. -/
def logMergesSpec : ChangeSpec := { name := "logMerges", fn := fun _ => fun
  | [d1, d2, d3, d4, d5] => { results := [.lit (.bool true)], args := [d1, d2, d3, d4, d5] }
  | _ => none }
def logMergesRow : OpenClaim := { program := "yticlkfdcocdmaaa", sum := "1f46ad1c3a6e01b032a151b67c0fa22d19bcd4a5731dde48e58bed86f76bb4bb", func := "arboretum/arboretumlaw18.LogMerges", spec := "logMerges", apart := false }
def LogMergesSaid : Prop := logMergesRow.holds Try.pinned (OpenSpec.ofChange logMergesSpec)

/-- ITS FALSE NEIGHBOUR: 'it returns false'. Refute it at one input. -/
def logMergesWrong : ChangeSpec := { name := "logMerges", fn := fun _ => fun
  | [d1, d2, d3, d4, d5] => { results := [.lit (.bool false)], args := [d1, d2, d3, d4, d5] }
  | _ => none }
def LogMergesWrongFalsely : Prop := logMergesRow.holds Try.pinned (OpenSpec.ofChange logMergesWrong)

/-- 'arboretumlaw18.LogNewer': WHATEVER THE INPUT: true; the input reads as it did. -/
def logNewerSpec : ChangeSpec := { name := "logNewer", fn := fun _ => fun
  | [d1, d2] => { results := [.lit (.bool true)], args := [d1, d2] }
  | _ => none }
def logNewerRow : OpenClaim := { program := "yticlkfdcocdmaaa", sum := "1f46ad1c3a6e01b032a151b67c0fa22d19bcd4a5731dde48e58bed86f76bb4bb", func := "arboretum/arboretumlaw18.LogNewer", spec := "logNewer", apart := false }
def LogNewerSaid : Prop := logNewerRow.holds Try.pinned (OpenSpec.ofChange logNewerSpec)

/-- ITS FALSE NEIGHBOUR: 'it returns false'. Refute it at one input. -/
def logNewerWrong : ChangeSpec := { name := "logNewer", fn := fun _ => fun
  | [d1, d2] => { results := [.lit (.bool false)], args := [d1, d2] }
  | _ => none }
def LogNewerWrongFalsely : Prop := logNewerRow.holds Try.pinned (OpenSpec.ofChange logNewerWrong)

/-- 'arboretumlaw18.LogAdds': WHATEVER THE INPUT: true; the input reads as it did. -/
def logAddsSpec : ChangeSpec := { name := "logAdds", fn := fun _ => fun
  | [d1, d2, d3, d4, d5] => { results := [.lit (.bool true)], args := [d1, d2, d3, d4, d5] }
  | _ => none }
def logAddsRow : OpenClaim := { program := "yticlkfdcocdmaaa", sum := "1f46ad1c3a6e01b032a151b67c0fa22d19bcd4a5731dde48e58bed86f76bb4bb", func := "arboretum/arboretumlaw18.LogAdds", spec := "logAdds", apart := false }
def LogAddsSaid : Prop := logAddsRow.holds Try.pinned (OpenSpec.ofChange logAddsSpec)

/-- ITS FALSE NEIGHBOUR: 'it returns false'. Refute it at one input. -/
def logAddsWrong : ChangeSpec := { name := "logAdds", fn := fun _ => fun
  | [d1, d2, d3, d4, d5] => { results := [.lit (.bool false)], args := [d1, d2, d3, d4, d5] }
  | _ => none }
def LogAddsWrongFalsely : Prop := logAddsRow.holds Try.pinned (OpenSpec.ofChange logAddsWrong)

/-- 'arboretumlaw18.LogCompacts': WHATEVER THE INPUT: true; the input reads as it did. -/
def logCompactsSpec : ChangeSpec := { name := "logCompacts", fn := fun _ => fun
  | [d1, d2] => { results := [.lit (.bool true)], args := [d1, d2] }
  | _ => none }
def logCompactsRow : OpenClaim := { program := "yticlkfdcocdmaaa", sum := "1f46ad1c3a6e01b032a151b67c0fa22d19bcd4a5731dde48e58bed86f76bb4bb", func := "arboretum/arboretumlaw18.LogCompacts", spec := "logCompacts", apart := false }
def LogCompactsSaid : Prop := logCompactsRow.holds Try.pinned (OpenSpec.ofChange logCompactsSpec)

/-- ITS FALSE NEIGHBOUR: 'it returns false'. Refute it at one input. -/
def logCompactsWrong : ChangeSpec := { name := "logCompacts", fn := fun _ => fun
  | [d1, d2] => { results := [.lit (.bool false)], args := [d1, d2] }
  | _ => none }
def LogCompactsWrongFalsely : Prop := logCompactsRow.holds Try.pinned (OpenSpec.ofChange logCompactsWrong)

/-- 'arboretumlaw18.LogNone': WHATEVER THE INPUT: true; the input reads as it did. -/
def logNoneSpec : ChangeSpec := { name := "logNone", fn := fun _ => fun
  | [d] => { results := [.lit (.bool true)], args := [d] }
  | _ => none }
def logNoneRow : OpenClaim := { program := "yticlkfdcocdmaaa", sum := "1f46ad1c3a6e01b032a151b67c0fa22d19bcd4a5731dde48e58bed86f76bb4bb", func := "arboretum/arboretumlaw18.LogNone", spec := "logNone", unfollowed := true, recurses := true, apart := false }
def LogNoneSaid : Prop := logNoneRow.holds Try.pinned (OpenSpec.ofChange logNoneSpec)

/-- ITS FALSE NEIGHBOUR: 'it returns false'. Refute it at one input. -/
def logNoneWrong : ChangeSpec := { name := "logNone", fn := fun _ => fun
  | [d] => { results := [.lit (.bool false)], args := [d] }
  | _ => none }
def LogNoneWrongFalsely : Prop := logNoneRow.holds Try.pinned (OpenSpec.ofChange logNoneWrong)

/-- 'arboretumlaw18.LogMembers': WHATEVER THE INPUT: true; the input reads as it did. -/
def logMembersSpec : ChangeSpec := { name := "logMembers", fn := fun _ => fun
  | [d1, d2, d3, d4] => { results := [.lit (.bool true)], args := [d1, d2, d3, d4] }
  | _ => none }
def logMembersRow : OpenClaim := { program := "yticlkfdcocdmaaa", sum := "1f46ad1c3a6e01b032a151b67c0fa22d19bcd4a5731dde48e58bed86f76bb4bb", func := "arboretum/arboretumlaw18.LogMembers", spec := "logMembers", unfollowed := true, recurses := true, apart := false }
def LogMembersSaid : Prop := logMembersRow.holds Try.pinned (OpenSpec.ofChange logMembersSpec)

/-- ITS FALSE NEIGHBOUR: 'it returns false'. Refute it at one input. -/
def logMembersWrong : ChangeSpec := { name := "logMembers", fn := fun _ => fun
  | [d1, d2, d3, d4] => { results := [.lit (.bool false)], args := [d1, d2, d3, d4] }
  | _ => none }
def LogMembersWrongFalsely : Prop := logMembersRow.holds Try.pinned (OpenSpec.ofChange logMembersWrong)

/- THE SECOND FORM. 'bulk': how many values and letters a reading holds, each counted each time it is reached (what is shared counts as often as it is met; a slice's spare places count too). A statement '..UptoSaid' is the law's where the arguments, and the package variables that the reading takes, are together of bulk at most 1048576: NARROWER than '..Said'. Prove '..Said' where nothing that the law and all that it calls make is longer than what came in: it says more and counts as full. Else prove '..UptoSaid'. A law counts once. -/
mutual
def uptoBulk {H : Type} : DataW H → Nat
  | .lit (.string bytes) => bytes.length + 1
  | .lit _ => 1
  | .nil => 1
  | .ptr d => uptoBulk d + 1
  | .slice elems spare => uptoBulkAll elems + uptoBulkAll spare + 1
  | .agg parts => uptoBulkAll parts + 1
  | .iface _ d => uptoBulk d + 1
  | .map entries => uptoBulkEntries entries + 1
  | .held _ => 1
def uptoBulkAll {H : Type} : List (DataW H) → Nat
  | [] => 0
  | d :: r => uptoBulk d + uptoBulkAll r
def uptoBulkEntries {H : Type} : List (Lit × DataW H) → Nat
  | [] => 0
  | x :: r => uptoBulkEntry x + uptoBulkEntries r
def uptoBulkEntry {H : Type} : Lit × DataW H → Nat
  | (.string bytes, d) => bytes.length + uptoBulk d + 1
  | (_, d) => uptoBulk d + 1
 end
def uptoSmall : (H : Type) → List (DataW H) → Bool := fun _ ds => decide (uptoBulkAll ds ≤ 1048576)
def OpenSpec.upto (s : _root_.Go.ChangeSpec) : _root_.Go.OpenSpec := { _root_.Go.OpenSpec.ofChange s with cond := some uptoSmall }

/-- 'arboretumlaw18.LogMerges', WHERE WHAT IT READS IS OF BULK AT MOST 1048576: true; the input reads as it did. -/
def logMergesUptoRow : OpenClaim := { program := "yticlkfdcocdmaaa", sum := "1f46ad1c3a6e01b032a151b67c0fa22d19bcd4a5731dde48e58bed86f76bb4bb", func := "arboretum/arboretumlaw18.LogMerges", spec := "logMerges", apart := false, narrowed := true }
def LogMergesUptoSaid : Prop := logMergesUptoRow.holds Try.pinned (OpenSpec.upto logMergesSpec)

/-- 'arboretumlaw18.LogNewer', WHERE WHAT IT READS IS OF BULK AT MOST 1048576: true; the input reads as it did. -/
def logNewerUptoRow : OpenClaim := { program := "yticlkfdcocdmaaa", sum := "1f46ad1c3a6e01b032a151b67c0fa22d19bcd4a5731dde48e58bed86f76bb4bb", func := "arboretum/arboretumlaw18.LogNewer", spec := "logNewer", apart := false, narrowed := true }
def LogNewerUptoSaid : Prop := logNewerUptoRow.holds Try.pinned (OpenSpec.upto logNewerSpec)

/-- 'arboretumlaw18.LogAdds', WHERE WHAT IT READS IS OF BULK AT MOST 1048576: true; the input reads as it did. -/
def logAddsUptoRow : OpenClaim := { program := "yticlkfdcocdmaaa", sum := "1f46ad1c3a6e01b032a151b67c0fa22d19bcd4a5731dde48e58bed86f76bb4bb", func := "arboretum/arboretumlaw18.LogAdds", spec := "logAdds", apart := false, narrowed := true }
def LogAddsUptoSaid : Prop := logAddsUptoRow.holds Try.pinned (OpenSpec.upto logAddsSpec)

/-- 'arboretumlaw18.LogCompacts', WHERE WHAT IT READS IS OF BULK AT MOST 1048576: true; the input reads as it did. -/
def logCompactsUptoRow : OpenClaim := { program := "yticlkfdcocdmaaa", sum := "1f46ad1c3a6e01b032a151b67c0fa22d19bcd4a5731dde48e58bed86f76bb4bb", func := "arboretum/arboretumlaw18.LogCompacts", spec := "logCompacts", apart := false, narrowed := true }
def LogCompactsUptoSaid : Prop := logCompactsUptoRow.holds Try.pinned (OpenSpec.upto logCompactsSpec)

/-- 'arboretumlaw18.LogNone', WHERE WHAT IT READS IS OF BULK AT MOST 1048576: true; the input reads as it did. -/
def logNoneUptoRow : OpenClaim := { program := "yticlkfdcocdmaaa", sum := "1f46ad1c3a6e01b032a151b67c0fa22d19bcd4a5731dde48e58bed86f76bb4bb", func := "arboretum/arboretumlaw18.LogNone", spec := "logNone", unfollowed := true, recurses := true, apart := false, narrowed := true }
def LogNoneUptoSaid : Prop := logNoneUptoRow.holds Try.pinned (OpenSpec.upto logNoneSpec)

/-- 'arboretumlaw18.LogMembers', WHERE WHAT IT READS IS OF BULK AT MOST 1048576: true; the input reads as it did. -/
def logMembersUptoRow : OpenClaim := { program := "yticlkfdcocdmaaa", sum := "1f46ad1c3a6e01b032a151b67c0fa22d19bcd4a5731dde48e58bed86f76bb4bb", func := "arboretum/arboretumlaw18.LogMembers", spec := "logMembers", unfollowed := true, recurses := true, apart := false, narrowed := true }
def LogMembersUptoSaid : Prop := logMembersUptoRow.holds Try.pinned (OpenSpec.upto logMembersSpec)

end Rows
end Go.Proofs.Yticlkfdcocdmaaa
