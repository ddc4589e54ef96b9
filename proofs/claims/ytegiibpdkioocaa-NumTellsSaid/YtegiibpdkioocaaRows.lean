/-
  No cell of these rows narrows 'for every input' (looked for: loops, veiled, ifaces, maps, wideKeys, modest, calm, conditions, laid).
  DERIVED. THE GIVEN ROWS OF THIS SEAT. 11 by the template 'for every input the law returns true; each argument reads behind the call as it read before'; 0 by the template 'total and deterministic' (their statements: YtegiibpdkioocaaTotals.lean).
  GIVEN WITH THE SEED: the statements are not yours to turn. If you find one false, say at which input.
  Laid BY PROGRAM, IN A SANDBOX (cutbox-rows.mjs): the forced cells as the released guide's own fill.sh prints them over the translation 5891ef34dedfbf99… (all of the seat's roots in one cut). By AI agents, Wed Nov 11 2026. No macro, syntax, notation, axiom, sorry.
-/
import Derived.Test.YtegiibpdkioocaaChecked
import GoSem.Claim
import GoSem.ClaimJoined
import GoSem.ClaimMapViews
import Derived.JoinedTies
import Derived.KernelRfl
namespace Go.Proofs.Ytegiibpdkioocaa
/- THE CELL 'sum', in the pinned program and in every row, IS THE sha256 OF THE DUMP (.gsa) THAT YtegiibpdkioocaaProg.lean LOADS. Nothing in Lean hashes anything: it is a label: what it is worth is what the hold of that sum in a sandbox is worth. -/
noncomputable def Try.pinned : Pinned := { name := "ytegiibpdkioocaa", sum := "5891ef34dedfbf99888013cda06c74c990b32c2c1356a904ee2ff7f698f9750f", checked := Try.checked }
namespace Rows
def none {H : Type} : Left H := { results := [], args := [] }

/-- 'arboretumlaw1.NumTells': WHATEVER THE INPUT: true; the input reads as it did. -/
def numTellsSpec : ChangeSpec := { name := "numTells", fn := fun _ => fun
  | [d1, d2, d3, d4, d5, d6] => { results := [.lit (.bool true)], args := [d1, d2, d3, d4, d5, d6] }
  | _ => none }
def numTellsRow : OpenClaim := { program := "ytegiibpdkioocaa", sum := "5891ef34dedfbf99888013cda06c74c990b32c2c1356a904ee2ff7f698f9750f", func := "arboretum/arboretumlaw1.NumTells", spec := "numTells", inPlace := ["internal/abi.NoEscape"], apart := false }
def NumTellsSaid : Prop := numTellsRow.holds Try.pinned (OpenSpec.ofChange numTellsSpec)

/-- ITS FALSE NEIGHBOUR: 'it returns false'. Refute it at one input. -/
def numTellsWrong : ChangeSpec := { name := "numTells", fn := fun _ => fun
  | [d1, d2, d3, d4, d5, d6] => { results := [.lit (.bool false)], args := [d1, d2, d3, d4, d5, d6] }
  | _ => none }
def NumTellsWrongFalsely : Prop := numTellsRow.holds Try.pinned (OpenSpec.ofChange numTellsWrong)

/-- 'arboretumlaw1.NumBack': WHATEVER THE INPUT: true; the input reads as it did. -/
def numBackSpec : ChangeSpec := { name := "numBack", fn := fun _ => fun
  | [d1, d2, d3, d4] => { results := [.lit (.bool true)], args := [d1, d2, d3, d4] }
  | _ => none }
def numBackRow : OpenClaim := { program := "ytegiibpdkioocaa", sum := "5891ef34dedfbf99888013cda06c74c990b32c2c1356a904ee2ff7f698f9750f", func := "arboretum/arboretumlaw1.NumBack", spec := "numBack", inPlace := ["internal/abi.NoEscape"], apart := false }
def NumBackSaid : Prop := numBackRow.holds Try.pinned (OpenSpec.ofChange numBackSpec)

/-- ITS FALSE NEIGHBOUR: 'it returns false'. Refute it at one input. -/
def numBackWrong : ChangeSpec := { name := "numBack", fn := fun _ => fun
  | [d1, d2, d3, d4] => { results := [.lit (.bool false)], args := [d1, d2, d3, d4] }
  | _ => none }
def NumBackWrongFalsely : Prop := numBackRow.holds Try.pinned (OpenSpec.ofChange numBackWrong)

/-- 'arboretumlaw16.EntBack': WHATEVER THE INPUT: true; the input reads as it did. -/
def entBackSpec : ChangeSpec := { name := "entBack", fn := fun _ => fun
  | [d1, d2] => { results := [.lit (.bool true)], args := [d1, d2] }
  | _ => none }
def entBackRow : OpenClaim := { program := "ytegiibpdkioocaa", sum := "5891ef34dedfbf99888013cda06c74c990b32c2c1356a904ee2ff7f698f9750f", func := "arboretum/arboretumlaw16.EntBack", spec := "entBack", inPlace := ["internal/abi.NoEscape"], apart := false }
def EntBackSaid : Prop := entBackRow.holds Try.pinned (OpenSpec.ofChange entBackSpec)

/-- ITS FALSE NEIGHBOUR: 'it returns false'. Refute it at one input. -/
def entBackWrong : ChangeSpec := { name := "entBack", fn := fun _ => fun
  | [d1, d2] => { results := [.lit (.bool false)], args := [d1, d2] }
  | _ => none }
def EntBackWrongFalsely : Prop := entBackRow.holds Try.pinned (OpenSpec.ofChange entBackWrong)

/-- 'arboretumlaw16.EntNone': WHATEVER THE INPUT: true; the input reads as it did. -/
def entNoneSpec : ChangeSpec := { name := "entNone", fn := fun _ => fun
  | [] => { results := [.lit (.bool true)], args := [] }
  | _ => none }
def entNoneRow : OpenClaim := { program := "ytegiibpdkioocaa", sum := "5891ef34dedfbf99888013cda06c74c990b32c2c1356a904ee2ff7f698f9750f", func := "arboretum/arboretumlaw16.EntNone", spec := "entNone", inPlace := ["internal/abi.NoEscape"], apart := false }
def EntNoneSaid : Prop := entNoneRow.holds Try.pinned (OpenSpec.ofChange entNoneSpec)

/-- ITS FALSE NEIGHBOUR: 'it returns false'. Refute it at one input. -/
def entNoneWrong : ChangeSpec := { name := "entNone", fn := fun _ => fun
  | [] => { results := [.lit (.bool false)], args := [] }
  | _ => none }
def EntNoneWrongFalsely : Prop := entNoneRow.holds Try.pinned (OpenSpec.ofChange entNoneWrong)

/-- 'arboretumlaw16.EntOne': WHATEVER THE INPUT: true; the input reads as it did. -/
def entOneSpec : ChangeSpec := { name := "entOne", fn := fun _ => fun
  | [d] => { results := [.lit (.bool true)], args := [d] }
  | _ => none }
def entOneRow : OpenClaim := { program := "ytegiibpdkioocaa", sum := "5891ef34dedfbf99888013cda06c74c990b32c2c1356a904ee2ff7f698f9750f", func := "arboretum/arboretumlaw16.EntOne", spec := "entOne", inPlace := ["internal/abi.NoEscape"], apart := false }
def EntOneSaid : Prop := entOneRow.holds Try.pinned (OpenSpec.ofChange entOneSpec)

/-- ITS FALSE NEIGHBOUR: 'it returns false'. Refute it at one input. -/
def entOneWrong : ChangeSpec := { name := "entOne", fn := fun _ => fun
  | [d] => { results := [.lit (.bool false)], args := [d] }
  | _ => none }
def EntOneWrongFalsely : Prop := entOneRow.holds Try.pinned (OpenSpec.ofChange entOneWrong)

/-- 'arboretumlaw23.CmdValid': WHATEVER THE INPUT: true; the input reads as it did. -/
def cmdValidSpec : ChangeSpec := { name := "cmdValid", fn := fun _ => fun
  | [d1, d2, d3, d4, d5] => { results := [.lit (.bool true)], args := [d1, d2, d3, d4, d5] }
  | _ => none }
def cmdValidRow : OpenClaim := { program := "ytegiibpdkioocaa", sum := "5891ef34dedfbf99888013cda06c74c990b32c2c1356a904ee2ff7f698f9750f", func := "arboretum/arboretumlaw23.CmdValid", spec := "cmdValid", inPlace := ["internal/abi.NoEscape"], apart := false }
def CmdValidSaid : Prop := cmdValidRow.holds Try.pinned (OpenSpec.ofChange cmdValidSpec)

/-- ITS FALSE NEIGHBOUR: 'it returns false'. Refute it at one input. -/
def cmdValidWrong : ChangeSpec := { name := "cmdValid", fn := fun _ => fun
  | [d1, d2, d3, d4, d5] => { results := [.lit (.bool false)], args := [d1, d2, d3, d4, d5] }
  | _ => none }
def CmdValidWrongFalsely : Prop := cmdValidRow.holds Try.pinned (OpenSpec.ofChange cmdValidWrong)

/-- 'arboretumlaw23.CmdBack': WHATEVER THE INPUT: true; the input reads as it did. -/
def cmdBackSpec : ChangeSpec := { name := "cmdBack", fn := fun _ => fun
  | [d1, d2, d3, d4, d5] => { results := [.lit (.bool true)], args := [d1, d2, d3, d4, d5] }
  | _ => none }
def cmdBackRow : OpenClaim := { program := "ytegiibpdkioocaa", sum := "5891ef34dedfbf99888013cda06c74c990b32c2c1356a904ee2ff7f698f9750f", func := "arboretum/arboretumlaw23.CmdBack", spec := "cmdBack", inPlace := ["internal/abi.NoEscape"], apart := false }
def CmdBackSaid : Prop := cmdBackRow.holds Try.pinned (OpenSpec.ofChange cmdBackSpec)

/-- ITS FALSE NEIGHBOUR: 'it returns false'. Refute it at one input. -/
def cmdBackWrong : ChangeSpec := { name := "cmdBack", fn := fun _ => fun
  | [d1, d2, d3, d4, d5] => { results := [.lit (.bool false)], args := [d1, d2, d3, d4, d5] }
  | _ => none }
def CmdBackWrongFalsely : Prop := cmdBackRow.holds Try.pinned (OpenSpec.ofChange cmdBackWrong)

/-- 'arboretumlaw9.BranchFinds': WHATEVER THE INPUT: true; the input reads as it did. -/
def branchFindsSpec : ChangeSpec := { name := "branchFinds", fn := fun _ => fun
  | [d1, d2] => { results := [.lit (.bool true)], args := [d1, d2] }
  | _ => none }
def branchFindsRow : OpenClaim := { program := "ytegiibpdkioocaa", sum := "5891ef34dedfbf99888013cda06c74c990b32c2c1356a904ee2ff7f698f9750f", func := "arboretum/arboretumlaw9.BranchFinds", spec := "branchFinds", inPlace := ["internal/abi.NoEscape"], apart := false }
def BranchFindsSaid : Prop := branchFindsRow.holds Try.pinned (OpenSpec.ofChange branchFindsSpec)

/-- ITS FALSE NEIGHBOUR: 'it returns false'. Refute it at one input. -/
def branchFindsWrong : ChangeSpec := { name := "branchFinds", fn := fun _ => fun
  | [d1, d2] => { results := [.lit (.bool false)], args := [d1, d2] }
  | _ => none }
def BranchFindsWrongFalsely : Prop := branchFindsRow.holds Try.pinned (OpenSpec.ofChange branchFindsWrong)

/-- 'arboretumlaw9.BranchReplaces': WHATEVER THE INPUT: true; the input reads as it did. -/
def branchReplacesSpec : ChangeSpec := { name := "branchReplaces", fn := fun _ => fun
  | [d1, d2, d3] => { results := [.lit (.bool true)], args := [d1, d2, d3] }
  | _ => none }
def branchReplacesRow : OpenClaim := { program := "ytegiibpdkioocaa", sum := "5891ef34dedfbf99888013cda06c74c990b32c2c1356a904ee2ff7f698f9750f", func := "arboretum/arboretumlaw9.BranchReplaces", spec := "branchReplaces", inPlace := ["internal/abi.NoEscape"], apart := false }
def BranchReplacesSaid : Prop := branchReplacesRow.holds Try.pinned (OpenSpec.ofChange branchReplacesSpec)

/-- ITS FALSE NEIGHBOUR: 'it returns false'. Refute it at one input. -/
def branchReplacesWrong : ChangeSpec := { name := "branchReplaces", fn := fun _ => fun
  | [d1, d2, d3] => { results := [.lit (.bool false)], args := [d1, d2, d3] }
  | _ => none }
def BranchReplacesWrongFalsely : Prop := branchReplacesRow.holds Try.pinned (OpenSpec.ofChange branchReplacesWrong)

/-- 'arboretumlaw9.BranchBack': WHATEVER THE INPUT: true; the input reads as it did. -/
def branchBackSpec : ChangeSpec := { name := "branchBack", fn := fun _ => fun
  | [d1, d2] => { results := [.lit (.bool true)], args := [d1, d2] }
  | _ => none }
def branchBackRow : OpenClaim := { program := "ytegiibpdkioocaa", sum := "5891ef34dedfbf99888013cda06c74c990b32c2c1356a904ee2ff7f698f9750f", func := "arboretum/arboretumlaw9.BranchBack", spec := "branchBack", inPlace := ["internal/abi.NoEscape"], apart := false }
def BranchBackSaid : Prop := branchBackRow.holds Try.pinned (OpenSpec.ofChange branchBackSpec)

/-- ITS FALSE NEIGHBOUR: 'it returns false'. Refute it at one input. -/
def branchBackWrong : ChangeSpec := { name := "branchBack", fn := fun _ => fun
  | [d1, d2] => { results := [.lit (.bool false)], args := [d1, d2] }
  | _ => none }
def BranchBackWrongFalsely : Prop := branchBackRow.holds Try.pinned (OpenSpec.ofChange branchBackWrong)

/-- 'arboretumlaw9.BranchFits': WHATEVER THE INPUT: true; the input reads as it did. -/
def branchFitsSpec : ChangeSpec := { name := "branchFits", fn := fun _ => fun
  | [d1, d2, d3] => { results := [.lit (.bool true)], args := [d1, d2, d3] }
  | _ => none }
def branchFitsRow : OpenClaim := { program := "ytegiibpdkioocaa", sum := "5891ef34dedfbf99888013cda06c74c990b32c2c1356a904ee2ff7f698f9750f", func := "arboretum/arboretumlaw9.BranchFits", spec := "branchFits", inPlace := ["internal/abi.NoEscape"], apart := false }
def BranchFitsSaid : Prop := branchFitsRow.holds Try.pinned (OpenSpec.ofChange branchFitsSpec)

/-- ITS FALSE NEIGHBOUR: 'it returns false'. Refute it at one input. -/
def branchFitsWrong : ChangeSpec := { name := "branchFits", fn := fun _ => fun
  | [d1, d2, d3] => { results := [.lit (.bool false)], args := [d1, d2, d3] }
  | _ => none }
def BranchFitsWrongFalsely : Prop := branchFitsRow.holds Try.pinned (OpenSpec.ofChange branchFitsWrong)

/- THE SECOND FORM. 'bulk': how many values and letters a reading holds, each counted each time it is reached (what is shared counts as often as it is met; a slice's spare places count too). A statement '..UptoSaid' is the law's where the arguments, and the package variables that the reading takes, are together of bulk at most 1048576: NARROWER than '..Said'. Prove '..Said' where nothing that the law and all that it calls make is longer than what came in: it says more and counts as full. Else prove '..UptoSaid'. A law counts once. -/
mutual
def uptoBulk {H : Type} : DataW H → Nat
  | .lit (.string bytes) => bytes.length + 1
  | .lit _ => 1
  | .nil => 1
  | .ptr d => uptoBulk d + 1
  | .slice elems spare => uptoBulkAll elems + uptoBulkAll spare + 1
  | .agg parts => uptoBulkAll parts + 1
  | .iface _ d => uptoBulk d + 1
  | .map entries => uptoBulkEntries entries + 1
  | .held _ => 1
def uptoBulkAll {H : Type} : List (DataW H) → Nat
  | [] => 0
  | d :: r => uptoBulk d + uptoBulkAll r
def uptoBulkEntries {H : Type} : List (Lit × DataW H) → Nat
  | [] => 0
  | x :: r => uptoBulkEntry x + uptoBulkEntries r
def uptoBulkEntry {H : Type} : Lit × DataW H → Nat
  | (.string bytes, d) => bytes.length + uptoBulk d + 1
  | (_, d) => uptoBulk d + 1
 end
def uptoSmall : (H : Type) → List (DataW H) → Bool := fun _ ds => decide (uptoBulkAll ds ≤ 1048576)
def OpenSpec.upto (s : _root_.Go.ChangeSpec) : _root_.Go.OpenSpec := { _root_.Go.OpenSpec.ofChange s with cond := some uptoSmall }

/-- 'arboretumlaw1.NumTells', WHERE WHAT IT READS IS OF BULK AT MOST 1048576: true; the input reads as it did. -/
def numTellsUptoRow : OpenClaim := { program := "ytegiibpdkioocaa", sum := "5891ef34dedfbf99888013cda06c74c990b32c2c1356a904ee2ff7f698f9750f", func := "arboretum/arboretumlaw1.NumTells", spec := "numTells", inPlace := ["internal/abi.NoEscape"], apart := false, narrowed := true }
def NumTellsUptoSaid : Prop := numTellsUptoRow.holds Try.pinned (OpenSpec.upto numTellsSpec)

/-- 'arboretumlaw1.NumBack', WHERE WHAT IT READS IS OF BULK AT MOST 1048576: true; the input reads as it did. -/
def numBackUptoRow : OpenClaim := { program := "ytegiibpdkioocaa", sum := "5891ef34dedfbf99888013cda06c74c990b32c2c1356a904ee2ff7f698f9750f", func := "arboretum/arboretumlaw1.NumBack", spec := "numBack", inPlace := ["internal/abi.NoEscape"], apart := false, narrowed := true }
def NumBackUptoSaid : Prop := numBackUptoRow.holds Try.pinned (OpenSpec.upto numBackSpec)

/-- 'arboretumlaw16.EntBack', WHERE WHAT IT READS IS OF BULK AT MOST 1048576: true; the input reads as it did. -/
def entBackUptoRow : OpenClaim := { program := "ytegiibpdkioocaa", sum := "5891ef34dedfbf99888013cda06c74c990b32c2c1356a904ee2ff7f698f9750f", func := "arboretum/arboretumlaw16.EntBack", spec := "entBack", inPlace := ["internal/abi.NoEscape"], apart := false, narrowed := true }
def EntBackUptoSaid : Prop := entBackUptoRow.holds Try.pinned (OpenSpec.upto entBackSpec)

/-- 'arboretumlaw16.EntNone', WHERE WHAT IT READS IS OF BULK AT MOST 1048576: true; the input reads as it did. -/
def entNoneUptoRow : OpenClaim := { program := "ytegiibpdkioocaa", sum := "5891ef34dedfbf99888013cda06c74c990b32c2c1356a904ee2ff7f698f9750f", func := "arboretum/arboretumlaw16.EntNone", spec := "entNone", inPlace := ["internal/abi.NoEscape"], apart := false, narrowed := true }
def EntNoneUptoSaid : Prop := entNoneUptoRow.holds Try.pinned (OpenSpec.upto entNoneSpec)

/-- 'arboretumlaw16.EntOne', WHERE WHAT IT READS IS OF BULK AT MOST 1048576: true; the input reads as it did. -/
def entOneUptoRow : OpenClaim := { program := "ytegiibpdkioocaa", sum := "5891ef34dedfbf99888013cda06c74c990b32c2c1356a904ee2ff7f698f9750f", func := "arboretum/arboretumlaw16.EntOne", spec := "entOne", inPlace := ["internal/abi.NoEscape"], apart := false, narrowed := true }
def EntOneUptoSaid : Prop := entOneUptoRow.holds Try.pinned (OpenSpec.upto entOneSpec)

/-- 'arboretumlaw23.CmdValid', WHERE WHAT IT READS IS OF BULK AT MOST 1048576: true; the input reads as it did. -/
def cmdValidUptoRow : OpenClaim := { program := "ytegiibpdkioocaa", sum := "5891ef34dedfbf99888013cda06c74c990b32c2c1356a904ee2ff7f698f9750f", func := "arboretum/arboretumlaw23.CmdValid", spec := "cmdValid", inPlace := ["internal/abi.NoEscape"], apart := false, narrowed := true }
def CmdValidUptoSaid : Prop := cmdValidUptoRow.holds Try.pinned (OpenSpec.upto cmdValidSpec)

/-- 'arboretumlaw23.CmdBack', WHERE WHAT IT READS IS OF BULK AT MOST 1048576: true; the input reads as it did. -/
def cmdBackUptoRow : OpenClaim := { program := "ytegiibpdkioocaa", sum := "5891ef34dedfbf99888013cda06c74c990b32c2c1356a904ee2ff7f698f9750f", func := "arboretum/arboretumlaw23.CmdBack", spec := "cmdBack", inPlace := ["internal/abi.NoEscape"], apart := false, narrowed := true }
def CmdBackUptoSaid : Prop := cmdBackUptoRow.holds Try.pinned (OpenSpec.upto cmdBackSpec)

/-- 'arboretumlaw9.BranchFinds', WHERE WHAT IT READS IS OF BULK AT MOST 1048576: true; the input reads as it did. -/
def branchFindsUptoRow : OpenClaim := { program := "ytegiibpdkioocaa", sum := "5891ef34dedfbf99888013cda06c74c990b32c2c1356a904ee2ff7f698f9750f", func := "arboretum/arboretumlaw9.BranchFinds", spec := "branchFinds", inPlace := ["internal/abi.NoEscape"], apart := false, narrowed := true }
def BranchFindsUptoSaid : Prop := branchFindsUptoRow.holds Try.pinned (OpenSpec.upto branchFindsSpec)

/-- 'arboretumlaw9.BranchReplaces', WHERE WHAT IT READS IS OF BULK AT MOST 1048576: true; the input reads as it did. -/
def branchReplacesUptoRow : OpenClaim := { program := "ytegiibpdkioocaa", sum := "5891ef34dedfbf99888013cda06c74c990b32c2c1356a904ee2ff7f698f9750f", func := "arboretum/arboretumlaw9.BranchReplaces", spec := "branchReplaces", inPlace := ["internal/abi.NoEscape"], apart := false, narrowed := true }
def BranchReplacesUptoSaid : Prop := branchReplacesUptoRow.holds Try.pinned (OpenSpec.upto branchReplacesSpec)

/-- 'arboretumlaw9.BranchBack', WHERE WHAT IT READS IS OF BULK AT MOST 1048576: true; the input reads as it did. -/
def branchBackUptoRow : OpenClaim := { program := "ytegiibpdkioocaa", sum := "5891ef34dedfbf99888013cda06c74c990b32c2c1356a904ee2ff7f698f9750f", func := "arboretum/arboretumlaw9.BranchBack", spec := "branchBack", inPlace := ["internal/abi.NoEscape"], apart := false, narrowed := true }
def BranchBackUptoSaid : Prop := branchBackUptoRow.holds Try.pinned (OpenSpec.upto branchBackSpec)

/-- 'arboretumlaw9.BranchFits', WHERE WHAT IT READS IS OF BULK AT MOST 1048576: true; the input reads as it did. -/
def branchFitsUptoRow : OpenClaim := { program := "ytegiibpdkioocaa", sum := "5891ef34dedfbf99888013cda06c74c990b32c2c1356a904ee2ff7f698f9750f", func := "arboretum/arboretumlaw9.BranchFits", spec := "branchFits", inPlace := ["internal/abi.NoEscape"], apart := false, narrowed := true }
def BranchFitsUptoSaid : Prop := branchFitsUptoRow.holds Try.pinned (OpenSpec.upto branchFitsSpec)

end Rows
end Go.Proofs.Ytegiibpdkioocaa
