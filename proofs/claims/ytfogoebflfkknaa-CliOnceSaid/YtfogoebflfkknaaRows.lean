/-
  No cell of these rows narrows 'for every input' (looked for: loops, veiled, ifaces, maps, wideKeys, modest, calm, conditions, laid).
  DERIVED. THE GIVEN ROWS OF THIS SEAT. 6 by the template 'for every input the law returns true; each argument reads behind the call as it read before'; 0 by the template 'total and deterministic' (their statements: YtfogoebflfkknaaTotals.lean).
  GIVEN WITH THE SEED: the statements are not yours to turn. If you find one false, say at which input.
  Laid BY PROGRAM, IN A SANDBOX (cutbox-rows.mjs): the forced cells as the released guide's own fill.sh prints them over the translation f783835f3ca5277f… (all of the seat's roots in one cut). By AI agents, Wed Nov 11 2026. No macro, syntax, notation, axiom, sorry.
-/
import Derived.Test.YtfogoebflfkknaaChecked
import GoSem.Claim
import GoSem.ClaimJoined
import GoSem.ClaimMapViews
import Derived.JoinedTies
import Derived.KernelRfl
namespace Go.Proofs.Ytfogoebflfkknaa
/- THE CELL 'sum', in the pinned program and in every row, IS THE sha256 OF THE DUMP (.gsa) THAT YtfogoebflfkknaaProg.lean LOADS. Nothing in Lean hashes anything: it is a label: what it is worth is what the hold of that sum in a sandbox is worth. -/
noncomputable def Try.pinned : Pinned := { name := "ytfogoebflfkknaa", sum := "f783835f3ca5277fadff3b11c683449677c85b057e0be538b574df68e70cb2c2", checked := Try.checked }
namespace Rows
def none {H : Type} : Left H := { results := [], args := [] }

/-- 'arboretumlaw23.CmdTells': WHATEVER THE INPUT: true; the input reads as it did. -/
def cmdTellsSpec : ChangeSpec := { name := "cmdTells", fn := fun _ => fun
  | [d1, d2, d3, d4, d5] => { results := [.lit (.bool true)], args := [d1, d2, d3, d4, d5] }
  | _ => none }
def cmdTellsRow : OpenClaim := { program := "ytfogoebflfkknaa", sum := "f783835f3ca5277fadff3b11c683449677c85b057e0be538b574df68e70cb2c2", func := "arboretum/arboretumlaw23.CmdTells", spec := "cmdTells", inPlace := ["internal/abi.NoEscape"], apart := false }
def CmdTellsSaid : Prop := cmdTellsRow.holds Try.pinned (OpenSpec.ofChange cmdTellsSpec)

/-- ITS FALSE NEIGHBOUR: 'it returns false'. Refute it at one input. -/
def cmdTellsWrong : ChangeSpec := { name := "cmdTells", fn := fun _ => fun
  | [d1, d2, d3, d4, d5] => { results := [.lit (.bool false)], args := [d1, d2, d3, d4, d5] }
  | _ => none }
def CmdTellsWrongFalsely : Prop := cmdTellsRow.holds Try.pinned (OpenSpec.ofChange cmdTellsWrong)

/-- 'arboretumlaw26.MsgBack': WHATEVER THE INPUT: true; the input reads as it did. -/
def msgBackSpec : ChangeSpec := { name := "msgBack", fn := fun _ => fun
  | [d1, d2, d3] => { results := [.lit (.bool true)], args := [d1, d2, d3] }
  | _ => none }
def msgBackRow : OpenClaim := { program := "ytfogoebflfkknaa", sum := "f783835f3ca5277fadff3b11c683449677c85b057e0be538b574df68e70cb2c2", func := "arboretum/arboretumlaw26.MsgBack", spec := "msgBack", inPlace := ["internal/abi.NoEscape"], apart := false }
def MsgBackSaid : Prop := msgBackRow.holds Try.pinned (OpenSpec.ofChange msgBackSpec)

/-- ITS FALSE NEIGHBOUR: 'it returns false'. Refute it at one input. -/
def msgBackWrong : ChangeSpec := { name := "msgBack", fn := fun _ => fun
  | [d1, d2, d3] => { results := [.lit (.bool false)], args := [d1, d2, d3] }
  | _ => none }
def MsgBackWrongFalsely : Prop := msgBackRow.holds Try.pinned (OpenSpec.ofChange msgBackWrong)

/-- 'arboretumlaw29.CliTurns': WHATEVER THE INPUT: true; the input reads as it did. -/
def cliTurnsSpec : ChangeSpec := { name := "cliTurns", fn := fun _ => fun
  | [d1, d2, d3] => { results := [.lit (.bool true)], args := [d1, d2, d3] }
  | _ => none }
def cliTurnsRow : OpenClaim := { program := "ytfogoebflfkknaa", sum := "f783835f3ca5277fadff3b11c683449677c85b057e0be538b574df68e70cb2c2", func := "arboretum/arboretumlaw29.CliTurns", spec := "cliTurns", inPlace := ["internal/abi.NoEscape"], apart := false }
def CliTurnsSaid : Prop := cliTurnsRow.holds Try.pinned (OpenSpec.ofChange cliTurnsSpec)

/-- ITS FALSE NEIGHBOUR: 'it returns false'. Refute it at one input. -/
def cliTurnsWrong : ChangeSpec := { name := "cliTurns", fn := fun _ => fun
  | [d1, d2, d3] => { results := [.lit (.bool false)], args := [d1, d2, d3] }
  | _ => none }
def CliTurnsWrongFalsely : Prop := cliTurnsRow.holds Try.pinned (OpenSpec.ofChange cliTurnsWrong)

/-- 'arboretumlaw29.CliOnce': WHATEVER THE INPUT: true; the input reads as it did. -/
def cliOnceSpec : ChangeSpec := { name := "cliOnce", fn := fun _ => fun
  | [d] => { results := [.lit (.bool true)], args := [d] }
  | _ => none }
def cliOnceRow : OpenClaim := { program := "ytfogoebflfkknaa", sum := "f783835f3ca5277fadff3b11c683449677c85b057e0be538b574df68e70cb2c2", func := "arboretum/arboretumlaw29.CliOnce", spec := "cliOnce", inPlace := ["internal/abi.NoEscape"], apart := false }
def CliOnceSaid : Prop := cliOnceRow.holds Try.pinned (OpenSpec.ofChange cliOnceSpec)

/-- ITS FALSE NEIGHBOUR: 'it returns false'. Refute it at one input. -/
def cliOnceWrong : ChangeSpec := { name := "cliOnce", fn := fun _ => fun
  | [d] => { results := [.lit (.bool false)], args := [d] }
  | _ => none }
def CliOnceWrongFalsely : Prop := cliOnceRow.holds Try.pinned (OpenSpec.ofChange cliOnceWrong)

/-- 'arboretumlaw29.CliOne': WHATEVER THE INPUT: true; the input reads as it did. -/
def cliOneSpec : ChangeSpec := { name := "cliOne", fn := fun _ => fun
  | [d1, d2, d3] => { results := [.lit (.bool true)], args := [d1, d2, d3] }
  | _ => none }
def cliOneRow : OpenClaim := { program := "ytfogoebflfkknaa", sum := "f783835f3ca5277fadff3b11c683449677c85b057e0be538b574df68e70cb2c2", func := "arboretum/arboretumlaw29.CliOne", spec := "cliOne", inPlace := ["internal/abi.NoEscape"], apart := false }
def CliOneSaid : Prop := cliOneRow.holds Try.pinned (OpenSpec.ofChange cliOneSpec)

/-- ITS FALSE NEIGHBOUR: 'it returns false'. Refute it at one input. -/
def cliOneWrong : ChangeSpec := { name := "cliOne", fn := fun _ => fun
  | [d1, d2, d3] => { results := [.lit (.bool false)], args := [d1, d2, d3] }
  | _ => none }
def CliOneWrongFalsely : Prop := cliOneRow.holds Try.pinned (OpenSpec.ofChange cliOneWrong)

/-- 'arboretumlaw29.CliNone': WHATEVER THE INPUT: true; the input reads as it did. -/
def cliNoneSpec : ChangeSpec := { name := "cliNone", fn := fun _ => fun
  | [d] => { results := [.lit (.bool true)], args := [d] }
  | _ => none }
def cliNoneRow : OpenClaim := { program := "ytfogoebflfkknaa", sum := "f783835f3ca5277fadff3b11c683449677c85b057e0be538b574df68e70cb2c2", func := "arboretum/arboretumlaw29.CliNone", spec := "cliNone", inPlace := ["internal/abi.NoEscape"], apart := false }
def CliNoneSaid : Prop := cliNoneRow.holds Try.pinned (OpenSpec.ofChange cliNoneSpec)

/-- ITS FALSE NEIGHBOUR: 'it returns false'. Refute it at one input. -/
def cliNoneWrong : ChangeSpec := { name := "cliNone", fn := fun _ => fun
  | [d] => { results := [.lit (.bool false)], args := [d] }
  | _ => none }
def CliNoneWrongFalsely : Prop := cliNoneRow.holds Try.pinned (OpenSpec.ofChange cliNoneWrong)

/- THE SECOND FORM. 'bulk': how many values and letters a reading holds, each counted each time it is reached (what is shared counts as often as it is met; a slice's spare places count too). A statement '..UptoSaid' is the law's where the arguments, and the package variables that the reading takes, are together of bulk at most 1048576: NARROWER than '..Said'. Prove '..Said' where nothing that the law and all that it calls make is longer than what came in: it says more and counts as full. Else prove '..UptoSaid'. A law counts once. -/
mutual
def uptoBulk {H : Type} : DataW H → Nat
  | .lit (.string bytes) => bytes.length + 1
  | .lit _ => 1
  | .nil => 1
  | .ptr d => uptoBulk d + 1
  | .slice elems spare => uptoBulkAll elems + uptoBulkAll spare + 1
  | .agg parts => uptoBulkAll parts + 1
  | .iface _ d => uptoBulk d + 1
  | .map entries => uptoBulkEntries entries + 1
  | .held _ => 1
def uptoBulkAll {H : Type} : List (DataW H) → Nat
  | [] => 0
  | d :: r => uptoBulk d + uptoBulkAll r
def uptoBulkEntries {H : Type} : List (Lit × DataW H) → Nat
  | [] => 0
  | x :: r => uptoBulkEntry x + uptoBulkEntries r
def uptoBulkEntry {H : Type} : Lit × DataW H → Nat
  | (.string bytes, d) => bytes.length + uptoBulk d + 1
  | (_, d) => uptoBulk d + 1
 end
def uptoSmall : (H : Type) → List (DataW H) → Bool := fun _ ds => decide (uptoBulkAll ds ≤ 1048576)
def OpenSpec.upto (s : _root_.Go.ChangeSpec) : _root_.Go.OpenSpec := { _root_.Go.OpenSpec.ofChange s with cond := some uptoSmall }

/-- 'arboretumlaw23.CmdTells', WHERE WHAT IT READS IS OF BULK AT MOST 1048576: true; the input reads as it did. -/
def cmdTellsUptoRow : OpenClaim := { program := "ytfogoebflfkknaa", sum := "f783835f3ca5277fadff3b11c683449677c85b057e0be538b574df68e70cb2c2", func := "arboretum/arboretumlaw23.CmdTells", spec := "cmdTells", inPlace := ["internal/abi.NoEscape"], apart := false, narrowed := true }
def CmdTellsUptoSaid : Prop := cmdTellsUptoRow.holds Try.pinned (OpenSpec.upto cmdTellsSpec)

/-- 'arboretumlaw26.MsgBack', WHERE WHAT IT READS IS OF BULK AT MOST 1048576: true; the input reads as it did. -/
def msgBackUptoRow : OpenClaim := { program := "ytfogoebflfkknaa", sum := "f783835f3ca5277fadff3b11c683449677c85b057e0be538b574df68e70cb2c2", func := "arboretum/arboretumlaw26.MsgBack", spec := "msgBack", inPlace := ["internal/abi.NoEscape"], apart := false, narrowed := true }
def MsgBackUptoSaid : Prop := msgBackUptoRow.holds Try.pinned (OpenSpec.upto msgBackSpec)

/-- 'arboretumlaw29.CliTurns', WHERE WHAT IT READS IS OF BULK AT MOST 1048576: true; the input reads as it did. -/
def cliTurnsUptoRow : OpenClaim := { program := "ytfogoebflfkknaa", sum := "f783835f3ca5277fadff3b11c683449677c85b057e0be538b574df68e70cb2c2", func := "arboretum/arboretumlaw29.CliTurns", spec := "cliTurns", inPlace := ["internal/abi.NoEscape"], apart := false, narrowed := true }
def CliTurnsUptoSaid : Prop := cliTurnsUptoRow.holds Try.pinned (OpenSpec.upto cliTurnsSpec)

/-- 'arboretumlaw29.CliOnce', WHERE WHAT IT READS IS OF BULK AT MOST 1048576: true; the input reads as it did. -/
def cliOnceUptoRow : OpenClaim := { program := "ytfogoebflfkknaa", sum := "f783835f3ca5277fadff3b11c683449677c85b057e0be538b574df68e70cb2c2", func := "arboretum/arboretumlaw29.CliOnce", spec := "cliOnce", inPlace := ["internal/abi.NoEscape"], apart := false, narrowed := true }
def CliOnceUptoSaid : Prop := cliOnceUptoRow.holds Try.pinned (OpenSpec.upto cliOnceSpec)

/-- 'arboretumlaw29.CliOne', WHERE WHAT IT READS IS OF BULK AT MOST 1048576: true; the input reads as it did. -/
def cliOneUptoRow : OpenClaim := { program := "ytfogoebflfkknaa", sum := "f783835f3ca5277fadff3b11c683449677c85b057e0be538b574df68e70cb2c2", func := "arboretum/arboretumlaw29.CliOne", spec := "cliOne", inPlace := ["internal/abi.NoEscape"], apart := false, narrowed := true }
def CliOneUptoSaid : Prop := cliOneUptoRow.holds Try.pinned (OpenSpec.upto cliOneSpec)

/-- 'arboretumlaw29.CliNone', WHERE WHAT IT READS IS OF BULK AT MOST 1048576: true; the input reads as it did. -/
def cliNoneUptoRow : OpenClaim := { program := "ytfogoebflfkknaa", sum := "f783835f3ca5277fadff3b11c683449677c85b057e0be538b574df68e70cb2c2", func := "arboretum/arboretumlaw29.CliNone", spec := "cliNone", inPlace := ["internal/abi.NoEscape"], apart := false, narrowed := true }
def CliNoneUptoSaid : Prop := cliNoneUptoRow.holds Try.pinned (OpenSpec.upto cliNoneSpec)

end Rows
end Go.Proofs.Ytfogoebflfkknaa
