/-
  No cell of these rows narrows 'for every input' (looked for: loops, veiled, ifaces, maps, wideKeys, modest, calm, conditions, laid).
  DERIVED. THE GIVEN ROWS OF THIS SEAT. 7 by the template 'for every input the law returns true; each argument reads behind the call as it read before'; 0 by the template 'total and deterministic' (their statements: YtndkpanjgciimaaTotals.lean).
  GIVEN WITH THE SEED: the statements are not yours to turn. If you find one false, say at which input.
  Laid BY PROGRAM, IN A SANDBOX (cutbox-rows.mjs): the forced cells as the released guide's own fill.sh prints them over the translation 43a965e293f4ccf0… (all of the seat's roots in one cut). By AI agents, Wed Nov 11 2026. No macro, syntax, notation, axiom, sorry.
-/
import Derived.Test.YtndkpanjgciimaaChecked
import GoSem.Claim
import GoSem.ClaimJoined
import GoSem.ClaimMapViews
import Derived.JoinedTies
import Derived.KernelRfl
namespace Go.Proofs.Ytndkpanjgciimaa
/- THE CELL 'sum', in the pinned program and in every row, IS THE sha256 OF THE DUMP (.gsa) THAT YtndkpanjgciimaaProg.lean LOADS. Nothing in Lean hashes anything: it is a label: what it is worth is what the hold of that sum in a sandbox is worth. -/
noncomputable def Try.pinned : Pinned := { name := "ytndkpanjgciimaa", sum := "43a965e293f4ccf0d830d2fe2ae8da648f3bd768973546a17b18a0aa6e5ba151", checked := Try.checked }
namespace Rows
def none {H : Type} : Left H := { results := [], args := [] }

/-- 'arboretumlaw1.NumSums': WHATEVER THE INPUT: true; the input reads as it did. -/
def numSumsSpec : ChangeSpec := { name := "numSums", fn := fun _ => fun
  | [d1, d2, d3, d4] => { results := [.lit (.bool true)], args := [d1, d2, d3, d4] }
  | _ => none }
def numSumsRow : OpenClaim := { program := "ytndkpanjgciimaa", sum := "43a965e293f4ccf0d830d2fe2ae8da648f3bd768973546a17b18a0aa6e5ba151", func := "arboretum/arboretumlaw1.NumSums", spec := "numSums", apart := false }
def NumSumsSaid : Prop := numSumsRow.holds Try.pinned (OpenSpec.ofChange numSumsSpec)

/-- ITS FALSE NEIGHBOUR: 'it returns false'. Refute it at one input. -/
def numSumsWrong : ChangeSpec := { name := "numSums", fn := fun _ => fun
  | [d1, d2, d3, d4] => { results := [.lit (.bool false)], args := [d1, d2, d3, d4] }
  | _ => none }
def NumSumsWrongFalsely : Prop := numSumsRow.holds Try.pinned (OpenSpec.ofChange numSumsWrong)

/-- 'arboretumlaw1.NumFixes': WHATEVER THE INPUT: true; the input reads as it did. -/
def numFixesSpec : ChangeSpec := { name := "numFixes", fn := fun _ => fun
  | [d1, d2] => { results := [.lit (.bool true)], args := [d1, d2] }
  | _ => none }
def numFixesRow : OpenClaim := { program := "ytndkpanjgciimaa", sum := "43a965e293f4ccf0d830d2fe2ae8da648f3bd768973546a17b18a0aa6e5ba151", func := "arboretum/arboretumlaw1.NumFixes", spec := "numFixes", apart := false }
def NumFixesSaid : Prop := numFixesRow.holds Try.pinned (OpenSpec.ofChange numFixesSpec)

/-- ITS FALSE NEIGHBOUR: 'it returns false'. Refute it at one input. -/
def numFixesWrong : ChangeSpec := { name := "numFixes", fn := fun _ => fun
  | [d1, d2] => { results := [.lit (.bool false)], args := [d1, d2] }
  | _ => none }
def NumFixesWrongFalsely : Prop := numFixesRow.holds Try.pinned (OpenSpec.ofChange numFixesWrong)

/-- 'arboretumlaw1.NumDigits': WHATEVER THE INPUT: true; the input reads as it did. -/
def numDigitsSpec : ChangeSpec := { name := "numDigits", fn := fun _ => fun
  | [d1, d2] => { results := [.lit (.bool true)], args := [d1, d2] }
  | _ => none }
def numDigitsRow : OpenClaim := { program := "ytndkpanjgciimaa", sum := "43a965e293f4ccf0d830d2fe2ae8da648f3bd768973546a17b18a0aa6e5ba151", func := "arboretum/arboretumlaw1.NumDigits", spec := "numDigits", apart := false }
def NumDigitsSaid : Prop := numDigitsRow.holds Try.pinned (OpenSpec.ofChange numDigitsSpec)

/-- ITS FALSE NEIGHBOUR: 'it returns false'. Refute it at one input. -/
def numDigitsWrong : ChangeSpec := { name := "numDigits", fn := fun _ => fun
  | [d1, d2] => { results := [.lit (.bool false)], args := [d1, d2] }
  | _ => none }
def NumDigitsWrongFalsely : Prop := numDigitsRow.holds Try.pinned (OpenSpec.ofChange numDigitsWrong)

/-- 'arboretumlaw1.NumNone': WHATEVER THE INPUT: true; the input reads as it did. -/
def numNoneSpec : ChangeSpec := { name := "numNone", fn := fun _ => fun
  | [d] => { results := [.lit (.bool true)], args := [d] }
  | _ => none }
def numNoneRow : OpenClaim := { program := "ytndkpanjgciimaa", sum := "43a965e293f4ccf0d830d2fe2ae8da648f3bd768973546a17b18a0aa6e5ba151", func := "arboretum/arboretumlaw1.NumNone", spec := "numNone", apart := false }
def NumNoneSaid : Prop := numNoneRow.holds Try.pinned (OpenSpec.ofChange numNoneSpec)

/-- ITS FALSE NEIGHBOUR: 'it returns false'. Refute it at one input. -/
def numNoneWrong : ChangeSpec := { name := "numNone", fn := fun _ => fun
  | [d] => { results := [.lit (.bool false)], args := [d] }
  | _ => none }
def NumNoneWrongFalsely : Prop := numNoneRow.holds Try.pinned (OpenSpec.ofChange numNoneWrong)

/-- 'arboretumlaw1.NumFirst': WHATEVER THE INPUT: true; the input reads as it did. -/
def numFirstSpec : ChangeSpec := { name := "numFirst", fn := fun _ => fun
  | [d1, d2] => { results := [.lit (.bool true)], args := [d1, d2] }
  | _ => none }
def numFirstRow : OpenClaim := { program := "ytndkpanjgciimaa", sum := "43a965e293f4ccf0d830d2fe2ae8da648f3bd768973546a17b18a0aa6e5ba151", func := "arboretum/arboretumlaw1.NumFirst", spec := "numFirst", apart := false }
def NumFirstSaid : Prop := numFirstRow.holds Try.pinned (OpenSpec.ofChange numFirstSpec)

/-- ITS FALSE NEIGHBOUR: 'it returns false'. Refute it at one input. -/
def numFirstWrong : ChangeSpec := { name := "numFirst", fn := fun _ => fun
  | [d1, d2] => { results := [.lit (.bool false)], args := [d1, d2] }
  | _ => none }
def NumFirstWrongFalsely : Prop := numFirstRow.holds Try.pinned (OpenSpec.ofChange numFirstWrong)

/-- 'arboretumlaw1.NumTells': WHATEVER THE INPUT: true; the input reads as it did. -/
def numTellsSpec : ChangeSpec := { name := "numTells", fn := fun _ => fun
  | [d1, d2, d3, d4, d5, d6] => { results := [.lit (.bool true)], args := [d1, d2, d3, d4, d5, d6] }
  | _ => none }
def numTellsRow : OpenClaim := { program := "ytndkpanjgciimaa", sum := "43a965e293f4ccf0d830d2fe2ae8da648f3bd768973546a17b18a0aa6e5ba151", func := "arboretum/arboretumlaw1.NumTells", spec := "numTells", inPlace := ["internal/abi.NoEscape"], apart := false }
def NumTellsSaid : Prop := numTellsRow.holds Try.pinned (OpenSpec.ofChange numTellsSpec)

/-- ITS FALSE NEIGHBOUR: 'it returns false'. Refute it at one input. -/
def numTellsWrong : ChangeSpec := { name := "numTells", fn := fun _ => fun
  | [d1, d2, d3, d4, d5, d6] => { results := [.lit (.bool false)], args := [d1, d2, d3, d4, d5, d6] }
  | _ => none }
def NumTellsWrongFalsely : Prop := numTellsRow.holds Try.pinned (OpenSpec.ofChange numTellsWrong)

/-- 'arboretumlaw1.NumBack': WHATEVER THE INPUT: true; the input reads as it did. -/
def numBackSpec : ChangeSpec := { name := "numBack", fn := fun _ => fun
  | [d1, d2, d3, d4] => { results := [.lit (.bool true)], args := [d1, d2, d3, d4] }
  | _ => none }
def numBackRow : OpenClaim := { program := "ytndkpanjgciimaa", sum := "43a965e293f4ccf0d830d2fe2ae8da648f3bd768973546a17b18a0aa6e5ba151", func := "arboretum/arboretumlaw1.NumBack", spec := "numBack", inPlace := ["internal/abi.NoEscape"], apart := false }
def NumBackSaid : Prop := numBackRow.holds Try.pinned (OpenSpec.ofChange numBackSpec)

/-- ITS FALSE NEIGHBOUR: 'it returns false'. Refute it at one input. -/
def numBackWrong : ChangeSpec := { name := "numBack", fn := fun _ => fun
  | [d1, d2, d3, d4] => { results := [.lit (.bool false)], args := [d1, d2, d3, d4] }
  | _ => none }
def NumBackWrongFalsely : Prop := numBackRow.holds Try.pinned (OpenSpec.ofChange numBackWrong)

/- THE SECOND FORM. 'bulk': how many values and letters a reading holds, each counted each time it is reached (what is shared counts as often as it is met; a slice's spare places count too). A statement '..UptoSaid' is the law's where the arguments, and the package variables that the reading takes, are together of bulk at most 1048576: NARROWER than '..Said'. Prove '..Said' where nothing that the law and all that it calls make is longer than what came in: it says more and counts as full. Else prove '..UptoSaid'. A law counts once. -/
mutual
def uptoBulk {H : Type} : DataW H → Nat
  | .lit (.string bytes) => bytes.length + 1
  | .lit _ => 1
  | .nil => 1
  | .ptr d => uptoBulk d + 1
  | .slice elems spare => uptoBulkAll elems + uptoBulkAll spare + 1
  | .agg parts => uptoBulkAll parts + 1
  | .iface _ d => uptoBulk d + 1
  | .map entries => uptoBulkEntries entries + 1
  | .held _ => 1
def uptoBulkAll {H : Type} : List (DataW H) → Nat
  | [] => 0
  | d :: r => uptoBulk d + uptoBulkAll r
def uptoBulkEntries {H : Type} : List (Lit × DataW H) → Nat
  | [] => 0
  | x :: r => uptoBulkEntry x + uptoBulkEntries r
def uptoBulkEntry {H : Type} : Lit × DataW H → Nat
  | (.string bytes, d) => bytes.length + uptoBulk d + 1
  | (_, d) => uptoBulk d + 1
 end
def uptoSmall : (H : Type) → List (DataW H) → Bool := fun _ ds => decide (uptoBulkAll ds ≤ 1048576)
def OpenSpec.upto (s : _root_.Go.ChangeSpec) : _root_.Go.OpenSpec := { _root_.Go.OpenSpec.ofChange s with cond := some uptoSmall }

/-- 'arboretumlaw1.NumSums', WHERE WHAT IT READS IS OF BULK AT MOST 1048576: true; the input reads as it did. -/
def numSumsUptoRow : OpenClaim := { program := "ytndkpanjgciimaa", sum := "43a965e293f4ccf0d830d2fe2ae8da648f3bd768973546a17b18a0aa6e5ba151", func := "arboretum/arboretumlaw1.NumSums", spec := "numSums", apart := false, narrowed := true }
def NumSumsUptoSaid : Prop := numSumsUptoRow.holds Try.pinned (OpenSpec.upto numSumsSpec)

/-- 'arboretumlaw1.NumFixes', WHERE WHAT IT READS IS OF BULK AT MOST 1048576: true; the input reads as it did. -/
def numFixesUptoRow : OpenClaim := { program := "ytndkpanjgciimaa", sum := "43a965e293f4ccf0d830d2fe2ae8da648f3bd768973546a17b18a0aa6e5ba151", func := "arboretum/arboretumlaw1.NumFixes", spec := "numFixes", apart := false, narrowed := true }
def NumFixesUptoSaid : Prop := numFixesUptoRow.holds Try.pinned (OpenSpec.upto numFixesSpec)

/-- 'arboretumlaw1.NumDigits', WHERE WHAT IT READS IS OF BULK AT MOST 1048576: true; the input reads as it did. -/
def numDigitsUptoRow : OpenClaim := { program := "ytndkpanjgciimaa", sum := "43a965e293f4ccf0d830d2fe2ae8da648f3bd768973546a17b18a0aa6e5ba151", func := "arboretum/arboretumlaw1.NumDigits", spec := "numDigits", apart := false, narrowed := true }
def NumDigitsUptoSaid : Prop := numDigitsUptoRow.holds Try.pinned (OpenSpec.upto numDigitsSpec)

/-- 'arboretumlaw1.NumNone', WHERE WHAT IT READS IS OF BULK AT MOST 1048576: true; the input reads as it did. -/
def numNoneUptoRow : OpenClaim := { program := "ytndkpanjgciimaa", sum := "43a965e293f4ccf0d830d2fe2ae8da648f3bd768973546a17b18a0aa6e5ba151", func := "arboretum/arboretumlaw1.NumNone", spec := "numNone", apart := false, narrowed := true }
def NumNoneUptoSaid : Prop := numNoneUptoRow.holds Try.pinned (OpenSpec.upto numNoneSpec)

/-- 'arboretumlaw1.NumFirst', WHERE WHAT IT READS IS OF BULK AT MOST 1048576: true; the input reads as it did. -/
def numFirstUptoRow : OpenClaim := { program := "ytndkpanjgciimaa", sum := "43a965e293f4ccf0d830d2fe2ae8da648f3bd768973546a17b18a0aa6e5ba151", func := "arboretum/arboretumlaw1.NumFirst", spec := "numFirst", apart := false, narrowed := true }
def NumFirstUptoSaid : Prop := numFirstUptoRow.holds Try.pinned (OpenSpec.upto numFirstSpec)

/-- 'arboretumlaw1.NumTells', WHERE WHAT IT READS IS OF BULK AT MOST 1048576: true; the input reads as it did. -/
def numTellsUptoRow : OpenClaim := { program := "ytndkpanjgciimaa", sum := "43a965e293f4ccf0d830d2fe2ae8da648f3bd768973546a17b18a0aa6e5ba151", func := "arboretum/arboretumlaw1.NumTells", spec := "numTells", inPlace := ["internal/abi.NoEscape"], apart := false, narrowed := true }
def NumTellsUptoSaid : Prop := numTellsUptoRow.holds Try.pinned (OpenSpec.upto numTellsSpec)

/-- 'arboretumlaw1.NumBack', WHERE WHAT IT READS IS OF BULK AT MOST 1048576: true; the input reads as it did. -/
def numBackUptoRow : OpenClaim := { program := "ytndkpanjgciimaa", sum := "43a965e293f4ccf0d830d2fe2ae8da648f3bd768973546a17b18a0aa6e5ba151", func := "arboretum/arboretumlaw1.NumBack", spec := "numBack", inPlace := ["internal/abi.NoEscape"], apart := false, narrowed := true }
def NumBackUptoSaid : Prop := numBackUptoRow.holds Try.pinned (OpenSpec.upto numBackSpec)

end Rows
end Go.Proofs.Ytndkpanjgciimaa
