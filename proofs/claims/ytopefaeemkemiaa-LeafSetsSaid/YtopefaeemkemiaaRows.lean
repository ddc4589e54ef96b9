/-
  No cell of these rows narrows 'for every input' (looked for: loops, veiled, ifaces, maps, wideKeys, modest, calm, conditions, laid).
  DERIVED. THE GIVEN ROWS OF THIS SEAT. 4 by the template 'for every input the law returns true; each argument reads behind the call as it read before'; 0 by the template 'total and deterministic' (their statements: YtopefaeemkemiaaTotals.lean).
  GIVEN WITH THE SEED: the statements are not yours to turn. If you find one false, say at which input.
  Laid BY PROGRAM, IN A SANDBOX (cutbox-rows.mjs): the forced cells as the released guide's own fill.sh prints them over the translation 8542ffef0e7fedd7… (all of the seat's roots in one cut). By AI agents, Wed Nov 11 2026. No macro, syntax, notation, axiom, sorry.
-/
import Derived.Test.YtopefaeemkemiaaChecked
import GoSem.Claim
import GoSem.ClaimJoined
import GoSem.ClaimMapViews
import Derived.JoinedTies
import Derived.KernelRfl
namespace Go.Proofs.Ytopefaeemkemiaa
/- THE CELL 'sum', in the pinned program and in every row, IS THE sha256 OF THE DUMP (.gsa) THAT YtopefaeemkemiaaProg.lean LOADS. Nothing in Lean hashes anything: it is a label: what it is worth is what the hold of that sum in a sandbox is worth. -/
noncomputable def Try.pinned : Pinned := { name := "ytopefaeemkemiaa", sum := "8542ffef0e7fedd7bebab14784214f9762f6d7753b6c947fa6391bf7be7aaeeb", checked := Try.checked }
namespace Rows
def none {H : Type} : Left H := { results := [], args := [] }

/-- 'arboretumlaw8.LeafFinds': WHATEVER THE INPUT: true; the input reads as it did. -/
def leafFindsSpec : ChangeSpec := { name := "leafFinds", fn := fun _ => fun
  | [d1, d2] => { results := [.lit (.bool true)], args := [d1, d2] }
  | _ => none }
def leafFindsRow : OpenClaim := { program := "ytopefaeemkemiaa", sum := "8542ffef0e7fedd7bebab14784214f9762f6d7753b6c947fa6391bf7be7aaeeb", func := "arboretum/arboretumlaw8.LeafFinds", spec := "leafFinds", inPlace := ["slices.overlaps[arboretum/api.Item]", "internal/abi.NoEscape"], unfollowed := true, recurses := true, apart := false }
def LeafFindsSaid : Prop := leafFindsRow.holds Try.pinned (OpenSpec.ofChange leafFindsSpec)

/-- ITS FALSE NEIGHBOUR: 'it returns false'. Refute it at one input. -/
def leafFindsWrong : ChangeSpec := { name := "leafFinds", fn := fun _ => fun
  | [d1, d2] => { results := [.lit (.bool false)], args := [d1, d2] }
  | _ => none }
def LeafFindsWrongFalsely : Prop := leafFindsRow.holds Try.pinned (OpenSpec.ofChange leafFindsWrong)

/-- 'arboretumlaw8.LeafCuts': WHATEVER THE INPUT: true; the input reads as it did. -/
def leafCutsSpec : ChangeSpec := { name := "leafCuts", fn := fun _ => fun
  | [d1, d2, d3] => { results := [.lit (.bool true)], args := [d1, d2, d3] }
  | _ => none }
def leafCutsRow : OpenClaim := { program := "ytopefaeemkemiaa", sum := "8542ffef0e7fedd7bebab14784214f9762f6d7753b6c947fa6391bf7be7aaeeb", func := "arboretum/arboretumlaw8.LeafCuts", spec := "leafCuts", inPlace := ["internal/abi.NoEscape", "slices.overlaps[arboretum/api.Item]"], unfollowed := true, recurses := true, apart := false }
def LeafCutsSaid : Prop := leafCutsRow.holds Try.pinned (OpenSpec.ofChange leafCutsSpec)

/-- ITS FALSE NEIGHBOUR: 'it returns false'. Refute it at one input. -/
def leafCutsWrong : ChangeSpec := { name := "leafCuts", fn := fun _ => fun
  | [d1, d2, d3] => { results := [.lit (.bool false)], args := [d1, d2, d3] }
  | _ => none }
def LeafCutsWrongFalsely : Prop := leafCutsRow.holds Try.pinned (OpenSpec.ofChange leafCutsWrong)

/-- 'arboretumlaw8.LeafFits': WHATEVER THE INPUT: true; the input reads as it did. -/
def leafFitsSpec : ChangeSpec := { name := "leafFits", fn := fun _ => fun
  | [d1, d2] => { results := [.lit (.bool true)], args := [d1, d2] }
  | _ => none }
def leafFitsRow : OpenClaim := { program := "ytopefaeemkemiaa", sum := "8542ffef0e7fedd7bebab14784214f9762f6d7753b6c947fa6391bf7be7aaeeb", func := "arboretum/arboretumlaw8.LeafFits", spec := "leafFits", inPlace := ["internal/abi.NoEscape", "slices.overlaps[arboretum/api.Item]"], unfollowed := true, recurses := true, apart := false }
def LeafFitsSaid : Prop := leafFitsRow.holds Try.pinned (OpenSpec.ofChange leafFitsSpec)

/-- ITS FALSE NEIGHBOUR: 'it returns false'. Refute it at one input. -/
def leafFitsWrong : ChangeSpec := { name := "leafFits", fn := fun _ => fun
  | [d1, d2] => { results := [.lit (.bool false)], args := [d1, d2] }
  | _ => none }
def LeafFitsWrongFalsely : Prop := leafFitsRow.holds Try.pinned (OpenSpec.ofChange leafFitsWrong)

/-- 'arboretumlaw8.LeafSets': WHATEVER THE INPUT: true; the input reads as it did. -/
def leafSetsSpec : ChangeSpec := { name := "leafSets", fn := fun _ => fun
  | [d1, d2] => { results := [.lit (.bool true)], args := [d1, d2] }
  | _ => none }
def leafSetsRow : OpenClaim := { program := "ytopefaeemkemiaa", sum := "8542ffef0e7fedd7bebab14784214f9762f6d7753b6c947fa6391bf7be7aaeeb", func := "arboretum/arboretumlaw8.LeafSets", spec := "leafSets", inPlace := ["slices.overlaps[arboretum/api.Item]", "internal/abi.NoEscape"], unfollowed := true, recurses := true, apart := false }
def LeafSetsSaid : Prop := leafSetsRow.holds Try.pinned (OpenSpec.ofChange leafSetsSpec)

/-- ITS FALSE NEIGHBOUR: 'it returns false'. Refute it at one input. -/
def leafSetsWrong : ChangeSpec := { name := "leafSets", fn := fun _ => fun
  | [d1, d2] => { results := [.lit (.bool false)], args := [d1, d2] }
  | _ => none }
def LeafSetsWrongFalsely : Prop := leafSetsRow.holds Try.pinned (OpenSpec.ofChange leafSetsWrong)

/- THE SECOND FORM. 'bulk': how many values and letters a reading holds, each counted each time it is reached (what is shared counts as often as it is met; a slice's spare places count too). A statement '..UptoSaid' is the law's where the arguments, and the package variables that the reading takes, are together of bulk at most 1048576: NARROWER than '..Said'. Prove '..Said' where nothing that the law and all that it calls make is longer than what came in: it says more and counts as full. Else prove '..UptoSaid'. A law counts once. -/
mutual
def uptoBulk {H : Type} : DataW H → Nat
  | .lit (.string bytes) => bytes.length + 1
  | .lit _ => 1
  | .nil => 1
  | .ptr d => uptoBulk d + 1
  | .slice elems spare => uptoBulkAll elems + uptoBulkAll spare + 1
  | .agg parts => uptoBulkAll parts + 1
  | .iface _ d => uptoBulk d + 1
  | .map entries => uptoBulkEntries entries + 1
  | .held _ => 1
def uptoBulkAll {H : Type} : List (DataW H) → Nat
  | [] => 0
  | d :: r => uptoBulk d + uptoBulkAll r
def uptoBulkEntries {H : Type} : List (Lit × DataW H) → Nat
  | [] => 0
  | x :: r => uptoBulkEntry x + uptoBulkEntries r
def uptoBulkEntry {H : Type} : Lit × DataW H → Nat
  | (.string bytes, d) => bytes.length + uptoBulk d + 1
  | (_, d) => uptoBulk d + 1
 end
def uptoSmall : (H : Type) → List (DataW H) → Bool := fun _ ds => decide (uptoBulkAll ds ≤ 1048576)
def OpenSpec.upto (s : _root_.Go.ChangeSpec) : _root_.Go.OpenSpec := { _root_.Go.OpenSpec.ofChange s with cond := some uptoSmall }

/-- 'arboretumlaw8.LeafFinds', WHERE WHAT IT READS IS OF BULK AT MOST 1048576: true; the input reads as it did. -/
def leafFindsUptoRow : OpenClaim := { program := "ytopefaeemkemiaa", sum := "8542ffef0e7fedd7bebab14784214f9762f6d7753b6c947fa6391bf7be7aaeeb", func := "arboretum/arboretumlaw8.LeafFinds", spec := "leafFinds", inPlace := ["slices.overlaps[arboretum/api.Item]", "internal/abi.NoEscape"], unfollowed := true, recurses := true, apart := false, narrowed := true }
def LeafFindsUptoSaid : Prop := leafFindsUptoRow.holds Try.pinned (OpenSpec.upto leafFindsSpec)

/-- 'arboretumlaw8.LeafCuts', WHERE WHAT IT READS IS OF BULK AT MOST 1048576: true; the input reads as it did. -/
def leafCutsUptoRow : OpenClaim := { program := "ytopefaeemkemiaa", sum := "8542ffef0e7fedd7bebab14784214f9762f6d7753b6c947fa6391bf7be7aaeeb", func := "arboretum/arboretumlaw8.LeafCuts", spec := "leafCuts", inPlace := ["internal/abi.NoEscape", "slices.overlaps[arboretum/api.Item]"], unfollowed := true, recurses := true, apart := false, narrowed := true }
def LeafCutsUptoSaid : Prop := leafCutsUptoRow.holds Try.pinned (OpenSpec.upto leafCutsSpec)

/-- 'arboretumlaw8.LeafFits', WHERE WHAT IT READS IS OF BULK AT MOST 1048576: true; the input reads as it did. -/
def leafFitsUptoRow : OpenClaim := { program := "ytopefaeemkemiaa", sum := "8542ffef0e7fedd7bebab14784214f9762f6d7753b6c947fa6391bf7be7aaeeb", func := "arboretum/arboretumlaw8.LeafFits", spec := "leafFits", inPlace := ["internal/abi.NoEscape", "slices.overlaps[arboretum/api.Item]"], unfollowed := true, recurses := true, apart := false, narrowed := true }
def LeafFitsUptoSaid : Prop := leafFitsUptoRow.holds Try.pinned (OpenSpec.upto leafFitsSpec)

/-- 'arboretumlaw8.LeafSets', WHERE WHAT IT READS IS OF BULK AT MOST 1048576: true; the input reads as it did. -/
def leafSetsUptoRow : OpenClaim := { program := "ytopefaeemkemiaa", sum := "8542ffef0e7fedd7bebab14784214f9762f6d7753b6c947fa6391bf7be7aaeeb", func := "arboretum/arboretumlaw8.LeafSets", spec := "leafSets", inPlace := ["slices.overlaps[arboretum/api.Item]", "internal/abi.NoEscape"], unfollowed := true, recurses := true, apart := false, narrowed := true }
def LeafSetsUptoSaid : Prop := leafSetsUptoRow.holds Try.pinned (OpenSpec.upto leafSetsSpec)

end Rows
end Go.Proofs.Ytopefaeemkemiaa
