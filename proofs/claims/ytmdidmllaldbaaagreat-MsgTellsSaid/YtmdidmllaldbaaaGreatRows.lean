/-
  No cell of these rows narrows 'for every input' (looked for: loops, veiled, ifaces, maps, wideKeys, modest, calm, conditions, laid).
  DERIVED. THE GIVEN ROWS OF THIS SEAT. 5 by the template 'for every input the law returns true; each argument reads behind the call as it read before'; 0 by the template 'total and deterministic' (their statements: YtmdidmllaldbaaaGreatTotals.lean).
  GIVEN WITH THE SEED: the statements are not yours to turn. If you find one false, say at which input.
  Laid BY PROGRAM, IN A SANDBOX (cutbox-rows.mjs): the forced cells as the released guide's own fill.sh prints them over the translation e1399219c1fa719c… (all of the seat's roots in one cut). By AI agents, Wed Nov 11 2026. No macro, syntax, notation, axiom, sorry.
-/
import Derived.Test.YtmdidmllaldbaaaGreatChecked
import GoSem.Claim
import GoSem.ClaimJoined
import GoSem.ClaimMapViews
import Derived.JoinedTies
import Derived.KernelRfl
namespace Go.Proofs.YtmdidmllaldbaaaGreat
/- THE CELL 'sum', in the pinned program and in every row, IS THE sha256 OF THE DUMP (.gsa) THAT YtmdidmllaldbaaaGreatProg.lean LOADS. Nothing in Lean hashes anything: it is a label: what it is worth is what the hold of that sum in a sandbox is worth. -/
noncomputable def Tryz.pinned : Pinned := { name := "ytmdidmllaldbaaagreat", sum := "e1399219c1fa719c5024ff8513c8576d4c45133300c861af51186a3ce62c363d", checked := Tryz.checked }
namespace Rows
def none {H : Type} : Left H := { results := [], args := [] }

/-- 'arboretumlaw16.EntTells': WHATEVER THE INPUT: true; the input reads as it did. -/
def entTellsSpec : ChangeSpec := { name := "entTells", fn := fun _ => fun
  | [d1, d2, d3] => { results := [.lit (.bool true)], args := [d1, d2, d3] }
  | _ => none }
def entTellsRow : OpenClaim := { program := "ytmdidmllaldbaaagreat", sum := "e1399219c1fa719c5024ff8513c8576d4c45133300c861af51186a3ce62c363d", func := "arboretum/arboretumlaw16.EntTells", spec := "entTells", inPlace := ["internal/abi.NoEscape"], apart := false }
def EntTellsSaid : Prop := entTellsRow.holds Tryz.pinned (OpenSpec.ofChange entTellsSpec)

/-- ITS FALSE NEIGHBOUR: 'it returns false'. Refute it at one input. -/
def entTellsWrong : ChangeSpec := { name := "entTells", fn := fun _ => fun
  | [d1, d2, d3] => { results := [.lit (.bool false)], args := [d1, d2, d3] }
  | _ => none }
def EntTellsWrongFalsely : Prop := entTellsRow.holds Tryz.pinned (OpenSpec.ofChange entTellsWrong)

/-- 'arboretumlaw9.BranchTells': WHATEVER THE INPUT: true; the input reads as it did. -/
def branchTellsSpec : ChangeSpec := { name := "branchTells", fn := fun _ => fun
  | [d1, d2, d3, d4, d5] => { results := [.lit (.bool true)], args := [d1, d2, d3, d4, d5] }
  | _ => none }
def branchTellsRow : OpenClaim := { program := "ytmdidmllaldbaaagreat", sum := "e1399219c1fa719c5024ff8513c8576d4c45133300c861af51186a3ce62c363d", func := "arboretum/arboretumlaw9.BranchTells", spec := "branchTells", inPlace := ["internal/abi.NoEscape"], apart := false }
def BranchTellsSaid : Prop := branchTellsRow.holds Tryz.pinned (OpenSpec.ofChange branchTellsSpec)

/-- ITS FALSE NEIGHBOUR: 'it returns false'. Refute it at one input. -/
def branchTellsWrong : ChangeSpec := { name := "branchTells", fn := fun _ => fun
  | [d1, d2, d3, d4, d5] => { results := [.lit (.bool false)], args := [d1, d2, d3, d4, d5] }
  | _ => none }
def BranchTellsWrongFalsely : Prop := branchTellsRow.holds Tryz.pinned (OpenSpec.ofChange branchTellsWrong)

/-- 'arboretumlaw18.LogPlays': WHATEVER THE INPUT: true; the input reads as it did. -/
def logPlaysSpec : ChangeSpec := { name := "logPlays", fn := fun _ => fun
  | [d1, d2, d3, d4, d5] => { results := [.lit (.bool true)], args := [d1, d2, d3, d4, d5] }
  | _ => none }
def logPlaysRow : OpenClaim := { program := "ytmdidmllaldbaaagreat", sum := "e1399219c1fa719c5024ff8513c8576d4c45133300c861af51186a3ce62c363d", func := "arboretum/arboretumlaw18.LogPlays", spec := "logPlays", unfollowed := true, recurses := true, apart := false }
def LogPlaysSaid : Prop := logPlaysRow.holds Tryz.pinned (OpenSpec.ofChange logPlaysSpec)

/-- ITS FALSE NEIGHBOUR: 'it returns false'. Refute it at one input. -/
def logPlaysWrong : ChangeSpec := { name := "logPlays", fn := fun _ => fun
  | [d1, d2, d3, d4, d5] => { results := [.lit (.bool false)], args := [d1, d2, d3, d4, d5] }
  | _ => none }
def LogPlaysWrongFalsely : Prop := logPlaysRow.holds Tryz.pinned (OpenSpec.ofChange logPlaysWrong)

/-- 'arboretumlaw26.MsgTells': WHATEVER THE INPUT: true; the input reads as it did. -/
def msgTellsSpec : ChangeSpec := { name := "msgTells", fn := fun _ => fun
  | [d1, d2, d3] => { results := [.lit (.bool true)], args := [d1, d2, d3] }
  | _ => none }
def msgTellsRow : OpenClaim := { program := "ytmdidmllaldbaaagreat", sum := "e1399219c1fa719c5024ff8513c8576d4c45133300c861af51186a3ce62c363d", func := "arboretum/arboretumlaw26.MsgTells", spec := "msgTells", inPlace := ["internal/abi.NoEscape"], apart := false }
def MsgTellsSaid : Prop := msgTellsRow.holds Tryz.pinned (OpenSpec.ofChange msgTellsSpec)

/-- ITS FALSE NEIGHBOUR: 'it returns false'. Refute it at one input. -/
def msgTellsWrong : ChangeSpec := { name := "msgTells", fn := fun _ => fun
  | [d1, d2, d3] => { results := [.lit (.bool false)], args := [d1, d2, d3] }
  | _ => none }
def MsgTellsWrongFalsely : Prop := msgTellsRow.holds Tryz.pinned (OpenSpec.ofChange msgTellsWrong)

/-- 'arboretumlaw8.LeafTells': WHATEVER THE INPUT: true; the input reads as it did. -/
def leafTellsSpec : ChangeSpec := { name := "leafTells", fn := fun _ => fun
  | [d1, d2, d3, d4] => { results := [.lit (.bool true)], args := [d1, d2, d3, d4] }
  | _ => none }
def leafTellsRow : OpenClaim := { program := "ytmdidmllaldbaaagreat", sum := "e1399219c1fa719c5024ff8513c8576d4c45133300c861af51186a3ce62c363d", func := "arboretum/arboretumlaw8.LeafTells", spec := "leafTells", inPlace := ["slices.overlaps[arboretum/api.Item]", "internal/abi.NoEscape"], unfollowed := true, recurses := true, apart := false }
def LeafTellsSaid : Prop := leafTellsRow.holds Tryz.pinned (OpenSpec.ofChange leafTellsSpec)

/-- ITS FALSE NEIGHBOUR: 'it returns false'. Refute it at one input. -/
def leafTellsWrong : ChangeSpec := { name := "leafTells", fn := fun _ => fun
  | [d1, d2, d3, d4] => { results := [.lit (.bool false)], args := [d1, d2, d3, d4] }
  | _ => none }
def LeafTellsWrongFalsely : Prop := leafTellsRow.holds Tryz.pinned (OpenSpec.ofChange leafTellsWrong)

/- THE SECOND FORM. 'bulk': how many values and letters a reading holds, each counted each time it is reached (what is shared counts as often as it is met; a slice's spare places count too). A statement '..UptoSaid' is the law's where the arguments, and the package variables that the reading takes, are together of bulk at most 1048576: NARROWER than '..Said'. Prove '..Said' where nothing that the law and all that it calls make is longer than what came in: it says more and counts as full. Else prove '..UptoSaid'. A law counts once. -/
mutual
def uptoBulk {H : Type} : DataW H → Nat
  | .lit (.string bytes) => bytes.length + 1
  | .lit _ => 1
  | .nil => 1
  | .ptr d => uptoBulk d + 1
  | .slice elems spare => uptoBulkAll elems + uptoBulkAll spare + 1
  | .agg parts => uptoBulkAll parts + 1
  | .iface _ d => uptoBulk d + 1
  | .map entries => uptoBulkEntries entries + 1
  | .held _ => 1
def uptoBulkAll {H : Type} : List (DataW H) → Nat
  | [] => 0
  | d :: r => uptoBulk d + uptoBulkAll r
def uptoBulkEntries {H : Type} : List (Lit × DataW H) → Nat
  | [] => 0
  | x :: r => uptoBulkEntry x + uptoBulkEntries r
def uptoBulkEntry {H : Type} : Lit × DataW H → Nat
  | (.string bytes, d) => bytes.length + uptoBulk d + 1
  | (_, d) => uptoBulk d + 1
 end
def uptoSmall : (H : Type) → List (DataW H) → Bool := fun _ ds => decide (uptoBulkAll ds ≤ 1048576)
def OpenSpec.upto (s : _root_.Go.ChangeSpec) : _root_.Go.OpenSpec := { _root_.Go.OpenSpec.ofChange s with cond := some uptoSmall }

/-- 'arboretumlaw16.EntTells', WHERE WHAT IT READS IS OF BULK AT MOST 1048576: true; the input reads as it did. -/
def entTellsUptoRow : OpenClaim := { program := "ytmdidmllaldbaaagreat", sum := "e1399219c1fa719c5024ff8513c8576d4c45133300c861af51186a3ce62c363d", func := "arboretum/arboretumlaw16.EntTells", spec := "entTells", inPlace := ["internal/abi.NoEscape"], apart := false, narrowed := true }
def EntTellsUptoSaid : Prop := entTellsUptoRow.holds Tryz.pinned (OpenSpec.upto entTellsSpec)

/-- 'arboretumlaw9.BranchTells', WHERE WHAT IT READS IS OF BULK AT MOST 1048576: true; the input reads as it did. -/
def branchTellsUptoRow : OpenClaim := { program := "ytmdidmllaldbaaagreat", sum := "e1399219c1fa719c5024ff8513c8576d4c45133300c861af51186a3ce62c363d", func := "arboretum/arboretumlaw9.BranchTells", spec := "branchTells", inPlace := ["internal/abi.NoEscape"], apart := false, narrowed := true }
def BranchTellsUptoSaid : Prop := branchTellsUptoRow.holds Tryz.pinned (OpenSpec.upto branchTellsSpec)

/-- 'arboretumlaw18.LogPlays', WHERE WHAT IT READS IS OF BULK AT MOST 1048576: true; the input reads as it did. -/
def logPlaysUptoRow : OpenClaim := { program := "ytmdidmllaldbaaagreat", sum := "e1399219c1fa719c5024ff8513c8576d4c45133300c861af51186a3ce62c363d", func := "arboretum/arboretumlaw18.LogPlays", spec := "logPlays", unfollowed := true, recurses := true, apart := false, narrowed := true }
def LogPlaysUptoSaid : Prop := logPlaysUptoRow.holds Tryz.pinned (OpenSpec.upto logPlaysSpec)

/-- 'arboretumlaw26.MsgTells', WHERE WHAT IT READS IS OF BULK AT MOST 1048576: true; the input reads as it did. -/
def msgTellsUptoRow : OpenClaim := { program := "ytmdidmllaldbaaagreat", sum := "e1399219c1fa719c5024ff8513c8576d4c45133300c861af51186a3ce62c363d", func := "arboretum/arboretumlaw26.MsgTells", spec := "msgTells", inPlace := ["internal/abi.NoEscape"], apart := false, narrowed := true }
def MsgTellsUptoSaid : Prop := msgTellsUptoRow.holds Tryz.pinned (OpenSpec.upto msgTellsSpec)

/-- 'arboretumlaw8.LeafTells', WHERE WHAT IT READS IS OF BULK AT MOST 1048576: true; the input reads as it did. -/
def leafTellsUptoRow : OpenClaim := { program := "ytmdidmllaldbaaagreat", sum := "e1399219c1fa719c5024ff8513c8576d4c45133300c861af51186a3ce62c363d", func := "arboretum/arboretumlaw8.LeafTells", spec := "leafTells", inPlace := ["slices.overlaps[arboretum/api.Item]", "internal/abi.NoEscape"], unfollowed := true, recurses := true, apart := false, narrowed := true }
def LeafTellsUptoSaid : Prop := leafTellsUptoRow.holds Tryz.pinned (OpenSpec.upto leafTellsSpec)

end Rows
end Go.Proofs.YtmdidmllaldbaaaGreat
