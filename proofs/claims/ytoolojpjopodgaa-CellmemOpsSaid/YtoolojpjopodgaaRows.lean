/-
  No cell of these rows narrows 'for every input' (looked for: loops, veiled, ifaces, maps, wideKeys, modest, calm, conditions, laid).
  DERIVED. THE GIVEN ROWS OF THIS SEAT. 9 by the template 'for every input the law returns true; each argument reads behind the call as it read before'; 0 by the template 'total and deterministic' (their statements: YtoolojpjopodgaaTotals.lean).
  GIVEN WITH THE SEED: the statements are not yours to turn. If you find one false, say at which input.
  Laid BY PROGRAM, IN A SANDBOX (cutbox-rows.mjs): the forced cells as the released guide's own fill.sh prints them over the translation ed23130547b5343b… (all of the seat's roots in one cut). By AI agents, Wed Nov 11 2026. No macro, syntax, notation, axiom, sorry.
-/
import Derived.Test.YtoolojpjopodgaaChecked
import GoSem.Claim
import GoSem.ClaimJoined
import GoSem.ClaimMapViews
import Derived.JoinedTies
import Derived.KernelRfl
namespace Go.Proofs.Ytoolojpjopodgaa
/- THE CELL 'sum', in the pinned program and in every row, IS THE sha256 OF THE DUMP (.gsa) THAT YtoolojpjopodgaaProg.lean LOADS. Nothing in Lean hashes anything: it is a label: what it is worth is what the hold of that sum in a sandbox is worth. -/
noncomputable def Try.pinned : Pinned := { name := "ytoolojpjopodgaa", sum := "ed23130547b5343bd4d6bc9b217d90b508d7d3e8d605739358828cc467f03abf", checked := Try.checked }
namespace Rows
def none {H : Type} : Left H := { results := [], args := [] }

/-- 'arenanetlaw09.CellmemBounds': WHATEVER THE INPUT: true; the input reads as it did. -/
def cellmemBoundsSpec : ChangeSpec := { name := "cellmemBounds", fn := fun _ => fun
  | [d1, d2, d3] => { results := [.lit (.bool true)], args := [d1, d2, d3] }
  | _ => none }
def cellmemBoundsRow : OpenClaim := { program := "ytoolojpjopodgaa", sum := "ed23130547b5343bd4d6bc9b217d90b508d7d3e8d605739358828cc467f03abf", func := "arenanet/arenanetlaw09.CellmemBounds", spec := "cellmemBounds", unfollowed := true, recurses := true, apart := false }
def CellmemBoundsSaid : Prop := cellmemBoundsRow.holds Try.pinned (OpenSpec.ofChange cellmemBoundsSpec)

/-- ITS FALSE NEIGHBOUR: 'it returns false'. Refute it at one input. -/
def cellmemBoundsWrong : ChangeSpec := { name := "cellmemBounds", fn := fun _ => fun
  | [d1, d2, d3] => { results := [.lit (.bool false)], args := [d1, d2, d3] }
  | _ => none }
def CellmemBoundsWrongFalsely : Prop := cellmemBoundsRow.holds Try.pinned (OpenSpec.ofChange cellmemBoundsWrong)

/-- 'arenanetlaw09.CellmemOwns': WHATEVER THE INPUT: true; the input reads as it did. -/
def cellmemOwnsSpec : ChangeSpec := { name := "cellmemOwns", fn := fun _ => fun
  | [d1, d2] => { results := [.lit (.bool true)], args := [d1, d2] }
  | _ => none }
def cellmemOwnsRow : OpenClaim := { program := "ytoolojpjopodgaa", sum := "ed23130547b5343bd4d6bc9b217d90b508d7d3e8d605739358828cc467f03abf", func := "arenanet/arenanetlaw09.CellmemOwns", spec := "cellmemOwns", unfollowed := true, recurses := true, apart := false }
def CellmemOwnsSaid : Prop := cellmemOwnsRow.holds Try.pinned (OpenSpec.ofChange cellmemOwnsSpec)

/-- ITS FALSE NEIGHBOUR: 'it returns false'. Refute it at one input. -/
def cellmemOwnsWrong : ChangeSpec := { name := "cellmemOwns", fn := fun _ => fun
  | [d1, d2] => { results := [.lit (.bool false)], args := [d1, d2] }
  | _ => none }
def CellmemOwnsWrongFalsely : Prop := cellmemOwnsRow.holds Try.pinned (OpenSpec.ofChange cellmemOwnsWrong)

/-- 'arenanetlaw09.CellmemNested': WHATEVER THE INPUT: true; the input reads as it did. -/
def cellmemNestedSpec : ChangeSpec := { name := "cellmemNested", fn := fun _ => fun
  | [d1, d2] => { results := [.lit (.bool true)], args := [d1, d2] }
  | _ => none }
def cellmemNestedRow : OpenClaim := { program := "ytoolojpjopodgaa", sum := "ed23130547b5343bd4d6bc9b217d90b508d7d3e8d605739358828cc467f03abf", func := "arenanet/arenanetlaw09.CellmemNested", spec := "cellmemNested", unfollowed := true, recurses := true, apart := false }
def CellmemNestedSaid : Prop := cellmemNestedRow.holds Try.pinned (OpenSpec.ofChange cellmemNestedSpec)

/-- ITS FALSE NEIGHBOUR: 'it returns false'. Refute it at one input. -/
def cellmemNestedWrong : ChangeSpec := { name := "cellmemNested", fn := fun _ => fun
  | [d1, d2] => { results := [.lit (.bool false)], args := [d1, d2] }
  | _ => none }
def CellmemNestedWrongFalsely : Prop := cellmemNestedRow.holds Try.pinned (OpenSpec.ofChange cellmemNestedWrong)

/-- 'arenanetlaw09.CellmemBranch': WHATEVER THE INPUT: true; the input reads as it did. -/
def cellmemBranchSpec : ChangeSpec := { name := "cellmemBranch", fn := fun _ => fun
  | [d1, d2, d3, d4] => { results := [.lit (.bool true)], args := [d1, d2, d3, d4] }
  | _ => none }
def cellmemBranchRow : OpenClaim := { program := "ytoolojpjopodgaa", sum := "ed23130547b5343bd4d6bc9b217d90b508d7d3e8d605739358828cc467f03abf", func := "arenanet/arenanetlaw09.CellmemBranch", spec := "cellmemBranch", unfollowed := true, recurses := true, apart := false }
def CellmemBranchSaid : Prop := cellmemBranchRow.holds Try.pinned (OpenSpec.ofChange cellmemBranchSpec)

/-- ITS FALSE NEIGHBOUR: 'it returns false'. Refute it at one input. -/
def cellmemBranchWrong : ChangeSpec := { name := "cellmemBranch", fn := fun _ => fun
  | [d1, d2, d3, d4] => { results := [.lit (.bool false)], args := [d1, d2, d3, d4] }
  | _ => none }
def CellmemBranchWrongFalsely : Prop := cellmemBranchRow.holds Try.pinned (OpenSpec.ofChange cellmemBranchWrong)

/-- 'arenanetlaw09.CellmemChanged': WHATEVER THE INPUT: true; the input reads as it did. -/
def cellmemChangedSpec : ChangeSpec := { name := "cellmemChanged", fn := fun _ => fun
  | [d1, d2, d3] => { results := [.lit (.bool true)], args := [d1, d2, d3] }
  | _ => none }
def cellmemChangedRow : OpenClaim := { program := "ytoolojpjopodgaa", sum := "ed23130547b5343bd4d6bc9b217d90b508d7d3e8d605739358828cc467f03abf", func := "arenanet/arenanetlaw09.CellmemChanged", spec := "cellmemChanged", unfollowed := true, recurses := true, apart := false }
def CellmemChangedSaid : Prop := cellmemChangedRow.holds Try.pinned (OpenSpec.ofChange cellmemChangedSpec)

/-- ITS FALSE NEIGHBOUR: 'it returns false'. Refute it at one input. -/
def cellmemChangedWrong : ChangeSpec := { name := "cellmemChanged", fn := fun _ => fun
  | [d1, d2, d3] => { results := [.lit (.bool false)], args := [d1, d2, d3] }
  | _ => none }
def CellmemChangedWrongFalsely : Prop := cellmemChangedRow.holds Try.pinned (OpenSpec.ofChange cellmemChangedWrong)

/-- 'arenanetlaw09.CellmemOps': WHATEVER THE INPUT: true; the input reads as it did. -/
def cellmemOpsSpec : ChangeSpec := { name := "cellmemOps", fn := fun _ => fun
  | [d1, d2] => { results := [.lit (.bool true)], args := [d1, d2] }
  | _ => none }
def cellmemOpsRow : OpenClaim := { program := "ytoolojpjopodgaa", sum := "ed23130547b5343bd4d6bc9b217d90b508d7d3e8d605739358828cc467f03abf", func := "arenanet/arenanetlaw09.CellmemOps", spec := "cellmemOps", unfollowed := true, recurses := true, apart := false }
def CellmemOpsSaid : Prop := cellmemOpsRow.holds Try.pinned (OpenSpec.ofChange cellmemOpsSpec)

/-- ITS FALSE NEIGHBOUR: 'it returns false'. Refute it at one input. -/
def cellmemOpsWrong : ChangeSpec := { name := "cellmemOps", fn := fun _ => fun
  | [d1, d2] => { results := [.lit (.bool false)], args := [d1, d2] }
  | _ => none }
def CellmemOpsWrongFalsely : Prop := cellmemOpsRow.holds Try.pinned (OpenSpec.ofChange cellmemOpsWrong)

/-- 'arenanetlaw09.CellmemUndo': WHATEVER THE INPUT: true; the input reads as it did. -/
def cellmemUndoSpec : ChangeSpec := { name := "cellmemUndo", fn := fun _ => fun
  | [d1, d2, d3] => { results := [.lit (.bool true)], args := [d1, d2, d3] }
  | _ => none }
def cellmemUndoRow : OpenClaim := { program := "ytoolojpjopodgaa", sum := "ed23130547b5343bd4d6bc9b217d90b508d7d3e8d605739358828cc467f03abf", func := "arenanet/arenanetlaw09.CellmemUndo", spec := "cellmemUndo", unfollowed := true, recurses := true, apart := false }
def CellmemUndoSaid : Prop := cellmemUndoRow.holds Try.pinned (OpenSpec.ofChange cellmemUndoSpec)

/-- ITS FALSE NEIGHBOUR: 'it returns false'. Refute it at one input. -/
def cellmemUndoWrong : ChangeSpec := { name := "cellmemUndo", fn := fun _ => fun
  | [d1, d2, d3] => { results := [.lit (.bool false)], args := [d1, d2, d3] }
  | _ => none }
def CellmemUndoWrongFalsely : Prop := cellmemUndoRow.holds Try.pinned (OpenSpec.ofChange cellmemUndoWrong)

/-- 'arenanetlaw09.CellmemDiscard': WHATEVER THE INPUT: true; the input reads as it did. -/
def cellmemDiscardSpec : ChangeSpec := { name := "cellmemDiscard", fn := fun _ => fun
  | [d1, d2, d3] => { results := [.lit (.bool true)], args := [d1, d2, d3] }
  | _ => none }
def cellmemDiscardRow : OpenClaim := { program := "ytoolojpjopodgaa", sum := "ed23130547b5343bd4d6bc9b217d90b508d7d3e8d605739358828cc467f03abf", func := "arenanet/arenanetlaw09.CellmemDiscard", spec := "cellmemDiscard", unfollowed := true, recurses := true, apart := false }
def CellmemDiscardSaid : Prop := cellmemDiscardRow.holds Try.pinned (OpenSpec.ofChange cellmemDiscardSpec)

/-- ITS FALSE NEIGHBOUR: 'it returns false'. Refute it at one input. -/
def cellmemDiscardWrong : ChangeSpec := { name := "cellmemDiscard", fn := fun _ => fun
  | [d1, d2, d3] => { results := [.lit (.bool false)], args := [d1, d2, d3] }
  | _ => none }
def CellmemDiscardWrongFalsely : Prop := cellmemDiscardRow.holds Try.pinned (OpenSpec.ofChange cellmemDiscardWrong)

/-- 'arenanetlaw09.CellmemSquares': WHATEVER THE INPUT: true; the input reads as it did. -/
def cellmemSquaresSpec : ChangeSpec := { name := "cellmemSquares", fn := fun _ => fun
  | [d] => { results := [.lit (.bool true)], args := [d] }
  | _ => none }
def cellmemSquaresRow : OpenClaim := { program := "ytoolojpjopodgaa", sum := "ed23130547b5343bd4d6bc9b217d90b508d7d3e8d605739358828cc467f03abf", func := "arenanet/arenanetlaw09.CellmemSquares", spec := "cellmemSquares", unfollowed := true, recurses := true, apart := false }
def CellmemSquaresSaid : Prop := cellmemSquaresRow.holds Try.pinned (OpenSpec.ofChange cellmemSquaresSpec)

/-- ITS FALSE NEIGHBOUR: 'it returns false'. Refute it at one input. -/
def cellmemSquaresWrong : ChangeSpec := { name := "cellmemSquares", fn := fun _ => fun
  | [d] => { results := [.lit (.bool false)], args := [d] }
  | _ => none }
def CellmemSquaresWrongFalsely : Prop := cellmemSquaresRow.holds Try.pinned (OpenSpec.ofChange cellmemSquaresWrong)

/- THE SECOND FORM. 'bulk': how many values and letters a reading holds, each counted each time it is reached (what is shared counts as often as it is met; a slice's spare places count too). A statement '..UptoSaid' is the law's where the arguments, and the package variables that the reading takes, are together of bulk at most 1048576: NARROWER than '..Said'. Prove '..Said' where nothing that the law and all that it calls make is longer than what came in: it says more and counts as full. Else prove '..UptoSaid'. A law counts once. -/
mutual
def uptoBulk {H : Type} : DataW H → Nat
  | .lit (.string bytes) => bytes.length + 1
  | .lit _ => 1
  | .nil => 1
  | .ptr d => uptoBulk d + 1
  | .slice elems spare => uptoBulkAll elems + uptoBulkAll spare + 1
  | .agg parts => uptoBulkAll parts + 1
  | .iface _ d => uptoBulk d + 1
  | .map entries => uptoBulkEntries entries + 1
  | .held _ => 1
def uptoBulkAll {H : Type} : List (DataW H) → Nat
  | [] => 0
  | d :: r => uptoBulk d + uptoBulkAll r
def uptoBulkEntries {H : Type} : List (Lit × DataW H) → Nat
  | [] => 0
  | x :: r => uptoBulkEntry x + uptoBulkEntries r
def uptoBulkEntry {H : Type} : Lit × DataW H → Nat
  | (.string bytes, d) => bytes.length + uptoBulk d + 1
  | (_, d) => uptoBulk d + 1
 end
def uptoSmall : (H : Type) → List (DataW H) → Bool := fun _ ds => decide (uptoBulkAll ds ≤ 1048576)
def OpenSpec.upto (s : _root_.Go.ChangeSpec) : _root_.Go.OpenSpec := { _root_.Go.OpenSpec.ofChange s with cond := some uptoSmall }

/-- 'arenanetlaw09.CellmemBounds', WHERE WHAT IT READS IS OF BULK AT MOST 1048576: true; the input reads as it did. -/
def cellmemBoundsUptoRow : OpenClaim := { program := "ytoolojpjopodgaa", sum := "ed23130547b5343bd4d6bc9b217d90b508d7d3e8d605739358828cc467f03abf", func := "arenanet/arenanetlaw09.CellmemBounds", spec := "cellmemBounds", unfollowed := true, recurses := true, apart := false, narrowed := true }
def CellmemBoundsUptoSaid : Prop := cellmemBoundsUptoRow.holds Try.pinned (OpenSpec.upto cellmemBoundsSpec)

/-- 'arenanetlaw09.CellmemOwns', WHERE WHAT IT READS IS OF BULK AT MOST 1048576: true; the input reads as it did. -/
def cellmemOwnsUptoRow : OpenClaim := { program := "ytoolojpjopodgaa", sum := "ed23130547b5343bd4d6bc9b217d90b508d7d3e8d605739358828cc467f03abf", func := "arenanet/arenanetlaw09.CellmemOwns", spec := "cellmemOwns", unfollowed := true, recurses := true, apart := false, narrowed := true }
def CellmemOwnsUptoSaid : Prop := cellmemOwnsUptoRow.holds Try.pinned (OpenSpec.upto cellmemOwnsSpec)

/-- 'arenanetlaw09.CellmemNested', WHERE WHAT IT READS IS OF BULK AT MOST 1048576: true; the input reads as it did. -/
def cellmemNestedUptoRow : OpenClaim := { program := "ytoolojpjopodgaa", sum := "ed23130547b5343bd4d6bc9b217d90b508d7d3e8d605739358828cc467f03abf", func := "arenanet/arenanetlaw09.CellmemNested", spec := "cellmemNested", unfollowed := true, recurses := true, apart := false, narrowed := true }
def CellmemNestedUptoSaid : Prop := cellmemNestedUptoRow.holds Try.pinned (OpenSpec.upto cellmemNestedSpec)

/-- 'arenanetlaw09.CellmemBranch', WHERE WHAT IT READS IS OF BULK AT MOST 1048576: true; the input reads as it did. -/
def cellmemBranchUptoRow : OpenClaim := { program := "ytoolojpjopodgaa", sum := "ed23130547b5343bd4d6bc9b217d90b508d7d3e8d605739358828cc467f03abf", func := "arenanet/arenanetlaw09.CellmemBranch", spec := "cellmemBranch", unfollowed := true, recurses := true, apart := false, narrowed := true }
def CellmemBranchUptoSaid : Prop := cellmemBranchUptoRow.holds Try.pinned (OpenSpec.upto cellmemBranchSpec)

/-- 'arenanetlaw09.CellmemChanged', WHERE WHAT IT READS IS OF BULK AT MOST 1048576: true; the input reads as it did. -/
def cellmemChangedUptoRow : OpenClaim := { program := "ytoolojpjopodgaa", sum := "ed23130547b5343bd4d6bc9b217d90b508d7d3e8d605739358828cc467f03abf", func := "arenanet/arenanetlaw09.CellmemChanged", spec := "cellmemChanged", unfollowed := true, recurses := true, apart := false, narrowed := true }
def CellmemChangedUptoSaid : Prop := cellmemChangedUptoRow.holds Try.pinned (OpenSpec.upto cellmemChangedSpec)

/-- 'arenanetlaw09.CellmemOps', WHERE WHAT IT READS IS OF BULK AT MOST 1048576: true; the input reads as it did. -/
def cellmemOpsUptoRow : OpenClaim := { program := "ytoolojpjopodgaa", sum := "ed23130547b5343bd4d6bc9b217d90b508d7d3e8d605739358828cc467f03abf", func := "arenanet/arenanetlaw09.CellmemOps", spec := "cellmemOps", unfollowed := true, recurses := true, apart := false, narrowed := true }
def CellmemOpsUptoSaid : Prop := cellmemOpsUptoRow.holds Try.pinned (OpenSpec.upto cellmemOpsSpec)

/-- 'arenanetlaw09.CellmemUndo', WHERE WHAT IT READS IS OF BULK AT MOST 1048576: true; the input reads as it did. -/
def cellmemUndoUptoRow : OpenClaim := { program := "ytoolojpjopodgaa", sum := "ed23130547b5343bd4d6bc9b217d90b508d7d3e8d605739358828cc467f03abf", func := "arenanet/arenanetlaw09.CellmemUndo", spec := "cellmemUndo", unfollowed := true, recurses := true, apart := false, narrowed := true }
def CellmemUndoUptoSaid : Prop := cellmemUndoUptoRow.holds Try.pinned (OpenSpec.upto cellmemUndoSpec)

/-- 'arenanetlaw09.CellmemDiscard', WHERE WHAT IT READS IS OF BULK AT MOST 1048576: true; the input reads as it did. -/
def cellmemDiscardUptoRow : OpenClaim := { program := "ytoolojpjopodgaa", sum := "ed23130547b5343bd4d6bc9b217d90b508d7d3e8d605739358828cc467f03abf", func := "arenanet/arenanetlaw09.CellmemDiscard", spec := "cellmemDiscard", unfollowed := true, recurses := true, apart := false, narrowed := true }
def CellmemDiscardUptoSaid : Prop := cellmemDiscardUptoRow.holds Try.pinned (OpenSpec.upto cellmemDiscardSpec)

/-- 'arenanetlaw09.CellmemSquares', WHERE WHAT IT READS IS OF BULK AT MOST 1048576: true; the input reads as it did. -/
def cellmemSquaresUptoRow : OpenClaim := { program := "ytoolojpjopodgaa", sum := "ed23130547b5343bd4d6bc9b217d90b508d7d3e8d605739358828cc467f03abf", func := "arenanet/arenanetlaw09.CellmemSquares", spec := "cellmemSquares", unfollowed := true, recurses := true, apart := false, narrowed := true }
def CellmemSquaresUptoSaid : Prop := cellmemSquaresUptoRow.holds Try.pinned (OpenSpec.upto cellmemSquaresSpec)

end Rows
end Go.Proofs.Ytoolojpjopodgaa
