/-
  No cell of these rows narrows 'for every input' (looked for: loops, veiled, ifaces, maps, wideKeys, modest, calm, conditions, laid).
  DERIVED. THE GIVEN ROWS OF THIS SEAT. 8 by the template 'for every input the law returns true; each argument reads behind the call as it read before'; 0 by the template 'total and deterministic' (their statements: YtlfomhknfpmhbaaTotals.lean).
  GIVEN WITH THE SEED: the statements are not yours to turn. If you find one false, say at which input.
  Laid BY PROGRAM, IN A SANDBOX (cutbox-rows.mjs): the forced cells as the released guide's own fill.sh prints them over the translation 313da5033a0ea018… (all of the seat's roots in one cut). By AI agents, Wed Nov 11 2026. No macro, syntax, notation, axiom, sorry.
-/
import Derived.Test.YtlfomhknfpmhbaaChecked
import GoSem.Claim
import GoSem.ClaimJoined
import GoSem.ClaimMapViews
import Derived.JoinedTies
import Derived.KernelRfl
namespace Go.Proofs.Ytlfomhknfpmhbaa
/- THE CELL 'sum', in the pinned program and in every row, IS THE sha256 OF THE DUMP (.gsa) THAT YtlfomhknfpmhbaaProg.lean LOADS. Nothing in Lean hashes anything: it is a label: what it is worth is what the hold of that sum in a sandbox is worth. -/
noncomputable def Try.pinned : Pinned := { name := "ytlfomhknfpmhbaa", sum := "313da5033a0ea0182df47215190056ba9bce6db437e808b430a474a5b0a83fe3", checked := Try.checked }
namespace Rows
def none {H : Type} : Left H := { results := [], args := [] }

/-- 'arenanetlaw12.LayoutValid': WHATEVER THE INPUT: true; the input reads as it did. -/
def layoutValidSpec : ChangeSpec := { name := "layoutValid", fn := fun _ => fun
  | [d1, d2, d3, d4, d5] => { results := [.lit (.bool true)], args := [d1, d2, d3, d4, d5] }
  | _ => none }
def layoutValidRow : OpenClaim := { program := "ytlfomhknfpmhbaa", sum := "313da5033a0ea0182df47215190056ba9bce6db437e808b430a474a5b0a83fe3", func := "arenanet/arenanetlaw12.LayoutValid", spec := "layoutValid", unfollowed := true, recurses := true, apart := false }
def LayoutValidSaid : Prop := layoutValidRow.holds Try.pinned (OpenSpec.ofChange layoutValidSpec)

/-- ITS FALSE NEIGHBOUR: 'it returns false'. Refute it at one input. -/
def layoutValidWrong : ChangeSpec := { name := "layoutValid", fn := fun _ => fun
  | [d1, d2, d3, d4, d5] => { results := [.lit (.bool false)], args := [d1, d2, d3, d4, d5] }
  | _ => none }
def LayoutValidWrongFalsely : Prop := layoutValidRow.holds Try.pinned (OpenSpec.ofChange layoutValidWrong)

/-- 'arenanetlaw12.LayoutIndices': WHATEVER THE INPUT: true; the input reads as it did. -/
def layoutIndicesSpec : ChangeSpec := { name := "layoutIndices", fn := fun _ => fun
  | [d1, d2, d3] => { results := [.lit (.bool true)], args := [d1, d2, d3] }
  | _ => none }
def layoutIndicesRow : OpenClaim := { program := "ytlfomhknfpmhbaa", sum := "313da5033a0ea0182df47215190056ba9bce6db437e808b430a474a5b0a83fe3", func := "arenanet/arenanetlaw12.LayoutIndices", spec := "layoutIndices", unfollowed := true, recurses := true, apart := false }
def LayoutIndicesSaid : Prop := layoutIndicesRow.holds Try.pinned (OpenSpec.ofChange layoutIndicesSpec)

/-- ITS FALSE NEIGHBOUR: 'it returns false'. Refute it at one input. -/
def layoutIndicesWrong : ChangeSpec := { name := "layoutIndices", fn := fun _ => fun
  | [d1, d2, d3] => { results := [.lit (.bool false)], args := [d1, d2, d3] }
  | _ => none }
def LayoutIndicesWrongFalsely : Prop := layoutIndicesRow.holds Try.pinned (OpenSpec.ofChange layoutIndicesWrong)

/-- 'arenanetlaw12.LayoutFields': WHATEVER THE INPUT: true; the input reads as it did. -/
def layoutFieldsSpec : ChangeSpec := { name := "layoutFields", fn := fun _ => fun
  | [d] => { results := [.lit (.bool true)], args := [d] }
  | _ => none }
def layoutFieldsRow : OpenClaim := { program := "ytlfomhknfpmhbaa", sum := "313da5033a0ea0182df47215190056ba9bce6db437e808b430a474a5b0a83fe3", func := "arenanet/arenanetlaw12.LayoutFields", spec := "layoutFields", unfollowed := true, recurses := true, apart := false }
def LayoutFieldsSaid : Prop := layoutFieldsRow.holds Try.pinned (OpenSpec.ofChange layoutFieldsSpec)

/-- ITS FALSE NEIGHBOUR: 'it returns false'. Refute it at one input. -/
def layoutFieldsWrong : ChangeSpec := { name := "layoutFields", fn := fun _ => fun
  | [d] => { results := [.lit (.bool false)], args := [d] }
  | _ => none }
def LayoutFieldsWrongFalsely : Prop := layoutFieldsRow.holds Try.pinned (OpenSpec.ofChange layoutFieldsWrong)

/-- 'arenanetlaw12.LayoutDisjoint': WHATEVER THE INPUT: true; the input reads as it did. -/
def layoutDisjointSpec : ChangeSpec := { name := "layoutDisjoint", fn := fun _ => fun
  | [d] => { results := [.lit (.bool true)], args := [d] }
  | _ => none }
def layoutDisjointRow : OpenClaim := { program := "ytlfomhknfpmhbaa", sum := "313da5033a0ea0182df47215190056ba9bce6db437e808b430a474a5b0a83fe3", func := "arenanet/arenanetlaw12.LayoutDisjoint", spec := "layoutDisjoint", unfollowed := true, recurses := true, apart := false }
def LayoutDisjointSaid : Prop := layoutDisjointRow.holds Try.pinned (OpenSpec.ofChange layoutDisjointSpec)

/-- ITS FALSE NEIGHBOUR: 'it returns false'. Refute it at one input. -/
def layoutDisjointWrong : ChangeSpec := { name := "layoutDisjoint", fn := fun _ => fun
  | [d] => { results := [.lit (.bool false)], args := [d] }
  | _ => none }
def LayoutDisjointWrongFalsely : Prop := layoutDisjointRow.holds Try.pinned (OpenSpec.ofChange layoutDisjointWrong)

/-- 'arenanetlaw12.LayoutShapes': WHATEVER THE INPUT: true; the input reads as it did. -/
def layoutShapesSpec : ChangeSpec := { name := "layoutShapes", fn := fun _ => fun
  | [d1, d2, d3, d4] => { results := [.lit (.bool true)], args := [d1, d2, d3, d4] }
  | _ => none }
def layoutShapesRow : OpenClaim := { program := "ytlfomhknfpmhbaa", sum := "313da5033a0ea0182df47215190056ba9bce6db437e808b430a474a5b0a83fe3", func := "arenanet/arenanetlaw12.LayoutShapes", spec := "layoutShapes", unfollowed := true, recurses := true, apart := false }
def LayoutShapesSaid : Prop := layoutShapesRow.holds Try.pinned (OpenSpec.ofChange layoutShapesSpec)

/-- ITS FALSE NEIGHBOUR: 'it returns false'. Refute it at one input. -/
def layoutShapesWrong : ChangeSpec := { name := "layoutShapes", fn := fun _ => fun
  | [d1, d2, d3, d4] => { results := [.lit (.bool false)], args := [d1, d2, d3, d4] }
  | _ => none }
def LayoutShapesWrongFalsely : Prop := layoutShapesRow.holds Try.pinned (OpenSpec.ofChange layoutShapesWrong)

/-- 'arenanetlaw12.LayoutMotion': WHATEVER THE INPUT: true; the input reads as it did. -/
def layoutMotionSpec : ChangeSpec := { name := "layoutMotion", fn := fun _ => fun
  | [d1, d2, d3] => { results := [.lit (.bool true)], args := [d1, d2, d3] }
  | _ => none }
def layoutMotionRow : OpenClaim := { program := "ytlfomhknfpmhbaa", sum := "313da5033a0ea0182df47215190056ba9bce6db437e808b430a474a5b0a83fe3", func := "arenanet/arenanetlaw12.LayoutMotion", spec := "layoutMotion", unfollowed := true, recurses := true, apart := false }
def LayoutMotionSaid : Prop := layoutMotionRow.holds Try.pinned (OpenSpec.ofChange layoutMotionSpec)

/-- ITS FALSE NEIGHBOUR: 'it returns false'. Refute it at one input. -/
def layoutMotionWrong : ChangeSpec := { name := "layoutMotion", fn := fun _ => fun
  | [d1, d2, d3] => { results := [.lit (.bool false)], args := [d1, d2, d3] }
  | _ => none }
def LayoutMotionWrongFalsely : Prop := layoutMotionRow.holds Try.pinned (OpenSpec.ofChange layoutMotionWrong)

/-- 'arenanetlaw12.LayoutInitial': WHATEVER THE INPUT: true; the input reads as it did. -/
def layoutInitialSpec : ChangeSpec := { name := "layoutInitial", fn := fun _ => fun
  | [d] => { results := [.lit (.bool true)], args := [d] }
  | _ => none }
def layoutInitialRow : OpenClaim := { program := "ytlfomhknfpmhbaa", sum := "313da5033a0ea0182df47215190056ba9bce6db437e808b430a474a5b0a83fe3", func := "arenanet/arenanetlaw12.LayoutInitial", spec := "layoutInitial", unfollowed := true, recurses := true, apart := false }
def LayoutInitialSaid : Prop := layoutInitialRow.holds Try.pinned (OpenSpec.ofChange layoutInitialSpec)

/-- ITS FALSE NEIGHBOUR: 'it returns false'. Refute it at one input. -/
def layoutInitialWrong : ChangeSpec := { name := "layoutInitial", fn := fun _ => fun
  | [d] => { results := [.lit (.bool false)], args := [d] }
  | _ => none }
def LayoutInitialWrongFalsely : Prop := layoutInitialRow.holds Try.pinned (OpenSpec.ofChange layoutInitialWrong)

/-- 'arenanetlaw12.LayoutMemory': WHATEVER THE INPUT: true; the input reads as it did. -/
def layoutMemorySpec : ChangeSpec := { name := "layoutMemory", fn := fun _ => fun
  | [d1, d2, d3, d4] => { results := [.lit (.bool true)], args := [d1, d2, d3, d4] }
  | _ => none }
def layoutMemoryRow : OpenClaim := { program := "ytlfomhknfpmhbaa", sum := "313da5033a0ea0182df47215190056ba9bce6db437e808b430a474a5b0a83fe3", func := "arenanet/arenanetlaw12.LayoutMemory", spec := "layoutMemory", unfollowed := true, recurses := true, apart := false }
def LayoutMemorySaid : Prop := layoutMemoryRow.holds Try.pinned (OpenSpec.ofChange layoutMemorySpec)

/-- ITS FALSE NEIGHBOUR: 'it returns false'. Refute it at one input. -/
def layoutMemoryWrong : ChangeSpec := { name := "layoutMemory", fn := fun _ => fun
  | [d1, d2, d3, d4] => { results := [.lit (.bool false)], args := [d1, d2, d3, d4] }
  | _ => none }
def LayoutMemoryWrongFalsely : Prop := layoutMemoryRow.holds Try.pinned (OpenSpec.ofChange layoutMemoryWrong)

/- THE SECOND FORM. 'bulk': how many values and letters a reading holds, each counted each time it is reached (what is shared counts as often as it is met; a slice's spare places count too). A statement '..UptoSaid' is the law's where the arguments, and the package variables that the reading takes, are together of bulk at most 1048576: NARROWER than '..Said'. Prove '..Said' where nothing that the law and all that it calls make is longer than what came in: it says more and counts as full. Else prove '..UptoSaid'. A law counts once. -/
mutual
def uptoBulk {H : Type} : DataW H → Nat
  | .lit (.string bytes) => bytes.length + 1
  | .lit _ => 1
  | .nil => 1
  | .ptr d => uptoBulk d + 1
  | .slice elems spare => uptoBulkAll elems + uptoBulkAll spare + 1
  | .agg parts => uptoBulkAll parts + 1
  | .iface _ d => uptoBulk d + 1
  | .map entries => uptoBulkEntries entries + 1
  | .held _ => 1
def uptoBulkAll {H : Type} : List (DataW H) → Nat
  | [] => 0
  | d :: r => uptoBulk d + uptoBulkAll r
def uptoBulkEntries {H : Type} : List (Lit × DataW H) → Nat
  | [] => 0
  | x :: r => uptoBulkEntry x + uptoBulkEntries r
def uptoBulkEntry {H : Type} : Lit × DataW H → Nat
  | (.string bytes, d) => bytes.length + uptoBulk d + 1
  | (_, d) => uptoBulk d + 1
 end
def uptoSmall : (H : Type) → List (DataW H) → Bool := fun _ ds => decide (uptoBulkAll ds ≤ 1048576)
def OpenSpec.upto (s : _root_.Go.ChangeSpec) : _root_.Go.OpenSpec := { _root_.Go.OpenSpec.ofChange s with cond := some uptoSmall }

/-- 'arenanetlaw12.LayoutValid', WHERE WHAT IT READS IS OF BULK AT MOST 1048576: true; the input reads as it did. -/
def layoutValidUptoRow : OpenClaim := { program := "ytlfomhknfpmhbaa", sum := "313da5033a0ea0182df47215190056ba9bce6db437e808b430a474a5b0a83fe3", func := "arenanet/arenanetlaw12.LayoutValid", spec := "layoutValid", unfollowed := true, recurses := true, apart := false, narrowed := true }
def LayoutValidUptoSaid : Prop := layoutValidUptoRow.holds Try.pinned (OpenSpec.upto layoutValidSpec)

/-- 'arenanetlaw12.LayoutIndices', WHERE WHAT IT READS IS OF BULK AT MOST 1048576: true; the input reads as it did. -/
def layoutIndicesUptoRow : OpenClaim := { program := "ytlfomhknfpmhbaa", sum := "313da5033a0ea0182df47215190056ba9bce6db437e808b430a474a5b0a83fe3", func := "arenanet/arenanetlaw12.LayoutIndices", spec := "layoutIndices", unfollowed := true, recurses := true, apart := false, narrowed := true }
def LayoutIndicesUptoSaid : Prop := layoutIndicesUptoRow.holds Try.pinned (OpenSpec.upto layoutIndicesSpec)

/-- 'arenanetlaw12.LayoutFields', WHERE WHAT IT READS IS OF BULK AT MOST 1048576: true; the input reads as it did. -/
def layoutFieldsUptoRow : OpenClaim := { program := "ytlfomhknfpmhbaa", sum := "313da5033a0ea0182df47215190056ba9bce6db437e808b430a474a5b0a83fe3", func := "arenanet/arenanetlaw12.LayoutFields", spec := "layoutFields", unfollowed := true, recurses := true, apart := false, narrowed := true }
def LayoutFieldsUptoSaid : Prop := layoutFieldsUptoRow.holds Try.pinned (OpenSpec.upto layoutFieldsSpec)

/-- 'arenanetlaw12.LayoutDisjoint', WHERE WHAT IT READS IS OF BULK AT MOST 1048576: true; the input reads as it did. -/
def layoutDisjointUptoRow : OpenClaim := { program := "ytlfomhknfpmhbaa", sum := "313da5033a0ea0182df47215190056ba9bce6db437e808b430a474a5b0a83fe3", func := "arenanet/arenanetlaw12.LayoutDisjoint", spec := "layoutDisjoint", unfollowed := true, recurses := true, apart := false, narrowed := true }
def LayoutDisjointUptoSaid : Prop := layoutDisjointUptoRow.holds Try.pinned (OpenSpec.upto layoutDisjointSpec)

/-- 'arenanetlaw12.LayoutShapes', WHERE WHAT IT READS IS OF BULK AT MOST 1048576: true; the input reads as it did. -/
def layoutShapesUptoRow : OpenClaim := { program := "ytlfomhknfpmhbaa", sum := "313da5033a0ea0182df47215190056ba9bce6db437e808b430a474a5b0a83fe3", func := "arenanet/arenanetlaw12.LayoutShapes", spec := "layoutShapes", unfollowed := true, recurses := true, apart := false, narrowed := true }
def LayoutShapesUptoSaid : Prop := layoutShapesUptoRow.holds Try.pinned (OpenSpec.upto layoutShapesSpec)

/-- 'arenanetlaw12.LayoutMotion', WHERE WHAT IT READS IS OF BULK AT MOST 1048576: true; the input reads as it did. -/
def layoutMotionUptoRow : OpenClaim := { program := "ytlfomhknfpmhbaa", sum := "313da5033a0ea0182df47215190056ba9bce6db437e808b430a474a5b0a83fe3", func := "arenanet/arenanetlaw12.LayoutMotion", spec := "layoutMotion", unfollowed := true, recurses := true, apart := false, narrowed := true }
def LayoutMotionUptoSaid : Prop := layoutMotionUptoRow.holds Try.pinned (OpenSpec.upto layoutMotionSpec)

/-- 'arenanetlaw12.LayoutInitial', WHERE WHAT IT READS IS OF BULK AT MOST 1048576: true; the input reads as it did. -/
def layoutInitialUptoRow : OpenClaim := { program := "ytlfomhknfpmhbaa", sum := "313da5033a0ea0182df47215190056ba9bce6db437e808b430a474a5b0a83fe3", func := "arenanet/arenanetlaw12.LayoutInitial", spec := "layoutInitial", unfollowed := true, recurses := true, apart := false, narrowed := true }
def LayoutInitialUptoSaid : Prop := layoutInitialUptoRow.holds Try.pinned (OpenSpec.upto layoutInitialSpec)

/-- 'arenanetlaw12.LayoutMemory', WHERE WHAT IT READS IS OF BULK AT MOST 1048576: true; the input reads as it did. -/
def layoutMemoryUptoRow : OpenClaim := { program := "ytlfomhknfpmhbaa", sum := "313da5033a0ea0182df47215190056ba9bce6db437e808b430a474a5b0a83fe3", func := "arenanet/arenanetlaw12.LayoutMemory", spec := "layoutMemory", unfollowed := true, recurses := true, apart := false, narrowed := true }
def LayoutMemoryUptoSaid : Prop := layoutMemoryUptoRow.holds Try.pinned (OpenSpec.upto layoutMemorySpec)

end Rows
end Go.Proofs.Ytlfomhknfpmhbaa
