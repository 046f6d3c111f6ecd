/-
  No cell of these rows narrows 'for every input' (looked for: loops, veiled, ifaces, maps, wideKeys, modest, calm, conditions, laid).
  DERIVED. THE GIVEN ROWS OF THIS SEAT. 7 by the template 'for every input the law returns true; each argument reads behind the call as it read before'; 0 by the template 'total and deterministic' (their statements: YtcgndeggemceaaaTotals.lean).
  GIVEN WITH THE SEED: the statements are not yours to turn. If you find one false, say at which input.
  Laid BY PROGRAM, IN A SANDBOX (cutbox-rows.mjs): the forced cells as the released guide's own fill.sh prints them over the translation 221c9a666f5cfa6e… (all of the seat's roots in one cut). By AI agents, Wed Nov 11 2026. No macro, syntax, notation, axiom, sorry.
-/
import Derived.Test.YtcgndeggemceaaaChecked
import GoSem.Claim
import GoSem.ClaimJoined
import GoSem.ClaimMapViews
import Derived.JoinedTies
import Derived.KernelRfl
namespace Go.Proofs.Ytcgndeggemceaaa
/- THE CELL 'sum', in the pinned program and in every row, IS THE sha256 OF THE DUMP (.gsa) THAT YtcgndeggemceaaaProg.lean LOADS. Nothing in Lean hashes anything: it is a label: what it is worth is what the hold of that sum in a sandbox is worth. -/
noncomputable def Try.pinned : Pinned := { name := "ytcgndeggemceaaa", sum := "221c9a666f5cfa6ed21869e0c2bf2c84e8fb9f28f55ab3065b7bb0bf3036e290", checked := Try.checked }
namespace Rows
def none {H : Type} : Left H := { results := [], args := [] }

/-- 'arenanetlaw28.SnapshotDiffs': WHATEVER THE INPUT: true; the input reads as it did. -/
def snapshotDiffsSpec : ChangeSpec := { name := "snapshotDiffs", fn := fun _ => fun
  | [d1, d2] => { results := [.lit (.bool true)], args := [d1, d2] }
  | _ => none }
def snapshotDiffsRow : OpenClaim := { program := "ytcgndeggemceaaa", sum := "221c9a666f5cfa6ed21869e0c2bf2c84e8fb9f28f55ab3065b7bb0bf3036e290", func := "arenanet/arenanetlaw28.SnapshotDiffs", spec := "snapshotDiffs", unfollowed := true, recurses := true, apart := false }
def SnapshotDiffsSaid : Prop := snapshotDiffsRow.holds Try.pinned (OpenSpec.ofChange snapshotDiffsSpec)

/-- ITS FALSE NEIGHBOUR: 'it returns false'. Refute it at one input. -/
def snapshotDiffsWrong : ChangeSpec := { name := "snapshotDiffs", fn := fun _ => fun
  | [d1, d2] => { results := [.lit (.bool false)], args := [d1, d2] }
  | _ => none }
def SnapshotDiffsWrongFalsely : Prop := snapshotDiffsRow.holds Try.pinned (OpenSpec.ofChange snapshotDiffsWrong)

/-- 'arenanetlaw28.SnapshotRound': WHATEVER THE INPUT: true; the input reads as it did. -/
def snapshotRoundSpec : ChangeSpec := { name := "snapshotRound", fn := fun _ => fun
  | [d1, d2] => { results := [.lit (.bool true)], args := [d1, d2] }
  | _ => none }
def snapshotRoundRow : OpenClaim := { program := "ytcgndeggemceaaa", sum := "221c9a666f5cfa6ed21869e0c2bf2c84e8fb9f28f55ab3065b7bb0bf3036e290", func := "arenanet/arenanetlaw28.SnapshotRound", spec := "snapshotRound", unfollowed := true, recurses := true, apart := false }
def SnapshotRoundSaid : Prop := snapshotRoundRow.holds Try.pinned (OpenSpec.ofChange snapshotRoundSpec)

/-- ITS FALSE NEIGHBOUR: 'it returns false'. Refute it at one input. -/
def snapshotRoundWrong : ChangeSpec := { name := "snapshotRound", fn := fun _ => fun
  | [d1, d2] => { results := [.lit (.bool false)], args := [d1, d2] }
  | _ => none }
def SnapshotRoundWrongFalsely : Prop := snapshotRoundRow.holds Try.pinned (OpenSpec.ofChange snapshotRoundWrong)

/-- 'arenanetlaw28.SnapshotCanonical': WHATEVER THE INPUT: true; the input reads as it did. -/
def snapshotCanonicalSpec : ChangeSpec := { name := "snapshotCanonical", fn := fun _ => fun
  | [d1, d2, d3, d4, d5] => { results := [.lit (.bool true)], args := [d1, d2, d3, d4, d5] }
  | _ => none }
def snapshotCanonicalRow : OpenClaim := { program := "ytcgndeggemceaaa", sum := "221c9a666f5cfa6ed21869e0c2bf2c84e8fb9f28f55ab3065b7bb0bf3036e290", func := "arenanet/arenanetlaw28.SnapshotCanonical", spec := "snapshotCanonical", unfollowed := true, recurses := true, apart := false }
def SnapshotCanonicalSaid : Prop := snapshotCanonicalRow.holds Try.pinned (OpenSpec.ofChange snapshotCanonicalSpec)

/-- ITS FALSE NEIGHBOUR: 'it returns false'. Refute it at one input. -/
def snapshotCanonicalWrong : ChangeSpec := { name := "snapshotCanonical", fn := fun _ => fun
  | [d1, d2, d3, d4, d5] => { results := [.lit (.bool false)], args := [d1, d2, d3, d4, d5] }
  | _ => none }
def SnapshotCanonicalWrongFalsely : Prop := snapshotCanonicalRow.holds Try.pinned (OpenSpec.ofChange snapshotCanonicalWrong)

/-- 'arenanetlaw28.SnapshotPrefix': WHATEVER THE INPUT: true; the input reads as it did. -/
def snapshotPrefixSpec : ChangeSpec := { name := "snapshotPrefix", fn := fun _ => fun
  | [d1, d2, d3] => { results := [.lit (.bool true)], args := [d1, d2, d3] }
  | _ => none }
def snapshotPrefixRow : OpenClaim := { program := "ytcgndeggemceaaa", sum := "221c9a666f5cfa6ed21869e0c2bf2c84e8fb9f28f55ab3065b7bb0bf3036e290", func := "arenanet/arenanetlaw28.SnapshotPrefix", spec := "snapshotPrefix", unfollowed := true, recurses := true, apart := false }
def SnapshotPrefixSaid : Prop := snapshotPrefixRow.holds Try.pinned (OpenSpec.ofChange snapshotPrefixSpec)

/-- ITS FALSE NEIGHBOUR: 'it returns false'. Refute it at one input. -/
def snapshotPrefixWrong : ChangeSpec := { name := "snapshotPrefix", fn := fun _ => fun
  | [d1, d2, d3] => { results := [.lit (.bool false)], args := [d1, d2, d3] }
  | _ => none }
def SnapshotPrefixWrongFalsely : Prop := snapshotPrefixRow.holds Try.pinned (OpenSpec.ofChange snapshotPrefixWrong)

/-- 'arenanetlaw28.SnapshotViews': WHATEVER THE INPUT: true; the input reads as it did. -/
def snapshotViewsSpec : ChangeSpec := { name := "snapshotViews", fn := fun _ => fun
  | [d1, d2] => { results := [.lit (.bool true)], args := [d1, d2] }
  | _ => none }
def snapshotViewsRow : OpenClaim := { program := "ytcgndeggemceaaa", sum := "221c9a666f5cfa6ed21869e0c2bf2c84e8fb9f28f55ab3065b7bb0bf3036e290", func := "arenanet/arenanetlaw28.SnapshotViews", spec := "snapshotViews", unfollowed := true, recurses := true, apart := false }
def SnapshotViewsSaid : Prop := snapshotViewsRow.holds Try.pinned (OpenSpec.ofChange snapshotViewsSpec)

/-- ITS FALSE NEIGHBOUR: 'it returns false'. Refute it at one input. -/
def snapshotViewsWrong : ChangeSpec := { name := "snapshotViews", fn := fun _ => fun
  | [d1, d2] => { results := [.lit (.bool false)], args := [d1, d2] }
  | _ => none }
def SnapshotViewsWrongFalsely : Prop := snapshotViewsRow.holds Try.pinned (OpenSpec.ofChange snapshotViewsWrong)

/-- 'arenanetlaw28.SnapshotHides': WHATEVER THE INPUT: true; the input reads as it did. -/
def snapshotHidesSpec : ChangeSpec := { name := "snapshotHides", fn := fun _ => fun
  | [d1, d2, d3, d4, d5] => { results := [.lit (.bool true)], args := [d1, d2, d3, d4, d5] }
  | _ => none }
def snapshotHidesRow : OpenClaim := { program := "ytcgndeggemceaaa", sum := "221c9a666f5cfa6ed21869e0c2bf2c84e8fb9f28f55ab3065b7bb0bf3036e290", func := "arenanet/arenanetlaw28.SnapshotHides", spec := "snapshotHides", unfollowed := true, recurses := true, apart := false }
def SnapshotHidesSaid : Prop := snapshotHidesRow.holds Try.pinned (OpenSpec.ofChange snapshotHidesSpec)

/-- ITS FALSE NEIGHBOUR: 'it returns false'. Refute it at one input. -/
def snapshotHidesWrong : ChangeSpec := { name := "snapshotHides", fn := fun _ => fun
  | [d1, d2, d3, d4, d5] => { results := [.lit (.bool false)], args := [d1, d2, d3, d4, d5] }
  | _ => none }
def SnapshotHidesWrongFalsely : Prop := snapshotHidesRow.holds Try.pinned (OpenSpec.ofChange snapshotHidesWrong)

/-- 'arenanetlaw28.SnapshotOwn': WHATEVER THE INPUT: true; the input reads as it did. -/
def snapshotOwnSpec : ChangeSpec := { name := "snapshotOwn", fn := fun _ => fun
  | [d1, d2, d3] => { results := [.lit (.bool true)], args := [d1, d2, d3] }
  | _ => none }
def snapshotOwnRow : OpenClaim := { program := "ytcgndeggemceaaa", sum := "221c9a666f5cfa6ed21869e0c2bf2c84e8fb9f28f55ab3065b7bb0bf3036e290", func := "arenanet/arenanetlaw28.SnapshotOwn", spec := "snapshotOwn", unfollowed := true, recurses := true, apart := false }
def SnapshotOwnSaid : Prop := snapshotOwnRow.holds Try.pinned (OpenSpec.ofChange snapshotOwnSpec)

/-- ITS FALSE NEIGHBOUR: 'it returns false'. Refute it at one input. -/
def snapshotOwnWrong : ChangeSpec := { name := "snapshotOwn", fn := fun _ => fun
  | [d1, d2, d3] => { results := [.lit (.bool false)], args := [d1, d2, d3] }
  | _ => none }
def SnapshotOwnWrongFalsely : Prop := snapshotOwnRow.holds Try.pinned (OpenSpec.ofChange snapshotOwnWrong)

/- THE SECOND FORM. 'bulk': how many values and letters a reading holds, each counted each time it is reached (what is shared counts as often as it is met; a slice's spare places count too). A statement '..UptoSaid' is the law's where the arguments, and the package variables that the reading takes, are together of bulk at most 1048576: NARROWER than '..Said'. Prove '..Said' where nothing that the law and all that it calls make is longer than what came in: it says more and counts as full. Else prove '..UptoSaid'. A law counts once. -/
mutual
def uptoBulk {H : Type} : DataW H → Nat
  | .lit (.string bytes) => bytes.length + 1
  | .lit _ => 1
  | .nil => 1
  | .ptr d => uptoBulk d + 1
  | .slice elems spare => uptoBulkAll elems + uptoBulkAll spare + 1
  | .agg parts => uptoBulkAll parts + 1
  | .iface _ d => uptoBulk d + 1
  | .map entries => uptoBulkEntries entries + 1
  | .held _ => 1
def uptoBulkAll {H : Type} : List (DataW H) → Nat
  | [] => 0
  | d :: r => uptoBulk d + uptoBulkAll r
def uptoBulkEntries {H : Type} : List (Lit × DataW H) → Nat
  | [] => 0
  | x :: r => uptoBulkEntry x + uptoBulkEntries r
def uptoBulkEntry {H : Type} : Lit × DataW H → Nat
  | (.string bytes, d) => bytes.length + uptoBulk d + 1
  | (_, d) => uptoBulk d + 1
 end
def uptoSmall : (H : Type) → List (DataW H) → Bool := fun _ ds => decide (uptoBulkAll ds ≤ 1048576)
def OpenSpec.upto (s : _root_.Go.ChangeSpec) : _root_.Go.OpenSpec := { _root_.Go.OpenSpec.ofChange s with cond := some uptoSmall }

/-- 'arenanetlaw28.SnapshotDiffs', WHERE WHAT IT READS IS OF BULK AT MOST 1048576: true; the input reads as it did. -/
def snapshotDiffsUptoRow : OpenClaim := { program := "ytcgndeggemceaaa", sum := "221c9a666f5cfa6ed21869e0c2bf2c84e8fb9f28f55ab3065b7bb0bf3036e290", func := "arenanet/arenanetlaw28.SnapshotDiffs", spec := "snapshotDiffs", unfollowed := true, recurses := true, apart := false, narrowed := true }
def SnapshotDiffsUptoSaid : Prop := snapshotDiffsUptoRow.holds Try.pinned (OpenSpec.upto snapshotDiffsSpec)

/-- 'arenanetlaw28.SnapshotRound', WHERE WHAT IT READS IS OF BULK AT MOST 1048576: true; the input reads as it did. -/
def snapshotRoundUptoRow : OpenClaim := { program := "ytcgndeggemceaaa", sum := "221c9a666f5cfa6ed21869e0c2bf2c84e8fb9f28f55ab3065b7bb0bf3036e290", func := "arenanet/arenanetlaw28.SnapshotRound", spec := "snapshotRound", unfollowed := true, recurses := true, apart := false, narrowed := true }
def SnapshotRoundUptoSaid : Prop := snapshotRoundUptoRow.holds Try.pinned (OpenSpec.upto snapshotRoundSpec)

/-- 'arenanetlaw28.SnapshotCanonical', WHERE WHAT IT READS IS OF BULK AT MOST 1048576: true; the input reads as it did. -/
def snapshotCanonicalUptoRow : OpenClaim := { program := "ytcgndeggemceaaa", sum := "221c9a666f5cfa6ed21869e0c2bf2c84e8fb9f28f55ab3065b7bb0bf3036e290", func := "arenanet/arenanetlaw28.SnapshotCanonical", spec := "snapshotCanonical", unfollowed := true, recurses := true, apart := false, narrowed := true }
def SnapshotCanonicalUptoSaid : Prop := snapshotCanonicalUptoRow.holds Try.pinned (OpenSpec.upto snapshotCanonicalSpec)

/-- 'arenanetlaw28.SnapshotPrefix', WHERE WHAT IT READS IS OF BULK AT MOST 1048576: true; the input reads as it did. -/
def snapshotPrefixUptoRow : OpenClaim := { program := "ytcgndeggemceaaa", sum := "221c9a666f5cfa6ed21869e0c2bf2c84e8fb9f28f55ab3065b7bb0bf3036e290", func := "arenanet/arenanetlaw28.SnapshotPrefix", spec := "snapshotPrefix", unfollowed := true, recurses := true, apart := false, narrowed := true }
def SnapshotPrefixUptoSaid : Prop := snapshotPrefixUptoRow.holds Try.pinned (OpenSpec.upto snapshotPrefixSpec)

/-- 'arenanetlaw28.SnapshotViews', WHERE WHAT IT READS IS OF BULK AT MOST 1048576: true; the input reads as it did. -/
def snapshotViewsUptoRow : OpenClaim := { program := "ytcgndeggemceaaa", sum := "221c9a666f5cfa6ed21869e0c2bf2c84e8fb9f28f55ab3065b7bb0bf3036e290", func := "arenanet/arenanetlaw28.SnapshotViews", spec := "snapshotViews", unfollowed := true, recurses := true, apart := false, narrowed := true }
def SnapshotViewsUptoSaid : Prop := snapshotViewsUptoRow.holds Try.pinned (OpenSpec.upto snapshotViewsSpec)

/-- 'arenanetlaw28.SnapshotHides', WHERE WHAT IT READS IS OF BULK AT MOST 1048576: true; the input reads as it did. -/
def snapshotHidesUptoRow : OpenClaim := { program := "ytcgndeggemceaaa", sum := "221c9a666f5cfa6ed21869e0c2bf2c84e8fb9f28f55ab3065b7bb0bf3036e290", func := "arenanet/arenanetlaw28.SnapshotHides", spec := "snapshotHides", unfollowed := true, recurses := true, apart := false, narrowed := true }
def SnapshotHidesUptoSaid : Prop := snapshotHidesUptoRow.holds Try.pinned (OpenSpec.upto snapshotHidesSpec)

/-- 'arenanetlaw28.SnapshotOwn', WHERE WHAT IT READS IS OF BULK AT MOST 1048576: true; the input reads as it did. -/
def snapshotOwnUptoRow : OpenClaim := { program := "ytcgndeggemceaaa", sum := "221c9a666f5cfa6ed21869e0c2bf2c84e8fb9f28f55ab3065b7bb0bf3036e290", func := "arenanet/arenanetlaw28.SnapshotOwn", spec := "snapshotOwn", unfollowed := true, recurses := true, apart := false, narrowed := true }
def SnapshotOwnUptoSaid : Prop := snapshotOwnUptoRow.holds Try.pinned (OpenSpec.upto snapshotOwnSpec)

end Rows
end Go.Proofs.Ytcgndeggemceaaa
