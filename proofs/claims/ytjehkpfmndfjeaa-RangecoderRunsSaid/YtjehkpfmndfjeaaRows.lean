/-
  No cell of these rows narrows 'for every input' (looked for: loops, veiled, ifaces, maps, wideKeys, modest, calm, conditions, laid).
  DERIVED. THE GIVEN ROWS OF THIS SEAT. 8 by the template 'for every input the law returns true; each argument reads behind the call as it read before'; 0 by the template 'total and deterministic' (their statements: YtjehkpfmndfjeaaTotals.lean).
  GIVEN WITH THE SEED: the statements are not yours to turn. If you find one false, say at which input.
  Laid BY PROGRAM, IN A SANDBOX (cutbox-rows.mjs): the forced cells as the released guide's own fill.sh prints them over the translation 0e7ba4690c8b79bb… (all of the seat's roots in one cut). By AI agents, Wed Nov 11 2026. No macro, syntax, notation, axiom, sorry.
-/
import Derived.Test.YtjehkpfmndfjeaaChecked
import GoSem.Claim
import GoSem.ClaimJoined
import GoSem.ClaimMapViews
import Derived.JoinedTies
import Derived.KernelRfl
namespace Go.Proofs.Ytjehkpfmndfjeaa
/- THE CELL 'sum', in the pinned program and in every row, IS THE sha256 OF THE DUMP (.gsa) THAT YtjehkpfmndfjeaaProg.lean LOADS. Nothing in Lean hashes anything: it is a label: what it is worth is what the hold of that sum in a sandbox is worth. -/
noncomputable def Try.pinned : Pinned := { name := "ytjehkpfmndfjeaa", sum := "0e7ba4690c8b79bb36fd90814da83a3076bfef28a9b5a2f3d9c043dc43520cc9", checked := Try.checked }
namespace Rows
def none {H : Type} : Left H := { results := [], args := [] }

/-- 'arenanetlaw29.RangecoderModel': WHATEVER THE INPUT: true; the input reads as it did. -/
def rangecoderModelSpec : ChangeSpec := { name := "rangecoderModel", fn := fun _ => fun
  | [d1, d2] => { results := [.lit (.bool true)], args := [d1, d2] }
  | _ => none }
def rangecoderModelRow : OpenClaim := { program := "ytjehkpfmndfjeaa", sum := "0e7ba4690c8b79bb36fd90814da83a3076bfef28a9b5a2f3d9c043dc43520cc9", func := "arenanet/arenanetlaw29.RangecoderModel", spec := "rangecoderModel", unfollowed := true, recurses := true, apart := false }
def RangecoderModelSaid : Prop := rangecoderModelRow.holds Try.pinned (OpenSpec.ofChange rangecoderModelSpec)

/-- ITS FALSE NEIGHBOUR: 'it returns false'. Refute it at one input. -/
def rangecoderModelWrong : ChangeSpec := { name := "rangecoderModel", fn := fun _ => fun
  | [d1, d2] => { results := [.lit (.bool false)], args := [d1, d2] }
  | _ => none }
def RangecoderModelWrongFalsely : Prop := rangecoderModelRow.holds Try.pinned (OpenSpec.ofChange rangecoderModelWrong)

/-- 'arenanetlaw29.RangecoderRoundTrip': WHATEVER THE INPUT: true; the input reads as it did. -/
def rangecoderRoundTripSpec : ChangeSpec := { name := "rangecoderRoundTrip", fn := fun _ => fun
  | [d1, d2] => { results := [.lit (.bool true)], args := [d1, d2] }
  | _ => none }
def rangecoderRoundTripRow : OpenClaim := { program := "ytjehkpfmndfjeaa", sum := "0e7ba4690c8b79bb36fd90814da83a3076bfef28a9b5a2f3d9c043dc43520cc9", func := "arenanet/arenanetlaw29.RangecoderRoundTrip", spec := "rangecoderRoundTrip", unfollowed := true, recurses := true, apart := false }
def RangecoderRoundTripSaid : Prop := rangecoderRoundTripRow.holds Try.pinned (OpenSpec.ofChange rangecoderRoundTripSpec)

/-- ITS FALSE NEIGHBOUR: 'it returns false'. Refute it at one input. -/
def rangecoderRoundTripWrong : ChangeSpec := { name := "rangecoderRoundTrip", fn := fun _ => fun
  | [d1, d2] => { results := [.lit (.bool false)], args := [d1, d2] }
  | _ => none }
def RangecoderRoundTripWrongFalsely : Prop := rangecoderRoundTripRow.holds Try.pinned (OpenSpec.ofChange rangecoderRoundTripWrong)

/-- 'arenanetlaw29.RangecoderCanonical': WHATEVER THE INPUT: true; the input reads as it did. -/
def rangecoderCanonicalSpec : ChangeSpec := { name := "rangecoderCanonical", fn := fun _ => fun
  | [d1, d2, d3, d4] => { results := [.lit (.bool true)], args := [d1, d2, d3, d4] }
  | _ => none }
def rangecoderCanonicalRow : OpenClaim := { program := "ytjehkpfmndfjeaa", sum := "0e7ba4690c8b79bb36fd90814da83a3076bfef28a9b5a2f3d9c043dc43520cc9", func := "arenanet/arenanetlaw29.RangecoderCanonical", spec := "rangecoderCanonical", unfollowed := true, recurses := true, apart := false }
def RangecoderCanonicalSaid : Prop := rangecoderCanonicalRow.holds Try.pinned (OpenSpec.ofChange rangecoderCanonicalSpec)

/-- ITS FALSE NEIGHBOUR: 'it returns false'. Refute it at one input. -/
def rangecoderCanonicalWrong : ChangeSpec := { name := "rangecoderCanonical", fn := fun _ => fun
  | [d1, d2, d3, d4] => { results := [.lit (.bool false)], args := [d1, d2, d3, d4] }
  | _ => none }
def RangecoderCanonicalWrongFalsely : Prop := rangecoderCanonicalRow.holds Try.pinned (OpenSpec.ofChange rangecoderCanonicalWrong)

/-- 'arenanetlaw29.RangecoderPrefix': WHATEVER THE INPUT: true; the input reads as it did. -/
def rangecoderPrefixSpec : ChangeSpec := { name := "rangecoderPrefix", fn := fun _ => fun
  | [d1, d2, d3] => { results := [.lit (.bool true)], args := [d1, d2, d3] }
  | _ => none }
def rangecoderPrefixRow : OpenClaim := { program := "ytjehkpfmndfjeaa", sum := "0e7ba4690c8b79bb36fd90814da83a3076bfef28a9b5a2f3d9c043dc43520cc9", func := "arenanet/arenanetlaw29.RangecoderPrefix", spec := "rangecoderPrefix", unfollowed := true, recurses := true, apart := false }
def RangecoderPrefixSaid : Prop := rangecoderPrefixRow.holds Try.pinned (OpenSpec.ofChange rangecoderPrefixSpec)

/-- ITS FALSE NEIGHBOUR: 'it returns false'. Refute it at one input. -/
def rangecoderPrefixWrong : ChangeSpec := { name := "rangecoderPrefix", fn := fun _ => fun
  | [d1, d2, d3] => { results := [.lit (.bool false)], args := [d1, d2, d3] }
  | _ => none }
def RangecoderPrefixWrongFalsely : Prop := rangecoderPrefixRow.holds Try.pinned (OpenSpec.ofChange rangecoderPrefixWrong)

/-- 'arenanetlaw29.RangecoderLength': WHATEVER THE INPUT: true; the input reads as it did. -/
def rangecoderLengthSpec : ChangeSpec := { name := "rangecoderLength", fn := fun _ => fun
  | [d1, d2, d3] => { results := [.lit (.bool true)], args := [d1, d2, d3] }
  | _ => none }
def rangecoderLengthRow : OpenClaim := { program := "ytjehkpfmndfjeaa", sum := "0e7ba4690c8b79bb36fd90814da83a3076bfef28a9b5a2f3d9c043dc43520cc9", func := "arenanet/arenanetlaw29.RangecoderLength", spec := "rangecoderLength", unfollowed := true, recurses := true, apart := false }
def RangecoderLengthSaid : Prop := rangecoderLengthRow.holds Try.pinned (OpenSpec.ofChange rangecoderLengthSpec)

/-- ITS FALSE NEIGHBOUR: 'it returns false'. Refute it at one input. -/
def rangecoderLengthWrong : ChangeSpec := { name := "rangecoderLength", fn := fun _ => fun
  | [d1, d2, d3] => { results := [.lit (.bool false)], args := [d1, d2, d3] }
  | _ => none }
def RangecoderLengthWrongFalsely : Prop := rangecoderLengthRow.holds Try.pinned (OpenSpec.ofChange rangecoderLengthWrong)

/-- 'arenanetlaw29.RangecoderSize': WHATEVER THE INPUT: true; the input reads as it did. -/
def rangecoderSizeSpec : ChangeSpec := { name := "rangecoderSize", fn := fun _ => fun
  | [d] => { results := [.lit (.bool true)], args := [d] }
  | _ => none }
def rangecoderSizeRow : OpenClaim := { program := "ytjehkpfmndfjeaa", sum := "0e7ba4690c8b79bb36fd90814da83a3076bfef28a9b5a2f3d9c043dc43520cc9", func := "arenanet/arenanetlaw29.RangecoderSize", spec := "rangecoderSize", unfollowed := true, recurses := true, apart := false }
def RangecoderSizeSaid : Prop := rangecoderSizeRow.holds Try.pinned (OpenSpec.ofChange rangecoderSizeSpec)

/-- ITS FALSE NEIGHBOUR: 'it returns false'. Refute it at one input. -/
def rangecoderSizeWrong : ChangeSpec := { name := "rangecoderSize", fn := fun _ => fun
  | [d] => { results := [.lit (.bool false)], args := [d] }
  | _ => none }
def RangecoderSizeWrongFalsely : Prop := rangecoderSizeRow.holds Try.pinned (OpenSpec.ofChange rangecoderSizeWrong)

/-- 'arenanetlaw29.RangecoderRuns': WHATEVER THE INPUT: true; the input reads as it did. -/
def rangecoderRunsSpec : ChangeSpec := { name := "rangecoderRuns", fn := fun _ => fun
  | [d1, d2] => { results := [.lit (.bool true)], args := [d1, d2] }
  | _ => none }
def rangecoderRunsRow : OpenClaim := { program := "ytjehkpfmndfjeaa", sum := "0e7ba4690c8b79bb36fd90814da83a3076bfef28a9b5a2f3d9c043dc43520cc9", func := "arenanet/arenanetlaw29.RangecoderRuns", spec := "rangecoderRuns", unfollowed := true, recurses := true, apart := false }
def RangecoderRunsSaid : Prop := rangecoderRunsRow.holds Try.pinned (OpenSpec.ofChange rangecoderRunsSpec)

/-- ITS FALSE NEIGHBOUR: 'it returns false'. Refute it at one input. -/
def rangecoderRunsWrong : ChangeSpec := { name := "rangecoderRuns", fn := fun _ => fun
  | [d1, d2] => { results := [.lit (.bool false)], args := [d1, d2] }
  | _ => none }
def RangecoderRunsWrongFalsely : Prop := rangecoderRunsRow.holds Try.pinned (OpenSpec.ofChange rangecoderRunsWrong)

/-- 'arenanetlaw29.RangecoderDistinct': WHATEVER THE INPUT: true; the input reads as it did. -/
def rangecoderDistinctSpec : ChangeSpec := { name := "rangecoderDistinct", fn := fun _ => fun
  | [d1, d2, d3, d4] => { results := [.lit (.bool true)], args := [d1, d2, d3, d4] }
  | _ => none }
def rangecoderDistinctRow : OpenClaim := { program := "ytjehkpfmndfjeaa", sum := "0e7ba4690c8b79bb36fd90814da83a3076bfef28a9b5a2f3d9c043dc43520cc9", func := "arenanet/arenanetlaw29.RangecoderDistinct", spec := "rangecoderDistinct", unfollowed := true, recurses := true, apart := false }
def RangecoderDistinctSaid : Prop := rangecoderDistinctRow.holds Try.pinned (OpenSpec.ofChange rangecoderDistinctSpec)

/-- ITS FALSE NEIGHBOUR: 'it returns false'. Refute it at one input. -/
def rangecoderDistinctWrong : ChangeSpec := { name := "rangecoderDistinct", fn := fun _ => fun
  | [d1, d2, d3, d4] => { results := [.lit (.bool false)], args := [d1, d2, d3, d4] }
  | _ => none }
def RangecoderDistinctWrongFalsely : Prop := rangecoderDistinctRow.holds Try.pinned (OpenSpec.ofChange rangecoderDistinctWrong)

/- THE SECOND FORM. 'bulk': how many values and letters a reading holds, each counted each time it is reached (what is shared counts as often as it is met; a slice's spare places count too). A statement '..UptoSaid' is the law's where the arguments, and the package variables that the reading takes, are together of bulk at most 1048576: NARROWER than '..Said'. Prove '..Said' where nothing that the law and all that it calls make is longer than what came in: it says more and counts as full. Else prove '..UptoSaid'. A law counts once. -/
mutual
def uptoBulk {H : Type} : DataW H → Nat
  | .lit (.string bytes) => bytes.length + 1
  | .lit _ => 1
  | .nil => 1
  | .ptr d => uptoBulk d + 1
  | .slice elems spare => uptoBulkAll elems + uptoBulkAll spare + 1
  | .agg parts => uptoBulkAll parts + 1
  | .iface _ d => uptoBulk d + 1
  | .map entries => uptoBulkEntries entries + 1
  | .held _ => 1
def uptoBulkAll {H : Type} : List (DataW H) → Nat
  | [] => 0
  | d :: r => uptoBulk d + uptoBulkAll r
def uptoBulkEntries {H : Type} : List (Lit × DataW H) → Nat
  | [] => 0
  | x :: r => uptoBulkEntry x + uptoBulkEntries r
def uptoBulkEntry {H : Type} : Lit × DataW H → Nat
  | (.string bytes, d) => bytes.length + uptoBulk d + 1
  | (_, d) => uptoBulk d + 1
 end
def uptoSmall : (H : Type) → List (DataW H) → Bool := fun _ ds => decide (uptoBulkAll ds ≤ 1048576)
def OpenSpec.upto (s : _root_.Go.ChangeSpec) : _root_.Go.OpenSpec := { _root_.Go.OpenSpec.ofChange s with cond := some uptoSmall }

/-- 'arenanetlaw29.RangecoderModel', WHERE WHAT IT READS IS OF BULK AT MOST 1048576: true; the input reads as it did. -/
def rangecoderModelUptoRow : OpenClaim := { program := "ytjehkpfmndfjeaa", sum := "0e7ba4690c8b79bb36fd90814da83a3076bfef28a9b5a2f3d9c043dc43520cc9", func := "arenanet/arenanetlaw29.RangecoderModel", spec := "rangecoderModel", unfollowed := true, recurses := true, apart := false, narrowed := true }
def RangecoderModelUptoSaid : Prop := rangecoderModelUptoRow.holds Try.pinned (OpenSpec.upto rangecoderModelSpec)

/-- 'arenanetlaw29.RangecoderRoundTrip', WHERE WHAT IT READS IS OF BULK AT MOST 1048576: true; the input reads as it did. -/
def rangecoderRoundTripUptoRow : OpenClaim := { program := "ytjehkpfmndfjeaa", sum := "0e7ba4690c8b79bb36fd90814da83a3076bfef28a9b5a2f3d9c043dc43520cc9", func := "arenanet/arenanetlaw29.RangecoderRoundTrip", spec := "rangecoderRoundTrip", unfollowed := true, recurses := true, apart := false, narrowed := true }
def RangecoderRoundTripUptoSaid : Prop := rangecoderRoundTripUptoRow.holds Try.pinned (OpenSpec.upto rangecoderRoundTripSpec)

/-- 'arenanetlaw29.RangecoderCanonical', WHERE WHAT IT READS IS OF BULK AT MOST 1048576: true; the input reads as it did. -/
def rangecoderCanonicalUptoRow : OpenClaim := { program := "ytjehkpfmndfjeaa", sum := "0e7ba4690c8b79bb36fd90814da83a3076bfef28a9b5a2f3d9c043dc43520cc9", func := "arenanet/arenanetlaw29.RangecoderCanonical", spec := "rangecoderCanonical", unfollowed := true, recurses := true, apart := false, narrowed := true }
def RangecoderCanonicalUptoSaid : Prop := rangecoderCanonicalUptoRow.holds Try.pinned (OpenSpec.upto rangecoderCanonicalSpec)

/-- 'arenanetlaw29.RangecoderPrefix', WHERE WHAT IT READS IS OF BULK AT MOST 1048576: true; the input reads as it did. -/
def rangecoderPrefixUptoRow : OpenClaim := { program := "ytjehkpfmndfjeaa", sum := "0e7ba4690c8b79bb36fd90814da83a3076bfef28a9b5a2f3d9c043dc43520cc9", func := "arenanet/arenanetlaw29.RangecoderPrefix", spec := "rangecoderPrefix", unfollowed := true, recurses := true, apart := false, narrowed := true }
def RangecoderPrefixUptoSaid : Prop := rangecoderPrefixUptoRow.holds Try.pinned (OpenSpec.upto rangecoderPrefixSpec)

/-- 'arenanetlaw29.RangecoderLength', WHERE WHAT IT READS IS OF BULK AT MOST 1048576: true; the input reads as it did. -/
def rangecoderLengthUptoRow : OpenClaim := { program := "ytjehkpfmndfjeaa", sum := "0e7ba4690c8b79bb36fd90814da83a3076bfef28a9b5a2f3d9c043dc43520cc9", func := "arenanet/arenanetlaw29.RangecoderLength", spec := "rangecoderLength", unfollowed := true, recurses := true, apart := false, narrowed := true }
def RangecoderLengthUptoSaid : Prop := rangecoderLengthUptoRow.holds Try.pinned (OpenSpec.upto rangecoderLengthSpec)

/-- 'arenanetlaw29.RangecoderSize', WHERE WHAT IT READS IS OF BULK AT MOST 1048576: true; the input reads as it did. -/
def rangecoderSizeUptoRow : OpenClaim := { program := "ytjehkpfmndfjeaa", sum := "0e7ba4690c8b79bb36fd90814da83a3076bfef28a9b5a2f3d9c043dc43520cc9", func := "arenanet/arenanetlaw29.RangecoderSize", spec := "rangecoderSize", unfollowed := true, recurses := true, apart := false, narrowed := true }
def RangecoderSizeUptoSaid : Prop := rangecoderSizeUptoRow.holds Try.pinned (OpenSpec.upto rangecoderSizeSpec)

/-- 'arenanetlaw29.RangecoderRuns', WHERE WHAT IT READS IS OF BULK AT MOST 1048576: true; the input reads as it did. -/
def rangecoderRunsUptoRow : OpenClaim := { program := "ytjehkpfmndfjeaa", sum := "0e7ba4690c8b79bb36fd90814da83a3076bfef28a9b5a2f3d9c043dc43520cc9", func := "arenanet/arenanetlaw29.RangecoderRuns", spec := "rangecoderRuns", unfollowed := true, recurses := true, apart := false, narrowed := true }
def RangecoderRunsUptoSaid : Prop := rangecoderRunsUptoRow.holds Try.pinned (OpenSpec.upto rangecoderRunsSpec)

/-- 'arenanetlaw29.RangecoderDistinct', WHERE WHAT IT READS IS OF BULK AT MOST 1048576: true; the input reads as it did. -/
def rangecoderDistinctUptoRow : OpenClaim := { program := "ytjehkpfmndfjeaa", sum := "0e7ba4690c8b79bb36fd90814da83a3076bfef28a9b5a2f3d9c043dc43520cc9", func := "arenanet/arenanetlaw29.RangecoderDistinct", spec := "rangecoderDistinct", unfollowed := true, recurses := true, apart := false, narrowed := true }
def RangecoderDistinctUptoSaid : Prop := rangecoderDistinctUptoRow.holds Try.pinned (OpenSpec.upto rangecoderDistinctSpec)

end Rows
end Go.Proofs.Ytjehkpfmndfjeaa
