/-
  No cell of these rows narrows 'for every input' (looked for: loops, veiled, ifaces, maps, wideKeys, modest, calm, conditions, laid).
  DERIVED. THE GIVEN ROWS OF THIS SEAT. 5 by the template 'for every input the law returns true; each argument reads behind the call as it read before'; 0 by the template 'total and deterministic' (their statements: YtodfeaipoagphaaTotals.lean).
  GIVEN WITH THE SEED: the statements are not yours to turn. If you find one false, say at which input.
  Laid BY PROGRAM, IN A SANDBOX (cutbox-rows.mjs): the forced cells as the released guide's own fill.sh prints them over the translation 0003abc9ffd96e8c… (all of the seat's roots in one cut). By AI agents, Wed Nov 11 2026. No macro, syntax, notation, axiom, sorry.
-/
import Derived.Test.YtodfeaipoagphaaChecked
import GoSem.Claim
import GoSem.ClaimJoined
import GoSem.ClaimMapViews
import Derived.JoinedTies
import Derived.KernelRfl
namespace Go.Proofs.Ytodfeaipoagphaa
/- THE CELL 'sum', in the pinned program and in every row, IS THE sha256 OF THE DUMP (.gsa) THAT YtodfeaipoagphaaProg.lean LOADS. Nothing in Lean hashes anything: it is a label: what it is worth is what the hold of that sum in a sandbox is worth. -/
noncomputable def Try.pinned : Pinned := { name := "ytodfeaipoagphaa", sum := "0003abc9ffd96e8c27d7d6cb3dc34955937ec54c9907ce07400897ed39206672", checked := Try.checked }
namespace Rows
def none {H : Type} : Left H := { results := [], args := [] }

/-- 'arenanetlaw30.FeedNoStall': WHATEVER THE INPUT: true; the input reads as it did. -/
def feedNoStallSpec : ChangeSpec := { name := "feedNoStall", fn := fun _ => fun
  | [d1, d2] => { results := [.lit (.bool true)], args := [d1, d2] }
  | _ => none }
def feedNoStallRow : OpenClaim := { program := "ytodfeaipoagphaa", sum := "0003abc9ffd96e8c27d7d6cb3dc34955937ec54c9907ce07400897ed39206672", func := "arenanet/arenanetlaw30.FeedNoStall", spec := "feedNoStall", unfollowed := true, recurses := true, apart := false }
def FeedNoStallSaid : Prop := feedNoStallRow.holds Try.pinned (OpenSpec.ofChange feedNoStallSpec)

/-- ITS FALSE NEIGHBOUR: 'it returns false'. Refute it at one input. -/
def feedNoStallWrong : ChangeSpec := { name := "feedNoStall", fn := fun _ => fun
  | [d1, d2] => { results := [.lit (.bool false)], args := [d1, d2] }
  | _ => none }
def FeedNoStallWrongFalsely : Prop := feedNoStallRow.holds Try.pinned (OpenSpec.ofChange feedNoStallWrong)

/-- 'arenanetlaw30.FeedJoins': WHATEVER THE INPUT: true; the input reads as it did. -/
def feedJoinsSpec : ChangeSpec := { name := "feedJoins", fn := fun _ => fun
  | [d1, d2] => { results := [.lit (.bool true)], args := [d1, d2] }
  | _ => none }
def feedJoinsRow : OpenClaim := { program := "ytodfeaipoagphaa", sum := "0003abc9ffd96e8c27d7d6cb3dc34955937ec54c9907ce07400897ed39206672", func := "arenanet/arenanetlaw30.FeedJoins", spec := "feedJoins", unfollowed := true, recurses := true, apart := false }
def FeedJoinsSaid : Prop := feedJoinsRow.holds Try.pinned (OpenSpec.ofChange feedJoinsSpec)

/-- ITS FALSE NEIGHBOUR: 'it returns false'. Refute it at one input. -/
def feedJoinsWrong : ChangeSpec := { name := "feedJoins", fn := fun _ => fun
  | [d1, d2] => { results := [.lit (.bool false)], args := [d1, d2] }
  | _ => none }
def FeedJoinsWrongFalsely : Prop := feedJoinsRow.holds Try.pinned (OpenSpec.ofChange feedJoinsWrong)

/-- 'arenanetlaw30.FeedFunction': WHATEVER THE INPUT: true; the input reads as it did. -/
def feedFunctionSpec : ChangeSpec := { name := "feedFunction", fn := fun _ => fun
  | [d1, d2] => { results := [.lit (.bool true)], args := [d1, d2] }
  | _ => none }
def feedFunctionRow : OpenClaim := { program := "ytodfeaipoagphaa", sum := "0003abc9ffd96e8c27d7d6cb3dc34955937ec54c9907ce07400897ed39206672", func := "arenanet/arenanetlaw30.FeedFunction", spec := "feedFunction", unfollowed := true, recurses := true, apart := false }
def FeedFunctionSaid : Prop := feedFunctionRow.holds Try.pinned (OpenSpec.ofChange feedFunctionSpec)

/-- ITS FALSE NEIGHBOUR: 'it returns false'. Refute it at one input. -/
def feedFunctionWrong : ChangeSpec := { name := "feedFunction", fn := fun _ => fun
  | [d1, d2] => { results := [.lit (.bool false)], args := [d1, d2] }
  | _ => none }
def FeedFunctionWrongFalsely : Prop := feedFunctionRow.holds Try.pinned (OpenSpec.ofChange feedFunctionWrong)

/-- 'arenanetlaw30.FeedDelta': WHATEVER THE INPUT: true; the input reads as it did. -/
def feedDeltaSpec : ChangeSpec := { name := "feedDelta", fn := fun _ => fun
  | [d1, d2] => { results := [.lit (.bool true)], args := [d1, d2] }
  | _ => none }
def feedDeltaRow : OpenClaim := { program := "ytodfeaipoagphaa", sum := "0003abc9ffd96e8c27d7d6cb3dc34955937ec54c9907ce07400897ed39206672", func := "arenanet/arenanetlaw30.FeedDelta", spec := "feedDelta", unfollowed := true, recurses := true, apart := false }
def FeedDeltaSaid : Prop := feedDeltaRow.holds Try.pinned (OpenSpec.ofChange feedDeltaSpec)

/-- ITS FALSE NEIGHBOUR: 'it returns false'. Refute it at one input. -/
def feedDeltaWrong : ChangeSpec := { name := "feedDelta", fn := fun _ => fun
  | [d1, d2] => { results := [.lit (.bool false)], args := [d1, d2] }
  | _ => none }
def FeedDeltaWrongFalsely : Prop := feedDeltaRow.holds Try.pinned (OpenSpec.ofChange feedDeltaWrong)

/-- 'arenanetlaw30.FeedExact': WHATEVER THE INPUT: true; the input reads as it did. -/
def feedExactSpec : ChangeSpec := { name := "feedExact", fn := fun _ => fun
  | [d1, d2, d3] => { results := [.lit (.bool true)], args := [d1, d2, d3] }
  | _ => none }
def feedExactRow : OpenClaim := { program := "ytodfeaipoagphaa", sum := "0003abc9ffd96e8c27d7d6cb3dc34955937ec54c9907ce07400897ed39206672", func := "arenanet/arenanetlaw30.FeedExact", spec := "feedExact", unfollowed := true, recurses := true, apart := false }
def FeedExactSaid : Prop := feedExactRow.holds Try.pinned (OpenSpec.ofChange feedExactSpec)

/-- ITS FALSE NEIGHBOUR: 'it returns false'. Refute it at one input. -/
def feedExactWrong : ChangeSpec := { name := "feedExact", fn := fun _ => fun
  | [d1, d2, d3] => { results := [.lit (.bool false)], args := [d1, d2, d3] }
  | _ => none }
def FeedExactWrongFalsely : Prop := feedExactRow.holds Try.pinned (OpenSpec.ofChange feedExactWrong)

/- THE SECOND FORM. 'bulk': how many values and letters a reading holds, each counted each time it is reached (what is shared counts as often as it is met; a slice's spare places count too). A statement '..UptoSaid' is the law's where the arguments, and the package variables that the reading takes, are together of bulk at most 1048576: NARROWER than '..Said'. Prove '..Said' where nothing that the law and all that it calls make is longer than what came in: it says more and counts as full. Else prove '..UptoSaid'. A law counts once. -/
mutual
def uptoBulk {H : Type} : DataW H → Nat
  | .lit (.string bytes) => bytes.length + 1
  | .lit _ => 1
  | .nil => 1
  | .ptr d => uptoBulk d + 1
  | .slice elems spare => uptoBulkAll elems + uptoBulkAll spare + 1
  | .agg parts => uptoBulkAll parts + 1
  | .iface _ d => uptoBulk d + 1
  | .map entries => uptoBulkEntries entries + 1
  | .held _ => 1
def uptoBulkAll {H : Type} : List (DataW H) → Nat
  | [] => 0
  | d :: r => uptoBulk d + uptoBulkAll r
def uptoBulkEntries {H : Type} : List (Lit × DataW H) → Nat
  | [] => 0
  | x :: r => uptoBulkEntry x + uptoBulkEntries r
def uptoBulkEntry {H : Type} : Lit × DataW H → Nat
  | (.string bytes, d) => bytes.length + uptoBulk d + 1
  | (_, d) => uptoBulk d + 1
 end
def uptoSmall : (H : Type) → List (DataW H) → Bool := fun _ ds => decide (uptoBulkAll ds ≤ 1048576)
def OpenSpec.upto (s : _root_.Go.ChangeSpec) : _root_.Go.OpenSpec := { _root_.Go.OpenSpec.ofChange s with cond := some uptoSmall }

/-- 'arenanetlaw30.FeedNoStall', WHERE WHAT IT READS IS OF BULK AT MOST 1048576: true; the input reads as it did. -/
def feedNoStallUptoRow : OpenClaim := { program := "ytodfeaipoagphaa", sum := "0003abc9ffd96e8c27d7d6cb3dc34955937ec54c9907ce07400897ed39206672", func := "arenanet/arenanetlaw30.FeedNoStall", spec := "feedNoStall", unfollowed := true, recurses := true, apart := false, narrowed := true }
def FeedNoStallUptoSaid : Prop := feedNoStallUptoRow.holds Try.pinned (OpenSpec.upto feedNoStallSpec)

/-- 'arenanetlaw30.FeedJoins', WHERE WHAT IT READS IS OF BULK AT MOST 1048576: true; the input reads as it did. -/
def feedJoinsUptoRow : OpenClaim := { program := "ytodfeaipoagphaa", sum := "0003abc9ffd96e8c27d7d6cb3dc34955937ec54c9907ce07400897ed39206672", func := "arenanet/arenanetlaw30.FeedJoins", spec := "feedJoins", unfollowed := true, recurses := true, apart := false, narrowed := true }
def FeedJoinsUptoSaid : Prop := feedJoinsUptoRow.holds Try.pinned (OpenSpec.upto feedJoinsSpec)

/-- 'arenanetlaw30.FeedFunction', WHERE WHAT IT READS IS OF BULK AT MOST 1048576: true; the input reads as it did. -/
def feedFunctionUptoRow : OpenClaim := { program := "ytodfeaipoagphaa", sum := "0003abc9ffd96e8c27d7d6cb3dc34955937ec54c9907ce07400897ed39206672", func := "arenanet/arenanetlaw30.FeedFunction", spec := "feedFunction", unfollowed := true, recurses := true, apart := false, narrowed := true }
def FeedFunctionUptoSaid : Prop := feedFunctionUptoRow.holds Try.pinned (OpenSpec.upto feedFunctionSpec)

/-- 'arenanetlaw30.FeedDelta', WHERE WHAT IT READS IS OF BULK AT MOST 1048576: true; the input reads as it did. -/
def feedDeltaUptoRow : OpenClaim := { program := "ytodfeaipoagphaa", sum := "0003abc9ffd96e8c27d7d6cb3dc34955937ec54c9907ce07400897ed39206672", func := "arenanet/arenanetlaw30.FeedDelta", spec := "feedDelta", unfollowed := true, recurses := true, apart := false, narrowed := true }
def FeedDeltaUptoSaid : Prop := feedDeltaUptoRow.holds Try.pinned (OpenSpec.upto feedDeltaSpec)

/-- 'arenanetlaw30.FeedExact', WHERE WHAT IT READS IS OF BULK AT MOST 1048576: true; the input reads as it did. -/
def feedExactUptoRow : OpenClaim := { program := "ytodfeaipoagphaa", sum := "0003abc9ffd96e8c27d7d6cb3dc34955937ec54c9907ce07400897ed39206672", func := "arenanet/arenanetlaw30.FeedExact", spec := "feedExact", unfollowed := true, recurses := true, apart := false, narrowed := true }
def FeedExactUptoSaid : Prop := feedExactUptoRow.holds Try.pinned (OpenSpec.upto feedExactSpec)

end Rows
end Go.Proofs.Ytodfeaipoagphaa
