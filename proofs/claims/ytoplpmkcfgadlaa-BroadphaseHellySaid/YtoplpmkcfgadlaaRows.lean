/-
  No cell of these rows narrows 'for every input' (looked for: loops, veiled, ifaces, maps, wideKeys, modest, calm, conditions, laid).
  DERIVED. THE GIVEN ROWS OF THIS SEAT. 7 by the template 'for every input the law returns true; each argument reads behind the call as it read before'; 0 by the template 'total and deterministic' (their statements: YtoplpmkcfgadlaaTotals.lean).
  GIVEN WITH THE SEED: the statements are not yours to turn. If you find one false, say at which input.
  Laid BY PROGRAM, IN A SANDBOX (cutbox-rows.mjs): the forced cells as the released guide's own fill.sh prints them over the translation 76567bf801b305b4… (all of the seat's roots in one cut). By AI agents, Wed Nov 11 2026. No macro, syntax, notation, axiom, sorry.
-/
import Derived.Test.YtoplpmkcfgadlaaChecked
import GoSem.Claim
import GoSem.ClaimJoined
import GoSem.ClaimMapViews
import Derived.JoinedTies
import Derived.KernelRfl
namespace Go.Proofs.Ytoplpmkcfgadlaa
/- THE CELL 'sum', in the pinned program and in every row, IS THE sha256 OF THE DUMP (.gsa) THAT YtoplpmkcfgadlaaProg.lean LOADS. Nothing in Lean hashes anything: it is a label: what it is worth is what the hold of that sum in a sandbox is worth. -/
noncomputable def Try.pinned : Pinned := { name := "ytoplpmkcfgadlaa", sum := "76567bf801b305b4372515cca34b12227a7835121f6235bd4091088cbbfd3dc0", checked := Try.checked }
namespace Rows
def none {H : Type} : Left H := { results := [], args := [] }

/-- 'arenanetlaw04.BroadphaseOverlaps': WHATEVER THE INPUT: true; the input reads as it did. -/
def broadphaseOverlapsSpec : ChangeSpec := { name := "broadphaseOverlaps", fn := fun _ => fun
  | [d1, d2] => { results := [.lit (.bool true)], args := [d1, d2] }
  | _ => none }
def broadphaseOverlapsRow : OpenClaim := { program := "ytoplpmkcfgadlaa", sum := "76567bf801b305b4372515cca34b12227a7835121f6235bd4091088cbbfd3dc0", func := "arenanet/arenanetlaw04.BroadphaseOverlaps", spec := "broadphaseOverlaps", unfollowed := true, recurses := true, apart := false }
def BroadphaseOverlapsSaid : Prop := broadphaseOverlapsRow.holds Try.pinned (OpenSpec.ofChange broadphaseOverlapsSpec)

/-- ITS FALSE NEIGHBOUR: 'it returns false'. Refute it at one input. -/
def broadphaseOverlapsWrong : ChangeSpec := { name := "broadphaseOverlaps", fn := fun _ => fun
  | [d1, d2] => { results := [.lit (.bool false)], args := [d1, d2] }
  | _ => none }
def BroadphaseOverlapsWrongFalsely : Prop := broadphaseOverlapsRow.holds Try.pinned (OpenSpec.ofChange broadphaseOverlapsWrong)

/-- 'arenanetlaw04.BroadphasePairs': WHATEVER THE INPUT: true; the input reads as it did. -/
def broadphasePairsSpec : ChangeSpec := { name := "broadphasePairs", fn := fun _ => fun
  | [d1, d2] => { results := [.lit (.bool true)], args := [d1, d2] }
  | _ => none }
def broadphasePairsRow : OpenClaim := { program := "ytoplpmkcfgadlaa", sum := "76567bf801b305b4372515cca34b12227a7835121f6235bd4091088cbbfd3dc0", func := "arenanet/arenanetlaw04.BroadphasePairs", spec := "broadphasePairs", unfollowed := true, recurses := true, apart := false }
def BroadphasePairsSaid : Prop := broadphasePairsRow.holds Try.pinned (OpenSpec.ofChange broadphasePairsSpec)

/-- ITS FALSE NEIGHBOUR: 'it returns false'. Refute it at one input. -/
def broadphasePairsWrong : ChangeSpec := { name := "broadphasePairs", fn := fun _ => fun
  | [d1, d2] => { results := [.lit (.bool false)], args := [d1, d2] }
  | _ => none }
def BroadphasePairsWrongFalsely : Prop := broadphasePairsRow.holds Try.pinned (OpenSpec.ofChange broadphasePairsWrong)

/-- 'arenanetlaw04.BroadphaseSymmetric': WHATEVER THE INPUT: true; the input reads as it did. -/
def broadphaseSymmetricSpec : ChangeSpec := { name := "broadphaseSymmetric", fn := fun _ => fun
  | [d1, d2, d3, d4] => { results := [.lit (.bool true)], args := [d1, d2, d3, d4] }
  | _ => none }
def broadphaseSymmetricRow : OpenClaim := { program := "ytoplpmkcfgadlaa", sum := "76567bf801b305b4372515cca34b12227a7835121f6235bd4091088cbbfd3dc0", func := "arenanet/arenanetlaw04.BroadphaseSymmetric", spec := "broadphaseSymmetric", unfollowed := true, recurses := true, apart := false }
def BroadphaseSymmetricSaid : Prop := broadphaseSymmetricRow.holds Try.pinned (OpenSpec.ofChange broadphaseSymmetricSpec)

/-- ITS FALSE NEIGHBOUR: 'it returns false'. Refute it at one input. -/
def broadphaseSymmetricWrong : ChangeSpec := { name := "broadphaseSymmetric", fn := fun _ => fun
  | [d1, d2, d3, d4] => { results := [.lit (.bool false)], args := [d1, d2, d3, d4] }
  | _ => none }
def BroadphaseSymmetricWrongFalsely : Prop := broadphaseSymmetricRow.holds Try.pinned (OpenSpec.ofChange broadphaseSymmetricWrong)

/-- 'arenanetlaw04.BroadphaseHelly': WHATEVER THE INPUT: true; the input reads as it did. -/
def broadphaseHellySpec : ChangeSpec := { name := "broadphaseHelly", fn := fun _ => fun
  | [d] => { results := [.lit (.bool true)], args := [d] }
  | _ => none }
def broadphaseHellyRow : OpenClaim := { program := "ytoplpmkcfgadlaa", sum := "76567bf801b305b4372515cca34b12227a7835121f6235bd4091088cbbfd3dc0", func := "arenanet/arenanetlaw04.BroadphaseHelly", spec := "broadphaseHelly", unfollowed := true, recurses := true, apart := false }
def BroadphaseHellySaid : Prop := broadphaseHellyRow.holds Try.pinned (OpenSpec.ofChange broadphaseHellySpec)

/-- ITS FALSE NEIGHBOUR: 'it returns false'. Refute it at one input. -/
def broadphaseHellyWrong : ChangeSpec := { name := "broadphaseHelly", fn := fun _ => fun
  | [d] => { results := [.lit (.bool false)], args := [d] }
  | _ => none }
def BroadphaseHellyWrongFalsely : Prop := broadphaseHellyRow.holds Try.pinned (OpenSpec.ofChange broadphaseHellyWrong)

/-- 'arenanetlaw04.BroadphasePermuted': WHATEVER THE INPUT: true; the input reads as it did. -/
def broadphasePermutedSpec : ChangeSpec := { name := "broadphasePermuted", fn := fun _ => fun
  | [d1, d2] => { results := [.lit (.bool true)], args := [d1, d2] }
  | _ => none }
def broadphasePermutedRow : OpenClaim := { program := "ytoplpmkcfgadlaa", sum := "76567bf801b305b4372515cca34b12227a7835121f6235bd4091088cbbfd3dc0", func := "arenanet/arenanetlaw04.BroadphasePermuted", spec := "broadphasePermuted", unfollowed := true, recurses := true, apart := false }
def BroadphasePermutedSaid : Prop := broadphasePermutedRow.holds Try.pinned (OpenSpec.ofChange broadphasePermutedSpec)

/-- ITS FALSE NEIGHBOUR: 'it returns false'. Refute it at one input. -/
def broadphasePermutedWrong : ChangeSpec := { name := "broadphasePermuted", fn := fun _ => fun
  | [d1, d2] => { results := [.lit (.bool false)], args := [d1, d2] }
  | _ => none }
def BroadphasePermutedWrongFalsely : Prop := broadphasePermutedRow.holds Try.pinned (OpenSpec.ofChange broadphasePermutedWrong)

/-- 'arenanetlaw04.BroadphaseOwn': WHATEVER THE INPUT: true; the input reads as it did. -/
def broadphaseOwnSpec : ChangeSpec := { name := "broadphaseOwn", fn := fun _ => fun
  | [d] => { results := [.lit (.bool true)], args := [d] }
  | _ => none }
def broadphaseOwnRow : OpenClaim := { program := "ytoplpmkcfgadlaa", sum := "76567bf801b305b4372515cca34b12227a7835121f6235bd4091088cbbfd3dc0", func := "arenanet/arenanetlaw04.BroadphaseOwn", spec := "broadphaseOwn", unfollowed := true, recurses := true, apart := false }
def BroadphaseOwnSaid : Prop := broadphaseOwnRow.holds Try.pinned (OpenSpec.ofChange broadphaseOwnSpec)

/-- ITS FALSE NEIGHBOUR: 'it returns false'. Refute it at one input. -/
def broadphaseOwnWrong : ChangeSpec := { name := "broadphaseOwn", fn := fun _ => fun
  | [d] => { results := [.lit (.bool false)], args := [d] }
  | _ => none }
def BroadphaseOwnWrongFalsely : Prop := broadphaseOwnRow.holds Try.pinned (OpenSpec.ofChange broadphaseOwnWrong)

/-- 'arenanetlaw04.BroadphaseContains': WHATEVER THE INPUT: true; the input reads as it did. -/
def broadphaseContainsSpec : ChangeSpec := { name := "broadphaseContains", fn := fun _ => fun
  | [d1, d2, d3] => { results := [.lit (.bool true)], args := [d1, d2, d3] }
  | _ => none }
def broadphaseContainsRow : OpenClaim := { program := "ytoplpmkcfgadlaa", sum := "76567bf801b305b4372515cca34b12227a7835121f6235bd4091088cbbfd3dc0", func := "arenanet/arenanetlaw04.BroadphaseContains", spec := "broadphaseContains", unfollowed := true, recurses := true, apart := false }
def BroadphaseContainsSaid : Prop := broadphaseContainsRow.holds Try.pinned (OpenSpec.ofChange broadphaseContainsSpec)

/-- ITS FALSE NEIGHBOUR: 'it returns false'. Refute it at one input. -/
def broadphaseContainsWrong : ChangeSpec := { name := "broadphaseContains", fn := fun _ => fun
  | [d1, d2, d3] => { results := [.lit (.bool false)], args := [d1, d2, d3] }
  | _ => none }
def BroadphaseContainsWrongFalsely : Prop := broadphaseContainsRow.holds Try.pinned (OpenSpec.ofChange broadphaseContainsWrong)

/- THE SECOND FORM. 'bulk': how many values and letters a reading holds, each counted each time it is reached (what is shared counts as often as it is met; a slice's spare places count too). A statement '..UptoSaid' is the law's where the arguments, and the package variables that the reading takes, are together of bulk at most 1048576: NARROWER than '..Said'. Prove '..Said' where nothing that the law and all that it calls make is longer than what came in: it says more and counts as full. Else prove '..UptoSaid'. A law counts once. -/
mutual
def uptoBulk {H : Type} : DataW H → Nat
  | .lit (.string bytes) => bytes.length + 1
  | .lit _ => 1
  | .nil => 1
  | .ptr d => uptoBulk d + 1
  | .slice elems spare => uptoBulkAll elems + uptoBulkAll spare + 1
  | .agg parts => uptoBulkAll parts + 1
  | .iface _ d => uptoBulk d + 1
  | .map entries => uptoBulkEntries entries + 1
  | .held _ => 1
def uptoBulkAll {H : Type} : List (DataW H) → Nat
  | [] => 0
  | d :: r => uptoBulk d + uptoBulkAll r
def uptoBulkEntries {H : Type} : List (Lit × DataW H) → Nat
  | [] => 0
  | x :: r => uptoBulkEntry x + uptoBulkEntries r
def uptoBulkEntry {H : Type} : Lit × DataW H → Nat
  | (.string bytes, d) => bytes.length + uptoBulk d + 1
  | (_, d) => uptoBulk d + 1
 end
def uptoSmall : (H : Type) → List (DataW H) → Bool := fun _ ds => decide (uptoBulkAll ds ≤ 1048576)
def OpenSpec.upto (s : _root_.Go.ChangeSpec) : _root_.Go.OpenSpec := { _root_.Go.OpenSpec.ofChange s with cond := some uptoSmall }

/-- 'arenanetlaw04.BroadphaseOverlaps', WHERE WHAT IT READS IS OF BULK AT MOST 1048576: true; the input reads as it did. -/
def broadphaseOverlapsUptoRow : OpenClaim := { program := "ytoplpmkcfgadlaa", sum := "76567bf801b305b4372515cca34b12227a7835121f6235bd4091088cbbfd3dc0", func := "arenanet/arenanetlaw04.BroadphaseOverlaps", spec := "broadphaseOverlaps", unfollowed := true, recurses := true, apart := false, narrowed := true }
def BroadphaseOverlapsUptoSaid : Prop := broadphaseOverlapsUptoRow.holds Try.pinned (OpenSpec.upto broadphaseOverlapsSpec)

/-- 'arenanetlaw04.BroadphasePairs', WHERE WHAT IT READS IS OF BULK AT MOST 1048576: true; the input reads as it did. -/
def broadphasePairsUptoRow : OpenClaim := { program := "ytoplpmkcfgadlaa", sum := "76567bf801b305b4372515cca34b12227a7835121f6235bd4091088cbbfd3dc0", func := "arenanet/arenanetlaw04.BroadphasePairs", spec := "broadphasePairs", unfollowed := true, recurses := true, apart := false, narrowed := true }
def BroadphasePairsUptoSaid : Prop := broadphasePairsUptoRow.holds Try.pinned (OpenSpec.upto broadphasePairsSpec)

/-- 'arenanetlaw04.BroadphaseSymmetric', WHERE WHAT IT READS IS OF BULK AT MOST 1048576: true; the input reads as it did. -/
def broadphaseSymmetricUptoRow : OpenClaim := { program := "ytoplpmkcfgadlaa", sum := "76567bf801b305b4372515cca34b12227a7835121f6235bd4091088cbbfd3dc0", func := "arenanet/arenanetlaw04.BroadphaseSymmetric", spec := "broadphaseSymmetric", unfollowed := true, recurses := true, apart := false, narrowed := true }
def BroadphaseSymmetricUptoSaid : Prop := broadphaseSymmetricUptoRow.holds Try.pinned (OpenSpec.upto broadphaseSymmetricSpec)

/-- 'arenanetlaw04.BroadphaseHelly', WHERE WHAT IT READS IS OF BULK AT MOST 1048576: true; the input reads as it did. -/
def broadphaseHellyUptoRow : OpenClaim := { program := "ytoplpmkcfgadlaa", sum := "76567bf801b305b4372515cca34b12227a7835121f6235bd4091088cbbfd3dc0", func := "arenanet/arenanetlaw04.BroadphaseHelly", spec := "broadphaseHelly", unfollowed := true, recurses := true, apart := false, narrowed := true }
def BroadphaseHellyUptoSaid : Prop := broadphaseHellyUptoRow.holds Try.pinned (OpenSpec.upto broadphaseHellySpec)

/-- 'arenanetlaw04.BroadphasePermuted', WHERE WHAT IT READS IS OF BULK AT MOST 1048576: true; the input reads as it did. -/
def broadphasePermutedUptoRow : OpenClaim := { program := "ytoplpmkcfgadlaa", sum := "76567bf801b305b4372515cca34b12227a7835121f6235bd4091088cbbfd3dc0", func := "arenanet/arenanetlaw04.BroadphasePermuted", spec := "broadphasePermuted", unfollowed := true, recurses := true, apart := false, narrowed := true }
def BroadphasePermutedUptoSaid : Prop := broadphasePermutedUptoRow.holds Try.pinned (OpenSpec.upto broadphasePermutedSpec)

/-- 'arenanetlaw04.BroadphaseOwn', WHERE WHAT IT READS IS OF BULK AT MOST 1048576: true; the input reads as it did. -/
def broadphaseOwnUptoRow : OpenClaim := { program := "ytoplpmkcfgadlaa", sum := "76567bf801b305b4372515cca34b12227a7835121f6235bd4091088cbbfd3dc0", func := "arenanet/arenanetlaw04.BroadphaseOwn", spec := "broadphaseOwn", unfollowed := true, recurses := true, apart := false, narrowed := true }
def BroadphaseOwnUptoSaid : Prop := broadphaseOwnUptoRow.holds Try.pinned (OpenSpec.upto broadphaseOwnSpec)

/-- 'arenanetlaw04.BroadphaseContains', WHERE WHAT IT READS IS OF BULK AT MOST 1048576: true; the input reads as it did. -/
def broadphaseContainsUptoRow : OpenClaim := { program := "ytoplpmkcfgadlaa", sum := "76567bf801b305b4372515cca34b12227a7835121f6235bd4091088cbbfd3dc0", func := "arenanet/arenanetlaw04.BroadphaseContains", spec := "broadphaseContains", unfollowed := true, recurses := true, apart := false, narrowed := true }
def BroadphaseContainsUptoSaid : Prop := broadphaseContainsUptoRow.holds Try.pinned (OpenSpec.upto broadphaseContainsSpec)

end Rows
end Go.Proofs.Ytoplpmkcfgadlaa
