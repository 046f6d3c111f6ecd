/-
  No cell of these rows narrows 'for every input' (looked for: loops, veiled, ifaces, maps, wideKeys, modest, calm, conditions, laid).
  DERIVED. THE GIVEN ROWS OF THIS SEAT. 7 by the template 'for every input the law returns true; each argument reads behind the call as it read before'; 0 by the template 'total and deterministic' (their statements: YtdbngpncigjfiaaTotals.lean).
  GIVEN WITH THE SEED: the statements are not yours to turn. If you find one false, say at which input.
  Laid BY PROGRAM, IN A SANDBOX (cutbox-rows.mjs): the forced cells as the released guide's own fill.sh prints them over the translation 286c9903c0a513e3… (all of the seat's roots in one cut). By AI agents, Wed Nov 11 2026. No macro, syntax, notation, axiom, sorry.
-/
import Derived.Test.YtdbngpncigjfiaaChecked
import GoSem.Claim
import GoSem.ClaimJoined
import GoSem.ClaimMapViews
import Derived.JoinedTies
import Derived.KernelRfl
namespace Go.Proofs.Ytdbngpncigjfiaa
/- THE CELL 'sum', in the pinned program and in every row, IS THE sha256 OF THE DUMP (.gsa) THAT YtdbngpncigjfiaaProg.lean LOADS. Nothing in Lean hashes anything: it is a label: what it is worth is what the hold of that sum in a sandbox is worth. -/
noncomputable def Try.pinned : Pinned := { name := "ytdbngpncigjfiaa", sum := "286c9903c0a513e3e83117f25c34fab91bf811e273c1eadd858136c47faf5742", checked := Try.checked }
namespace Rows
def none {H : Type} : Left H := { results := [], args := [] }

/-- 'arenanetlaw27.VisibilityRooms': WHATEVER THE INPUT: true; the input reads as it did. -/
def visibilityRoomsSpec : ChangeSpec := { name := "visibilityRooms", fn := fun _ => fun
  | [d1, d2, d3, d4, d5] => { results := [.lit (.bool true)], args := [d1, d2, d3, d4, d5] }
  | _ => none }
def visibilityRoomsRow : OpenClaim := { program := "ytdbngpncigjfiaa", sum := "286c9903c0a513e3e83117f25c34fab91bf811e273c1eadd858136c47faf5742", func := "arenanet/arenanetlaw27.VisibilityRooms", spec := "visibilityRooms", unfollowed := true, recurses := true, apart := false }
def VisibilityRoomsSaid : Prop := visibilityRoomsRow.holds Try.pinned (OpenSpec.ofChange visibilityRoomsSpec)

/-- ITS FALSE NEIGHBOUR: 'it returns false'. Refute it at one input. -/
def visibilityRoomsWrong : ChangeSpec := { name := "visibilityRooms", fn := fun _ => fun
  | [d1, d2, d3, d4, d5] => { results := [.lit (.bool false)], args := [d1, d2, d3, d4, d5] }
  | _ => none }
def VisibilityRoomsWrongFalsely : Prop := visibilityRoomsRow.holds Try.pinned (OpenSpec.ofChange visibilityRoomsWrong)

/-- 'arenanetlaw27.VisibilitySeen': WHATEVER THE INPUT: true; the input reads as it did. -/
def visibilitySeenSpec : ChangeSpec := { name := "visibilitySeen", fn := fun _ => fun
  | [d1, d2, d3, d4, d5] => { results := [.lit (.bool true)], args := [d1, d2, d3, d4, d5] }
  | _ => none }
def visibilitySeenRow : OpenClaim := { program := "ytdbngpncigjfiaa", sum := "286c9903c0a513e3e83117f25c34fab91bf811e273c1eadd858136c47faf5742", func := "arenanet/arenanetlaw27.VisibilitySeen", spec := "visibilitySeen", unfollowed := true, recurses := true, apart := false }
def VisibilitySeenSaid : Prop := visibilitySeenRow.holds Try.pinned (OpenSpec.ofChange visibilitySeenSpec)

/-- ITS FALSE NEIGHBOUR: 'it returns false'. Refute it at one input. -/
def visibilitySeenWrong : ChangeSpec := { name := "visibilitySeen", fn := fun _ => fun
  | [d1, d2, d3, d4, d5] => { results := [.lit (.bool false)], args := [d1, d2, d3, d4, d5] }
  | _ => none }
def VisibilitySeenWrongFalsely : Prop := visibilitySeenRow.holds Try.pinned (OpenSpec.ofChange visibilitySeenWrong)

/-- 'arenanetlaw27.VisibilitySymmetric': WHATEVER THE INPUT: true; the input reads as it did. -/
def visibilitySymmetricSpec : ChangeSpec := { name := "visibilitySymmetric", fn := fun _ => fun
  | [d1, d2, d3] => { results := [.lit (.bool true)], args := [d1, d2, d3] }
  | _ => none }
def visibilitySymmetricRow : OpenClaim := { program := "ytdbngpncigjfiaa", sum := "286c9903c0a513e3e83117f25c34fab91bf811e273c1eadd858136c47faf5742", func := "arenanet/arenanetlaw27.VisibilitySymmetric", spec := "visibilitySymmetric", unfollowed := true, recurses := true, apart := false }
def VisibilitySymmetricSaid : Prop := visibilitySymmetricRow.holds Try.pinned (OpenSpec.ofChange visibilitySymmetricSpec)

/-- ITS FALSE NEIGHBOUR: 'it returns false'. Refute it at one input. -/
def visibilitySymmetricWrong : ChangeSpec := { name := "visibilitySymmetric", fn := fun _ => fun
  | [d1, d2, d3] => { results := [.lit (.bool false)], args := [d1, d2, d3] }
  | _ => none }
def VisibilitySymmetricWrongFalsely : Prop := visibilitySymmetricRow.holds Try.pinned (OpenSpec.ofChange visibilitySymmetricWrong)

/-- 'arenanetlaw27.VisibilityLocal': WHATEVER THE INPUT: true; the input reads as it did. -/
def visibilityLocalSpec : ChangeSpec := { name := "visibilityLocal", fn := fun _ => fun
  | [d1, d2, d3, d4, d5, d6] => { results := [.lit (.bool true)], args := [d1, d2, d3, d4, d5, d6] }
  | _ => none }
def visibilityLocalRow : OpenClaim := { program := "ytdbngpncigjfiaa", sum := "286c9903c0a513e3e83117f25c34fab91bf811e273c1eadd858136c47faf5742", func := "arenanet/arenanetlaw27.VisibilityLocal", spec := "visibilityLocal", unfollowed := true, recurses := true, apart := false }
def VisibilityLocalSaid : Prop := visibilityLocalRow.holds Try.pinned (OpenSpec.ofChange visibilityLocalSpec)

/-- ITS FALSE NEIGHBOUR: 'it returns false'. Refute it at one input. -/
def visibilityLocalWrong : ChangeSpec := { name := "visibilityLocal", fn := fun _ => fun
  | [d1, d2, d3, d4, d5, d6] => { results := [.lit (.bool false)], args := [d1, d2, d3, d4, d5, d6] }
  | _ => none }
def VisibilityLocalWrongFalsely : Prop := visibilityLocalRow.holds Try.pinned (OpenSpec.ofChange visibilityLocalWrong)

/-- 'arenanetlaw27.VisibilityMonotone': WHATEVER THE INPUT: true; the input reads as it did. -/
def visibilityMonotoneSpec : ChangeSpec := { name := "visibilityMonotone", fn := fun _ => fun
  | [d1, d2, d3, d4, d5, d6] => { results := [.lit (.bool true)], args := [d1, d2, d3, d4, d5, d6] }
  | _ => none }
def visibilityMonotoneRow : OpenClaim := { program := "ytdbngpncigjfiaa", sum := "286c9903c0a513e3e83117f25c34fab91bf811e273c1eadd858136c47faf5742", func := "arenanet/arenanetlaw27.VisibilityMonotone", spec := "visibilityMonotone", unfollowed := true, recurses := true, apart := false }
def VisibilityMonotoneSaid : Prop := visibilityMonotoneRow.holds Try.pinned (OpenSpec.ofChange visibilityMonotoneSpec)

/-- ITS FALSE NEIGHBOUR: 'it returns false'. Refute it at one input. -/
def visibilityMonotoneWrong : ChangeSpec := { name := "visibilityMonotone", fn := fun _ => fun
  | [d1, d2, d3, d4, d5, d6] => { results := [.lit (.bool false)], args := [d1, d2, d3, d4, d5, d6] }
  | _ => none }
def VisibilityMonotoneWrongFalsely : Prop := visibilityMonotoneRow.holds Try.pinned (OpenSpec.ofChange visibilityMonotoneWrong)

/-- 'arenanetlaw27.VisibilityFog': WHATEVER THE INPUT: true; the input reads as it did. -/
def visibilityFogSpec : ChangeSpec := { name := "visibilityFog", fn := fun _ => fun
  | [d1, d2, d3] => { results := [.lit (.bool true)], args := [d1, d2, d3] }
  | _ => none }
def visibilityFogRow : OpenClaim := { program := "ytdbngpncigjfiaa", sum := "286c9903c0a513e3e83117f25c34fab91bf811e273c1eadd858136c47faf5742", func := "arenanet/arenanetlaw27.VisibilityFog", spec := "visibilityFog", unfollowed := true, recurses := true, apart := false }
def VisibilityFogSaid : Prop := visibilityFogRow.holds Try.pinned (OpenSpec.ofChange visibilityFogSpec)

/-- ITS FALSE NEIGHBOUR: 'it returns false'. Refute it at one input. -/
def visibilityFogWrong : ChangeSpec := { name := "visibilityFog", fn := fun _ => fun
  | [d1, d2, d3] => { results := [.lit (.bool false)], args := [d1, d2, d3] }
  | _ => none }
def VisibilityFogWrongFalsely : Prop := visibilityFogRow.holds Try.pinned (OpenSpec.ofChange visibilityFogWrong)

/-- 'arenanetlaw27.VisibilityFirst': WHATEVER THE INPUT: true; the input reads as it did. -/
def visibilityFirstSpec : ChangeSpec := { name := "visibilityFirst", fn := fun _ => fun
  | [d1, d2, d3, d4] => { results := [.lit (.bool true)], args := [d1, d2, d3, d4] }
  | _ => none }
def visibilityFirstRow : OpenClaim := { program := "ytdbngpncigjfiaa", sum := "286c9903c0a513e3e83117f25c34fab91bf811e273c1eadd858136c47faf5742", func := "arenanet/arenanetlaw27.VisibilityFirst", spec := "visibilityFirst", unfollowed := true, recurses := true, apart := false }
def VisibilityFirstSaid : Prop := visibilityFirstRow.holds Try.pinned (OpenSpec.ofChange visibilityFirstSpec)

/-- ITS FALSE NEIGHBOUR: 'it returns false'. Refute it at one input. -/
def visibilityFirstWrong : ChangeSpec := { name := "visibilityFirst", fn := fun _ => fun
  | [d1, d2, d3, d4] => { results := [.lit (.bool false)], args := [d1, d2, d3, d4] }
  | _ => none }
def VisibilityFirstWrongFalsely : Prop := visibilityFirstRow.holds Try.pinned (OpenSpec.ofChange visibilityFirstWrong)

/- THE SECOND FORM. 'bulk': how many values and letters a reading holds, each counted each time it is reached (what is shared counts as often as it is met; a slice's spare places count too). A statement '..UptoSaid' is the law's where the arguments, and the package variables that the reading takes, are together of bulk at most 1048576: NARROWER than '..Said'. Prove '..Said' where nothing that the law and all that it calls make is longer than what came in: it says more and counts as full. Else prove '..UptoSaid'. A law counts once. -/
mutual
def uptoBulk {H : Type} : DataW H → Nat
  | .lit (.string bytes) => bytes.length + 1
  | .lit _ => 1
  | .nil => 1
  | .ptr d => uptoBulk d + 1
  | .slice elems spare => uptoBulkAll elems + uptoBulkAll spare + 1
  | .agg parts => uptoBulkAll parts + 1
  | .iface _ d => uptoBulk d + 1
  | .map entries => uptoBulkEntries entries + 1
  | .held _ => 1
def uptoBulkAll {H : Type} : List (DataW H) → Nat
  | [] => 0
  | d :: r => uptoBulk d + uptoBulkAll r
def uptoBulkEntries {H : Type} : List (Lit × DataW H) → Nat
  | [] => 0
  | x :: r => uptoBulkEntry x + uptoBulkEntries r
def uptoBulkEntry {H : Type} : Lit × DataW H → Nat
  | (.string bytes, d) => bytes.length + uptoBulk d + 1
  | (_, d) => uptoBulk d + 1
 end
def uptoSmall : (H : Type) → List (DataW H) → Bool := fun _ ds => decide (uptoBulkAll ds ≤ 1048576)
def OpenSpec.upto (s : _root_.Go.ChangeSpec) : _root_.Go.OpenSpec := { _root_.Go.OpenSpec.ofChange s with cond := some uptoSmall }

/-- 'arenanetlaw27.VisibilityRooms', WHERE WHAT IT READS IS OF BULK AT MOST 1048576: true; the input reads as it did. -/
def visibilityRoomsUptoRow : OpenClaim := { program := "ytdbngpncigjfiaa", sum := "286c9903c0a513e3e83117f25c34fab91bf811e273c1eadd858136c47faf5742", func := "arenanet/arenanetlaw27.VisibilityRooms", spec := "visibilityRooms", unfollowed := true, recurses := true, apart := false, narrowed := true }
def VisibilityRoomsUptoSaid : Prop := visibilityRoomsUptoRow.holds Try.pinned (OpenSpec.upto visibilityRoomsSpec)

/-- 'arenanetlaw27.VisibilitySeen', WHERE WHAT IT READS IS OF BULK AT MOST 1048576: true; the input reads as it did. -/
def visibilitySeenUptoRow : OpenClaim := { program := "ytdbngpncigjfiaa", sum := "286c9903c0a513e3e83117f25c34fab91bf811e273c1eadd858136c47faf5742", func := "arenanet/arenanetlaw27.VisibilitySeen", spec := "visibilitySeen", unfollowed := true, recurses := true, apart := false, narrowed := true }
def VisibilitySeenUptoSaid : Prop := visibilitySeenUptoRow.holds Try.pinned (OpenSpec.upto visibilitySeenSpec)

/-- 'arenanetlaw27.VisibilitySymmetric', WHERE WHAT IT READS IS OF BULK AT MOST 1048576: true; the input reads as it did. -/
def visibilitySymmetricUptoRow : OpenClaim := { program := "ytdbngpncigjfiaa", sum := "286c9903c0a513e3e83117f25c34fab91bf811e273c1eadd858136c47faf5742", func := "arenanet/arenanetlaw27.VisibilitySymmetric", spec := "visibilitySymmetric", unfollowed := true, recurses := true, apart := false, narrowed := true }
def VisibilitySymmetricUptoSaid : Prop := visibilitySymmetricUptoRow.holds Try.pinned (OpenSpec.upto visibilitySymmetricSpec)

/-- 'arenanetlaw27.VisibilityLocal', WHERE WHAT IT READS IS OF BULK AT MOST 1048576: true; the input reads as it did. -/
def visibilityLocalUptoRow : OpenClaim := { program := "ytdbngpncigjfiaa", sum := "286c9903c0a513e3e83117f25c34fab91bf811e273c1eadd858136c47faf5742", func := "arenanet/arenanetlaw27.VisibilityLocal", spec := "visibilityLocal", unfollowed := true, recurses := true, apart := false, narrowed := true }
def VisibilityLocalUptoSaid : Prop := visibilityLocalUptoRow.holds Try.pinned (OpenSpec.upto visibilityLocalSpec)

/-- 'arenanetlaw27.VisibilityMonotone', WHERE WHAT IT READS IS OF BULK AT MOST 1048576: true; the input reads as it did. -/
def visibilityMonotoneUptoRow : OpenClaim := { program := "ytdbngpncigjfiaa", sum := "286c9903c0a513e3e83117f25c34fab91bf811e273c1eadd858136c47faf5742", func := "arenanet/arenanetlaw27.VisibilityMonotone", spec := "visibilityMonotone", unfollowed := true, recurses := true, apart := false, narrowed := true }
def VisibilityMonotoneUptoSaid : Prop := visibilityMonotoneUptoRow.holds Try.pinned (OpenSpec.upto visibilityMonotoneSpec)

/-- 'arenanetlaw27.VisibilityFog', WHERE WHAT IT READS IS OF BULK AT MOST 1048576: true; the input reads as it did. -/
def visibilityFogUptoRow : OpenClaim := { program := "ytdbngpncigjfiaa", sum := "286c9903c0a513e3e83117f25c34fab91bf811e273c1eadd858136c47faf5742", func := "arenanet/arenanetlaw27.VisibilityFog", spec := "visibilityFog", unfollowed := true, recurses := true, apart := false, narrowed := true }
def VisibilityFogUptoSaid : Prop := visibilityFogUptoRow.holds Try.pinned (OpenSpec.upto visibilityFogSpec)

/-- 'arenanetlaw27.VisibilityFirst', WHERE WHAT IT READS IS OF BULK AT MOST 1048576: true; the input reads as it did. -/
def visibilityFirstUptoRow : OpenClaim := { program := "ytdbngpncigjfiaa", sum := "286c9903c0a513e3e83117f25c34fab91bf811e273c1eadd858136c47faf5742", func := "arenanet/arenanetlaw27.VisibilityFirst", spec := "visibilityFirst", unfollowed := true, recurses := true, apart := false, narrowed := true }
def VisibilityFirstUptoSaid : Prop := visibilityFirstUptoRow.holds Try.pinned (OpenSpec.upto visibilityFirstSpec)

end Rows
end Go.Proofs.Ytdbngpncigjfiaa
