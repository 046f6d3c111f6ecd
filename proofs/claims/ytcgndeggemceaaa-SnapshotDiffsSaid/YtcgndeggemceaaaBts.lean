/- Slices of bytes as lists of numbers. -/
import Derived.Test.YtcgndeggemceaaaMem
namespace Go.Proofs.Ytcgndeggemceaaa
open Go.RowKit

def bts (l : List Nat) : List Value := l.map fun x : Nat => Value.int .u8 (x : Int)
theorem bts_length (l : List Nat) : (bts l).length = l.length := by simp [bts]
theorem bts_append (l m : List Nat) : bts (l ++ m) = bts l ++ bts m := by simp [bts]
theorem bts_get (l : List Nat) (j : Nat) : (bts l)[j]? = l[j]?.map fun x : Nat => Value.int .u8 (x : Int) := by simp [bts]
theorem bts_one (l : List Nat) : ∀ u ∈ bts l, u.oneCell' = true := by
  intro u hu; simp only [bts, List.mem_map] at hu; obtain ⟨_, _, rfl⟩ := hu; rfl

theorem infoByte : (Try.prog.info? 5).map (fun i => (i.zero, i.size, i.bytes)) = some (some (.int .u8 0), 1, 1) := by kernel_rfl
end Go.Proofs.Ytcgndeggemceaaa
