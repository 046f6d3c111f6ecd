/- Package cellmem: contracts of Set, New and Cells. -/
import Derived.Test.YtoplpmkcfgadlaaMem
namespace Go.Proofs.Ytoplpmkcfgadlaa
open Go.RowKit


def MemS.set (s : MemS) (i v : Int) : MemS := if s.has i then { cells := s.cells.set i.toNat v, log := s.log ++ [(i, s.cells.getD i.toNat 0)], base := s.base } else s

section
variable {w : World} {p : Nat} {F : List Nat} {s : MemS}

theorem new_two (w : World) (x y : Value) (t : TypeId) : ∀ j u, [x, y][j]? = some u → (w.alloc (.cells #[x, y] t)).cell? ((⟨w.heap.size, 0, none⟩ : Addr).add j) = some u := by
  intro j u hu
  rw [Addr.add_mid, Nat.zero_add, World.cell?_alloc_new]
  simpa using hu





end
end Go.Proofs.Ytoplpmkcfgadlaa
