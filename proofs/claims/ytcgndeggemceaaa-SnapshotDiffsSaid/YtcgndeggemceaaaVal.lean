/- Package layout: within, proper, validNumbers, validBody. -/
import Derived.Test.YtcgndeggemceaaaLay
import Derived.Test.YtcgndeggemceaaaRow
namespace Go.Proofs.Ytcgndeggemceaaa
open Go.RowKit

def inB (lo hi x : Int) : Bool := decide (lo ≤ x ∧ x ≤ hi)
def allB (lo hi : Int) (xs : List Int) : Bool := xs.all (inB lo hi)


theorem alloc_new2 (w : World) (o o' : Obj) : ((w.alloc o).alloc o').heap[w.heap.size + 1]? = some o' := by
  have := alloc_new (w.alloc o) o'
  rwa [World.size_alloc] at this


def BX (x0 y0 x1 y1 : Int) : Value := .agg #[.int .i64 x0, .int .i64 y0, .int .i64 x1, .int .i64 y1]
def properB (x0 y0 x1 y1 : Int) : Bool := decide (x0 ≤ x1) && decide (y0 ≤ y1) && (inB (-1048576) 1048576 x0 && inB (-1048576) 1048576 y0 && inB (-1048576) 1048576 x1 && inB (-1048576) 1048576 y1)

end Go.Proofs.Ytcgndeggemceaaa
