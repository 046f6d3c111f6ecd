/- LayoutIndices returns true. -/
import Derived.Laws.Closers25b
import Derived.Deep.RegionHeld3
import Derived.Test.YtdbngpncigjfiaaSetup
namespace Go.Proofs.Ytdbngpncigjfiaa
open Go.RowKit

theorem range_blk {w : World} {b : Nat} {c : Array Value} {T : TypeId} {f : Nat × Nat} (h : w.heap[b]? = some (.cells c T f)) : w.rangeAt b 0 c.toList := fun j v hv => by
  rw [Nat.zero_add, cell_blk h, ← Array.getElem?_toList]; exact hv

theorem SetupAt.ok {w w' : World} {s : St} {bodies : List Bd} {doors : List (Int × Int)} (h : SetupAt w w' s bodies doors) : s.Ok := by
  have h1 := h.num.1
  have h2 := h.nb
  have h3 := h.b5
  exact ⟨by omega, by omega, by omega, by omega⟩

end Go.Proofs.Ytdbngpncigjfiaa
