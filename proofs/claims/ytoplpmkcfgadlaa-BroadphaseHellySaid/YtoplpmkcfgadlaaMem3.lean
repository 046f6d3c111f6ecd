/- Package cellmem: contracts of New and Cells. -/
import Derived.Test.YtoplpmkcfgadlaaMem2
namespace Go.Proofs.Ytoplpmkcfgadlaa
open Go.RowKit

section
variable {w : World} {p : Nat} {F : List Nat} {s : MemS}

/-! ### New -/

/-- the block of a row of integers -/
def row (l : List Int) : Obj := .cells (ints l).toArray 3 (0, 0)

theorem row_cell {w : World} {b : Nat} {l : List Int} (h : w.heap[b]? = some (row l)) {k : Nat} (hk : k < l.length) : w.cell? ⟨b, k, none⟩ = some (.int .i64 l[k]) := by
  rw [cell_blk h, List.getElem?_toArray, ints_get, List.getElem?_eq_getElem hk]; rfl

theorem row_frozen {w : World} {b : Nat} {l : List Int} (h : w.heap[b]? = some (row l)) (k : Nat) : w.frozen? ⟨b, k, none⟩ = false := frozen_blk h k

theorem row_set {w : World} {b : Nat} {l : List Int} (h : w.heap[b]? = some (row l)) (k : Nat) (x : Int) : (w.setCell ⟨b, k, none⟩ (.int .i64 x)).heap[b]? = some (row (l.set k x)) := by
  rw [setCell_blk h]
  simp [row, ints]

theorem row_seg {w : World} {b : Nat} {l : List Int} (h : w.heap[b]? = some (row l)) (hm : l.length ≤ maxLen) : Seg w 3 1 (some ⟨b, 0, none⟩) l.length l.length (ints l) :=
  Seg.one b _ _ 1 l.length h (by simp) hm

theorem infoInt : (Try.prog.info? 3).map (fun i => (i.zero, i.size, i.bytes)) = some (some (.int .i64 0), 1, 8) := by kernel_rfl

theorem make_ints (n : Nat) (hn : n ≤ 1099511627776) (u : World) :
    (Instr.makeSlice 28 (.int .i64 n) (.int .i64 n)).run Try.prog u = .ok (.slice (some ⟨u.heap.size, 0, none⟩) n n) (u.alloc (row (List.replicate n 0))) := by
  obtain ⟨i0, hi, hz0, hz1, hz2⟩ := info_parts infoInt
  have h := run_make (P := Try.prog) u 28 3 i0 (.int .i64 0) Try.underlying28 hi hz0 .i64 .i64 n n (by omega) (Int.le_refl _) (by rw [hz2]; omega) (by omega)
  rw [h]
  have e : madeCells (Value.int .i64 0).cells (Int.toNat n * i0.size) = (ints (List.replicate n 0)).toArray := by
    have := toList_madeCells_one (.int .i64 0) n
    rw [hz1, Int.toNat_natCast, Nat.mul_one, ints, List.map_replicate, ← this]
    rfl
  rw [e]
  simp [row]






/-! ### Cells -/

/-- a row of integers has been made at block b; nothing that was there has changed -/
def RowNew (w : World) (b : Nat) (l : List Int) (w' : World) : Prop := w'.heap[b]? = some (row l) ∧ Fr [] w w'

theorem RowNew.step {l : List Int} {k : Nat} {wr : World} (h : RowNew w w.heap.size (l.take k ++ List.replicate (l.length - k) 0) wr) (hk : k < l.length) {x : Int} (hx : x = l[k]) :
    RowNew w w.heap.size (l.take (k + 1) ++ List.replicate (l.length - (k + 1)) 0) (wr.setCell ⟨w.heap.size, k, none⟩ (.int .i64 x)) := by
  obtain ⟨h1, h3⟩ := h
  subst hx
  refine ⟨?_, h3.setCell (.inr (Nat.le_refl _)) _⟩
  rw [row_set h1]
  congr 2
  rw [List.take_succ_eq_append_getElem hk, List.append_assoc, show l.length - k = (l.length - (k + 1)) + 1 by omega, List.replicate_succ, List.set_append_right _ _ (by simp; omega)]
  simp [List.length_take, show min k l.length = k by omega]

theorem MemS.get_lt (s : MemS) {k : Nat} (hk : k < s.cells.length) : s.get k = s.cells[k] := by simp [MemS.get, MemS.has, hk]


end
end Go.Proofs.Ytoplpmkcfgadlaa
