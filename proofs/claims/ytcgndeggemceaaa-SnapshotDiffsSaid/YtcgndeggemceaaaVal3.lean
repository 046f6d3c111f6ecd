/- Package layout: validMap. -/
import Derived.Test.YtcgndeggemceaaaVal2
namespace Go.Proofs.Ytcgndeggemceaaa
open Go.RowKit

theorem flat_len {α : Type} (f : α → List Value) (k : Nat) (hk : ∀ x, (f x).length = k) : ∀ (l : List α), (l.flatMap f).length = l.length * k
  | [] => by simp
  | x :: l => by rw [List.flatMap_cons, List.length_append, hk, flat_len f k hk l, List.length_cons, Nat.add_mul]; omega
theorem flat_get {α : Type} (f : α → List Value) (k : Nat) (hk : ∀ x, (f x).length = k) : ∀ (l : List α) (i j : Nat) (hi : i < l.length), j < k → (l.flatMap f)[i * k + j]? = (f l[i])[j]?
  | [], _, _, hi, _ => by simp at hi
  | x :: l, 0, j, _, hj => by
    rw [List.flatMap_cons, Nat.zero_mul, Nat.zero_add, List.getElem?_append_left (by rw [hk]; exact hj)]; rfl
  | x :: l, i + 1, j, hi, hj => by
    rw [List.flatMap_cons, List.getElem?_append_right (by rw [hk, Nat.add_mul]; omega), hk, show (i + 1) * k + j - k = i * k + j by rw [Nat.add_mul]; omega]
    exact flat_get f k hk l i j (by simpa using hi) hj

structure Bx where
  x0 : Int
  y0 : Int
  x1 : Int
  y1 : Int
def Bx.cells (b : Bx) : List Value := [.int .i64 b.x0, .int .i64 b.y0, .int .i64 b.x1, .int .i64 b.y1]
def Bx.ok (b : Bx) : Bool := properB b.x0 b.y0 b.x1 b.y1
def drCells (d : Int × Int) : List Value := [.int .i64 d.1, .int .i64 d.2]
def drOk (n : Int) (d : Int × Int) : Bool := (inB 0 n d.1 && inB 0 n d.2) && !(d.1 == d.2)

def mapB (rooms : List Bx) (doors : List (Int × Int)) : Bool := decide (rooms.length ≤ 8) && decide (doors.length ≤ 16) && rooms.all Bx.ok && doors.all (drOk ((rooms.length : Int) - 1))

/-- what a setup's rooms and doors lead to -/
structure MapAt (w : World) (s : St) (rooms : List Bx) (doors : List (Int × Int)) : Prop where
  rn : s.rn = rooms.length
  dn : s.dn = doors.length
  rr : Rd w 4 s.ro rooms.length (rooms.flatMap Bx.cells)
  dr : Rd w 2 s.dO doors.length (doors.flatMap drCells)
theorem MapAt.old {w w' : World} {s : St} {rooms : List Bx} {doors : List (Int × Int)} (h : MapAt w s rooms doors) (hf : Fr [] w w') : MapAt w' s rooms doors := ⟨h.rn, h.dn, h.rr.fr hf (by simp), h.dr.fr hf (by simp)⟩

theorem Rd.room {w : World} {ao : Option Addr} {rooms : List Bx} (h : Rd w 4 ao rooms.length (rooms.flatMap Bx.cells)) {i : Nat} (hi : i < rooms.length) : ∃ g off, ao = some ⟨g, off, none⟩ ∧ g < w.heap.size ∧
    w.cell? ⟨g, off + i * 4, none⟩ = some (.int .i64 rooms[i].x0) ∧ w.cell? ⟨g, off + i * 4 + 1, none⟩ = some (.int .i64 rooms[i].y0) ∧ w.cell? ⟨g, off + i * 4 + 2, none⟩ = some (.int .i64 rooms[i].x1) ∧ w.cell? ⟨g, off + i * 4 + 3, none⟩ = some (.int .i64 rooms[i].y1) := by
  obtain ⟨g, off, ha, hg, hc⟩ := h.at (by omega)
  have key : ∀ j, j < 4 → w.cell? ⟨g, off + (i * 4 + j), none⟩ = (Bx.cells rooms[i])[j]? := fun j hj => by
    rw [hc _ (by omega), flat_get Bx.cells 4 (fun _ => rfl) rooms i j hi hj]
  refine ⟨g, off, ha, hg, ?_, ?_, ?_, ?_⟩
  · have := key 0 (by omega); rw [Nat.add_zero] at this; exact this
  · have := key 1 (by omega); rw [← Nat.add_assoc] at this; exact this
  · have := key 2 (by omega); rw [← Nat.add_assoc] at this; exact this
  · have := key 3 (by omega); rw [← Nat.add_assoc] at this; exact this

theorem Rd.door {w : World} {ao : Option Addr} {doors : List (Int × Int)} (h : Rd w 2 ao doors.length (doors.flatMap drCells)) {i : Nat} (hi : i < doors.length) : ∃ g off, ao = some ⟨g, off, none⟩ ∧ g < w.heap.size ∧
    w.cell? ⟨g, off + i * 2, none⟩ = some (.int .i64 doors[i].1) ∧ w.cell? ⟨g, off + i * 2 + 1, none⟩ = some (.int .i64 doors[i].2) := by
  obtain ⟨g, off, ha, hg, hc⟩ := h.at (by omega)
  have key : ∀ j, j < 2 → w.cell? ⟨g, off + (i * 2 + j), none⟩ = (drCells doors[i])[j]? := fun j hj => by
    rw [hc _ (by omega), flat_get drCells 2 (fun _ => rfl) doors i j hi hj]
  refine ⟨g, off, ha, hg, ?_, ?_⟩
  · have := key 0 (by omega); rw [Nat.add_zero] at this; exact this
  · have := key 1 (by omega); rw [← Nat.add_assoc] at this; exact this

theorem not_all_of {α : Type} {l : List α} {p : α → Bool} {i : Nat} (hi : i < l.length) (h : p l[i] = false) : l.all p = false := by
  rw [List.all_eq_false]
  exact ⟨l[i], List.getElem_mem hi, by rw [h]; simp⟩
theorem all_snoc {α : Type} {l : List α} {p : α → Bool} {i : Nat} (hi : i < l.length) (ht : (l.take i).all p = true) (h : p l[i] = true) : (l.take (i + 1)).all p = true := by
  rw [List.take_succ_eq_append_getElem hi, List.all_append, ht]
  simp [h]

end Go.Proofs.Ytcgndeggemceaaa
