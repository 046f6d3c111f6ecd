/- Chapter 27, plain: rooms, doors, what is connected. -/
import Derived.Test.YtdbngpncigjfiaaVal3
namespace Go.Proofs.Ytdbngpncigjfiaa
open Go.RowKit

def inBx (b : Bx) (x y : Int) : Bool := decide (b.x0 ≤ x) && decide (x ≤ b.x1) && decide (b.y0 ≤ y) && decide (y ≤ b.y1)
def roomN (rooms : List Bx) (x y : Int) : Nat := rooms.findIdx fun b => inBx b x y
def roomOf (rooms : List Bx) (x y : Int) : Int := if roomN rooms x y < rooms.length then (roomN rooms x y : Int) else -1
/-- no room among the first i holds the point -/
def NoRoom (rooms : List Bx) (x y : Int) (i : Nat) : Prop := ∀ j (h : j < rooms.length), j < i → inBx rooms[j] x y = false

theorem NoRoom.zero (rooms : List Bx) (x y : Int) : NoRoom rooms x y 0 := fun _ _ h => by omega
theorem NoRoom.step {rooms : List Bx} {x y : Int} {i : Nat} (h : NoRoom rooms x y i) (hi : i < rooms.length) (h0 : inBx rooms[i] x y = false) : NoRoom rooms x y (i + 1) := fun j hj hji => by
  by_cases e : j = i
  · subst e; exact h0
  · exact h j hj (by omega)
theorem roomN_hit {rooms : List Bx} {x y : Int} {i : Nat} (h : NoRoom rooms x y i) (hi : i < rooms.length) (h1 : inBx rooms[i] x y = true) : roomN rooms x y = i := by
  unfold roomN
  rw [List.findIdx_eq hi]
  exact ⟨h1, fun j hj => h j (by omega) hj⟩
theorem roomOf_hit {rooms : List Bx} {x y : Int} {i : Nat} (h : NoRoom rooms x y i) (hi : i < rooms.length) (h1 : inBx rooms[i] x y = true) : (i : Int) = roomOf rooms x y := by
  unfold roomOf
  rw [roomN_hit h hi h1, if_pos hi]
theorem roomOf_none {rooms : List Bx} {x y : Int} (h : NoRoom rooms x y rooms.length) : (-1 : Int) = roomOf rooms x y := by
  unfold roomOf
  rw [if_neg]
  intro hlt
  have h1 := List.findIdx_getElem (w := hlt)
  have h2 := h _ hlt hlt
  unfold roomN at h2
  rw [h1] at h2
  cases h2
theorem roomOf_lt (rooms : List Bx) (x y : Int) : -1 ≤ roomOf rooms x y ∧ roomOf rooms x y < (rooms.length : Int) := by
  unfold roomOf
  split <;> omega
theorem inBx_yes {b : Bx} {x y : Int} (h0 : b.x0 ≤ x) (h1 : x ≤ b.x1) (h2 : b.y0 ≤ y) (h3 : y ≤ b.y1) : inBx b x y = true := by simp [inBx, h0, h1, h2, h3]
theorem inBx_no {b : Bx} {x y : Int} (h : ¬ (b.x0 ≤ x ∧ x ≤ b.x1 ∧ b.y0 ≤ y ∧ y ≤ b.y1)) : inBx b x y = false := by
  rw [Bool.eq_false_iff]
  intro h2
  apply h
  simpa [inBx, and_assoc] using h2

def drHas (a b : Int) (d : Int × Int) : Bool := (d.1 == a && d.2 == b) || (d.1 == b && d.2 == a)
def connB (doors : List (Int × Int)) (a b : Int) : Bool := doors.any (drHas a b) || (a == b)
theorem connB_hit {doors : List (Int × Int)} {a b : Int} {i : Nat} (hi : i < doors.length) (h : drHas a b doors[i] = true) : connB doors a b = true := by
  unfold connB
  rw [List.any_eq_true.2 ⟨doors[i], List.getElem_mem hi, h⟩]; rfl
theorem any_snoc {α : Type} {l : List α} {p : α → Bool} {i : Nat} (hi : i < l.length) (ht : (l.take i).any p = false) (h : p l[i] = false) : (l.take (i + 1)).any p = false := by
  rw [List.take_succ_eq_append_getElem hi, List.any_append, ht]
  simp [h]
end Go.Proofs.Ytdbngpncigjfiaa
