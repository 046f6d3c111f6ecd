/- Package cellmem: what a memory is in the heap, and the contracts of its small methods. -/
import Derived.Test.YtoplpmkcfgadlaaProg
import Derived.Test.YtoplpmkcfgadlaaBase
namespace Go.Proofs.Ytoplpmkcfgadlaa
open Go.RowKit

theorem ret_int {k : IntKind} {a b : Int} (h : a = b) : Ending.returned (.int k a) = .returned (.int k b) := by rw [h]
theorem ret_bool {a b : Bool} (h : a = b) : Ending.returned (.bool a) = .returned (.bool b) := by rw [h]

structure MemS where
  cells : List Int
  log : List (Int × Int)
  base : Int

def ints (l : List Int) : List Value := l.map (Value.int .i64)
def pairs (l : List (Int × Int)) : List Value := l.flatMap fun x => [.int .i64 x.1, .int .i64 x.2]

theorem ints_length (l : List Int) : (ints l).length = l.length := by simp [ints]
theorem ints_get (l : List Int) (j : Nat) : (ints l)[j]? = l[j]?.map (Value.int .i64) := by simp [ints]
theorem ints_append (l m : List Int) : ints (l ++ m) = ints l ++ ints m := by simp [ints]
theorem pairs_length (l : List (Int × Int)) : (pairs l).length = l.length * 2 := by
  induction l with
  | nil => rfl
  | cons x l ih => simp only [pairs, List.flatMap_cons, List.length_append, List.length_cons, List.length_nil] at ih ⊢; omega
theorem pairs_append (l m : List (Int × Int)) : pairs (l ++ m) = pairs l ++ pairs m := by simp [pairs]
theorem pairs_cons (x : Int × Int) (m : List (Int × Int)) : pairs (x :: m) = .int .i64 x.1 :: .int .i64 x.2 :: pairs m := by simp [pairs]
theorem pairs_drop (k : Nat) (l : List (Int × Int)) : (pairs l).drop (k * 2) = pairs (l.drop k) := by
  induction l generalizing k with
  | nil => simp [pairs]
  | cons x l ih =>
    cases k with
    | zero => simp
    | succ k => rw [pairs_cons, List.drop_succ_cons, ← ih k, show (k + 1) * 2 = k * 2 + 1 + 1 by omega, List.drop_succ_cons, List.drop_succ_cons]
theorem pairs_take (k : Nat) (l : List (Int × Int)) : (pairs l).take (k * 2) = pairs (l.take k) := by
  induction l generalizing k with
  | nil => simp [pairs]
  | cons x l ih =>
    cases k with
    | zero => simp [pairs]
    | succ k => rw [pairs_cons, List.take_succ_cons, pairs_cons, ← ih k, show (k + 1) * 2 = k * 2 + 1 + 1 by omega, List.take_succ_cons, List.take_succ_cons]
theorem pairs_get0 (l : List (Int × Int)) (k : Nat) : (pairs l)[k * 2]? = l[k]?.map fun x => .int .i64 x.1 := by
  induction l generalizing k with
  | nil => simp [pairs]
  | cons x l ih =>
    cases k with
    | zero => simp [pairs]
    | succ k => rw [pairs_cons, show (k + 1) * 2 = k * 2 + 1 + 1 by omega, List.getElem?_cons_succ, List.getElem?_cons_succ, ih]; simp
theorem pairs_get1 (l : List (Int × Int)) (k : Nat) : (pairs l)[k * 2 + 1]? = l[k]?.map fun x => .int .i64 x.2 := by
  induction l generalizing k with
  | nil => simp [pairs]
  | cons x l ih =>
    cases k with
    | zero => simp [pairs]
    | succ k => rw [pairs_cons, show (k + 1) * 2 = k * 2 + 1 + 1 by omega, List.getElem?_cons_succ, List.getElem?_cons_succ, ih]; simp

theorem ints_one (l : List Int) : ∀ u ∈ ints l, u.oneCell' = true := by
  intro u hu; simp only [ints, List.mem_map] at hu; obtain ⟨_, _, rfl⟩ := hu; rfl
theorem pairs_one (l : List (Int × Int)) : ∀ u ∈ pairs l, u.oneCell' = true := by
  intro u hu; simp only [pairs, List.mem_flatMap] at hu; obtain ⟨x, _, hx⟩ := hu; simp at hx; rcases hx with rfl | rfl <;> rfl








section
variable {w : World} {p : Nat} {F : List Nat} {s : MemS}




def MemS.has (s : MemS) (i : Int) : Bool := decide (0 ≤ i ∧ i < s.cells.length)
def MemS.get (s : MemS) (i : Int) : Int := if s.has i then s.cells.getD i.toNat 0 else 0
def MemS.mark (s : MemS) : Int := s.base + s.log.length





def MemS.check (s : MemS) (m : Int) : Int := if m < s.base then 24 else if s.base + s.log.length < m then 6 else 0

end
end Go.Proofs.Ytoplpmkcfgadlaa
