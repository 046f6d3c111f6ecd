/- Package layout: Initial. -/
import Derived.BigRegion
import Derived.Test.YtdbngpncigjfiaaMotion
namespace Go.Proofs.Ytdbngpncigjfiaa
open Go.RowKit

def bodyRow (d : Bd) : List Int := [d.px, d.py, d.vx, d.vy, d.a, d.b, 0, 0]
def initK (pl : Nat) (bodies : List Bd) (i : Nat) : List Int := (List.replicate (48 + 4 * pl) 0 ++ (bodies.take i).flatMap bodyRow) ++ List.replicate (8 * (bodies.length - i)) 0
def initL (pl : Nat) (bodies : List Bd) : List Int := initK pl bodies bodies.length

theorem rows_len (l : List Bd) : (l.flatMap bodyRow).length = 8 * l.length := by
  induction l with
  | nil => rfl
  | cons d l ih => rw [List.flatMap_cons, List.length_append, ih]; simp [bodyRow]; omega
theorem initK_len (pl : Nat) (bodies : List Bd) (i : Nat) (hi : i ≤ bodies.length) : (initK pl bodies i).length = 48 + 4 * pl + 8 * bodies.length := by
  unfold initK
  rw [List.length_append, List.length_append, rows_len, List.length_take]
  simp; omega
theorem initK_zero (pl : Nat) (bodies : List Bd) : initK pl bodies 0 = List.replicate (48 + 4 * pl + 8 * bodies.length) 0 := by
  unfold initK
  simp only [List.take_zero, List.flatMap_nil, List.append_nil, Nat.sub_zero]
  rw [List.replicate_append_replicate]
theorem set_far (A L : List Int) (j : Nat) (x : Int) : (A ++ L).set (A.length + j) x = A ++ L.set j x := by
  rw [List.set_append_right _ _ (by omega)]; congr 2; omega
theorem initK_head (pl : Nat) (bodies : List Bd) (i : Nat) (hi : i < bodies.length) : (List.replicate (48 + 4 * pl) (0 : Int) ++ (bodies.take i).flatMap bodyRow).length = 48 + 4 * pl + 8 * i := by
  rw [List.length_append, rows_len, List.length_take]; simp; omega
theorem initK_step (pl : Nat) (bodies : List Bd) (i : Nat) (hi : i < bodies.length) (b : Nat) (hb : b = 48 + 4 * pl + 8 * i) (d : Bd) (hd : d = bodies[i]) :
    ((((((initK pl bodies i).set b d.px).set (b + 1) d.py).set (b + 2) d.vx).set (b + 3) d.vy).set (b + 4) d.a).set (b + 5) d.b = initK pl bodies (i + 1) := by
  have hl := initK_head pl bodies i hi
  unfold initK
  rw [List.take_succ_eq_append_getElem hi, List.flatMap_append, ← hd]
  obtain ⟨A, hA⟩ : ∃ A, A = List.replicate (48 + 4 * pl) (0 : Int) ++ (bodies.take i).flatMap bodyRow := ⟨_, rfl⟩
  rw [← List.append_assoc, ← hA]
  rw [← hA] at hl
  rw [hb, ← hl, show 8 * (bodies.length - i) = 8 * (bodies.length - (i + 1)) + 1 + 1 + 1 + 1 + 1 + 1 + 1 + 1 by omega]
  simp only [List.replicate_succ]
  have h0 : ∀ L x, (A ++ L).set A.length x = A ++ L.set 0 x := fun L x => by have h := set_far A L 0 x; rwa [Nat.add_zero] at h
  simp only [h0, set_far]
  simp [bodyRow]

theorem Bd.flat_get (bodies : List Bd) (k j : Nat) (hk : k < bodies.length) (hj : j < 9) : (bodies.flatMap Bd.cells)[k * 9 + j]? = ((bodies[k]).cells)[j]? := by
  induction bodies generalizing k with
  | nil => simp at hk
  | cons d l ih =>
    rw [List.flatMap_cons]
    cases k with
    | zero => rw [List.getElem?_append_left (by simp [Bd.cells]; omega)]; simp
    | succ k =>
      rw [List.getElem?_append_right (by simp [Bd.cells]; omega)]
      have h := ih k (by simpa using hk)
      rw [show (k + 1) * 9 + j - d.cells.length = k * 9 + j by simp [Bd.cells]; omega]
      simpa using h

/-- the bodies as far as i are laid -/
def InitQ (w : World) (s : St) (pl : Nat) (bodies : List Bd) (bs bu i : Nat) (wr : World) : Prop :=
  wr.heap[bu]? = some (row (initK pl bodies i)) ∧ wr.heap[bs]? = some (.cells #[.int .i64 s.players, .slice s.bo s.nb s.bc, .int .i64 s.x0, .int .i64 s.y0, .int .i64 s.x1, .int .i64 s.y1, .slice s.ro s.rn s.rc, .slice s.dO s.dn s.dc, .int .i64 s.fog, .int .i64 s.gx, .int .i64 s.gy, .int .i64 s.push, .int .i64 s.drag, .int .i64 s.rest, .int .i64 s.rounds, .int .i64 s.fuel] 31 (0, 0)) ∧ Fr [] w wr

end Go.Proofs.Ytdbngpncigjfiaa
