/- What Motion reads from the initial cells. -/
import Derived.Test.YtdbngpncigjfiaaInitial2
import Derived.Test.YtdbngpncigjfiaaMotion4
namespace Go.Proofs.Ytdbngpncigjfiaa
open Go.RowKit

theorem rows_get (l : List Bd) (i j : Nat) (hi : i < l.length) (hj : j < 8) : (l.flatMap bodyRow)[8 * i + j]? = (bodyRow l[i])[j]? := by
  induction l generalizing i with
  | nil => simp at hi
  | cons d l ih =>
    rw [List.flatMap_cons]
    cases i with
    | zero => rw [List.getElem?_append_left (by simp [bodyRow]; omega)]; simp
    | succ i =>
      rw [List.getElem?_append_right (by simp [bodyRow]; omega), show 8 * (i + 1) + j - (bodyRow d).length = 8 * i + j by simp [bodyRow]; omega]
      have h := ih i (by simpa using hi)
      simpa using h

theorem initL_get (pl : Nat) (bodies : List Bd) (i j : Nat) (hi : i < bodies.length) (hj : j < 8) : (initL pl bodies)[48 + 4 * pl + 8 * i + j]? = (bodyRow bodies[i])[j]? := by
  unfold initL initK
  rw [List.take_length, Nat.sub_self, Nat.mul_zero, List.replicate_zero, List.append_nil, List.getElem?_append_right (by simp; omega), List.length_replicate, show 48 + 4 * pl + 8 * i + j - (48 + 4 * pl) = 8 * i + j by omega]
  exact rows_get bodies i j hi hj

theorem initL_len (pl : Nat) (bodies : List Bd) : (initL pl bodies).length = 48 + 4 * pl + 8 * bodies.length := initK_len pl bodies _ (Nat.le_refl _)

/-- the motion of a body, read from the initial cells, is the setup's -/
theorem mot_init (s : St) (pl : Nat) (hpl : s.players = (pl : Int)) (bodies : List Bd) (hnb : s.nb = bodies.length) (i : Nat) (hi : i < bodies.length) : motOf s bodies (initL pl bodies) (i : Int) = (bodies[i]).motion := by
  have hin : motIn s (initL pl bodies) (i : Int) := ⟨by omega, by rw [hnb]; omega, by rw [initL_len, hpl]; omega⟩
  have hb : (48 + 4 * s.players + 8 * (i : Int)).toNat = 48 + 4 * pl + 8 * i := by rw [hpl]; omega
  have g : ∀ j, j < 8 → (initL pl bodies).getD (48 + 4 * pl + 8 * i + j) 0 = ((bodyRow bodies[i])[j]?).getD 0 := fun j hj => by
    rw [List.getD_eq_getElem?_getD, initL_get pl bodies i j hi hj]
  have g0 := g 0 (by omega)
  have g1 := g 1 (by omega)
  have g2 := g 2 (by omega)
  have g3 := g 3 (by omega)
  simp only [Nat.add_zero] at g0
  unfold motOf
  rw [if_pos hin, Int.toNat_natCast]
  unfold motL
  simp only [hb, g0, g1, g2, g3]
  have hm : (bodies.map (·.im)).getD i 0 = (bodies[i]).im := by rw [List.getD_eq_getElem?_getD, List.getElem?_map, List.getElem?_eq_getElem hi]; rfl
  rw [hm]
  rfl
end Go.Proofs.Ytdbngpncigjfiaa
