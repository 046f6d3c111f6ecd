/- The reference's Point. -/
import Derived.Test.YtdbngpncigjfiaaVec
import Derived.Test.YtdbngpncigjfiaaAround
import Derived.Test.YtdbngpncigjfiaaVal
import Derived.RegionTactic
import Derived.ChangeAlike
namespace Go.Proofs.Ytdbngpncigjfiaa
open Go.RowKit

def PointTo (w : World) (e : Ending) (w' : World) : Prop := ∃ x y, inC x ∧ inC y ∧ e = .returned (.agg #[.int .i64 x, .int .i64 y]) ∧ Fr [] w w'
theorem pointTo {w w' : World} {x y : Int} (hx : inC x) (hy : inC y) (hf : Fr [] w w') : PointTo w (.returned (.agg #[.int .i64 x, .int .i64 y])) w' := ⟨x, y, hx, hy, rfl, hf⟩

theorem five (q : Nat) (h : q < 5) : ∃ v : Int, (-1 ≤ v ∧ v ≤ 700) ∧ (#[.int .i64 0, .int .i64 0, .int .i64 1, .int .i64 (-1), .int .i64 700] : Array Value)[q]? = some (.int .i64 v) := by
  rcases (show q = 0 ∨ q = 1 ∨ q = 2 ∨ q = 3 ∨ q = 4 by omega) with rfl | rfl | rfl | rfl | rfl
  · exact ⟨0, by omega, rfl⟩
  · exact ⟨0, by omega, rfl⟩
  · exact ⟨1, by omega, rfl⟩
  · exact ⟨-1, by omega, rfl⟩
  · exact ⟨700, by omega, rfl⟩

set_option maxRecDepth 100000 in
set_option maxHeartbeats 8000000 in
theorem point_any (w : World) (a b : Int) (ha : bounded a) (hb : bounded b) :
    Calls Try.prog 11 #[.int .i64 a, .int .i64 b] w (PointTo w) := by
  obtain ⟨n, hn1, -, hA⟩ := around_nat a 10000000 ha (by omega) (by omega)
  obtain ⟨m, hm1, -, hB⟩ := around_nat b 10000000 hb (by omega) (by omega)
  have HA := Lib.hid hA
  have HB := Lib.hid hB
  obtain ⟨q, hq⟩ : ∃ q : Nat, q = n % 5 := ⟨_, rfl⟩
  obtain ⟨r, hr⟩ : ∃ r : Nat, r = m % 5 := ⟨_, rfl⟩
  have hq5 : q < 5 := by omega
  have hr5 : r < 5 := by omega
  obtain ⟨v, hv, hvq⟩ := five q hq5
  obtain ⟨u, hu, hur⟩ := five r hr5
  have hq5i : (q : Int) < 5 := by omega
  have hr5i : (r : Int) < 5 := by omega
  have tm : ∀ x y : Int, 0 ≤ x → x.tmod y = x % y := fun x y h => Int.tmod_eq_emod_of_nonneg h
  have hqm : (n : Int) % 5 = (q : Int) := by omega
  have hrm : (m : Int) % 5 = (r : Int) := by omega
  have k0 : ∀ w : World, (w.alloc (.cells #[.int .i64 0, .int .i64 0, .int .i64 1, .int .i64 (-1), .int .i64 700] 3)).cell? ⟨w.heap.size, q, none⟩ = some (.int .i64 v) := fun w => (cell_blk (alloc_new w _) q).trans hvq
  have j0 : ∀ w : World, (w.alloc (.cells #[.int .i64 0, .int .i64 0, .int .i64 1, .int .i64 (-1), .int .i64 700] 3)).cell? ⟨w.heap.size, r, none⟩ = some (.int .i64 u) := fun w => (cell_blk (alloc_new w _) r).trans hur
  have k1 : ∀ (w : World) o, ((w.alloc (.cells #[.int .i64 0, .int .i64 0, .int .i64 1, .int .i64 (-1), .int .i64 700] 3)).alloc o).cell? ⟨w.heap.size, q, none⟩ = some (.int .i64 v) := fun w o => (cell_blk (alloc_old (alloc_new w _)) q).trans hvq
  have j1 : ∀ (w : World) o, ((w.alloc (.cells #[.int .i64 0, .int .i64 0, .int .i64 1, .int .i64 (-1), .int .i64 700] 3)).alloc o).cell? ⟨w.heap.size, r, none⟩ = some (.int .i64 u) := fun w o => (cell_blk (alloc_old (alloc_new w _)) r).trans hur
  have k2 : ∀ (w : World) o, ((w.alloc o).alloc (.cells #[.int .i64 0, .int .i64 0, .int .i64 1, .int .i64 (-1), .int .i64 700] 3)).cell? ⟨w.heap.size + 1, q, none⟩ = some (.int .i64 v) := fun w o => (cell_blk (alloc_new2 w o _) q).trans hvq
  have j2 : ∀ (w : World) o, ((w.alloc o).alloc (.cells #[.int .i64 0, .int .i64 0, .int .i64 1, .int .i64 (-1), .int .i64 700] 3)).cell? ⟨w.heap.size + 1, r, none⟩ = some (.int .i64 u) := fun w o => (cell_blk (alloc_new2 w o _) r).trans hur
  have l0 : ∀ h, ([.int .i64 0, .int .i64 0, .int .i64 1, .int .i64 (-1), .int .i64 700] : List Value)[q]'h = .int .i64 v := fun h => by
    have := hvq; simp only [List.getElem?_toArray] at this; rw [List.getElem?_eq_getElem h] at this; injection this
  have l1 : ∀ h, ([.int .i64 0, .int .i64 0, .int .i64 1, .int .i64 (-1), .int .i64 700] : List Value)[r]'h = .int .i64 u := fun h => by
    have := hur; simp only [List.getElem?_toArray] at this; rw [List.getElem?_eq_getElem h] at this; injection this
  clear hA hB hq hr hvq hur k0 k1 k2 j0 j1 j2 tm
  by_cases h8 : (n : Int) % 9 = 8
  · have h8b : ((n : Int) % 9 == 8) = true := beq_iff_eq.2 h8
    clear h8
    go_enter Try.func11, Try.ntmps11
    go_wp2_with fail
    refine (HA.out _).mono ?_
    rintro e w1 ⟨rfl, hw1⟩
    rw [← hw1]
    clear hw1
    go_wp2_with fail
    refine (HB.out _).mono ?_
    rintro e w2 ⟨rfl, hw2⟩
    rw [← hw2]
    clear hw2
    go_wp2_with fail
    refine bodyPost_ret (v := .agg #[.int .i64 ((n : Int) % 2097153 - 1048576), .int .i64 ((m : Int) % 2097153 - 1048576)]) (by simp [results, Try.results11, go_sem]) rfl ?_
    exact pointTo (by unfold inC; omega) (by unfold inC; omega) ((Fr.refl _ _).alloc _)
  · have h8b : ((n : Int) % 9 == 8) = false := beq_eq_false_iff_ne.2 h8
    clear h8
    go_enter Try.func11, Try.ntmps11
    go_wp2_with fail
    refine (HA.out _).mono ?_
    rintro e w1 ⟨rfl, hw1⟩
    rw [← hw1]
    clear hw1
    go_wp2_with fail
    refine (HB.out _).mono ?_
    rintro e w2 ⟨rfl, hw2⟩
    rw [← hw2]
    clear hw2
    go_upto_region 5 with fail
    go_region
    all_goals
      go_wp2_with fail
      refine bodyPost_ret (v := .agg #[.int .i64 ((n : Int) / 9 % 13 * 1500 - 9000 + v), .int .i64 ((m : Int) / 9 % 9 * 1024 - 6000 + u)]) (by simp [results, Try.results11, go_sem]) rfl ?_
      exact pointTo (by unfold inC; omega) (by unfold inC; omega) ((((Fr.refl _ _).alloc _).alloc _).alloc _).drew
end Go.Proofs.Ytdbngpncigjfiaa
