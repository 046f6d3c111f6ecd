/- Plain: valid shapes; the shapes that the generator makes are valid. -/
import Derived.Test.YtlfomhknfpmhbaaEdge12
namespace Go.Proofs.Ytlfomhknfpmhbaa
open Go.RowKit

/-- the vertex at i -/
def vx (l : List (Int × Int)) (i : Nat) : Int × Int := l.getD i (0, 0)
def hitB (l : List (Int × Int)) (i k : Nat) : Bool := k == i || k == nx l.length i || decide (0 < crs (vx l i) (vx l (nx l.length i)) (vx l k))
/-- every other vertex and the origin lie to the left of the edge that starts at i -/
def edgeB (l : List (Int × Int)) (i : Nat) : Bool := decide (0 < crs (vx l i) (vx l (nx l.length i)) (0, 0)) && (List.range l.length).all (hitB l i)
def convB (l : List (Int × Int)) : Bool := (List.range l.length).all (edgeB l)
def withinB (p : Int × Int) : Bool := inB (-32768) 32768 p.1 && inB (-32768) 32768 p.2
/-- shape.Validate -/
def shB (rad : Int) (l : List (Int × Int)) : Bool :=
  if l.length = 0 then decide (1 ≤ rad) && decide (rad ≤ 32768)
  else decide (rad = 0) && decide (3 ≤ l.length) && decide (l.length ≤ 6) && l.all withinB && convB l
def shV (rad : Int) (l : List (Int × Int)) : Int := if shB rad l then 0 else 10
theorem shV_zero (rad : Int) (l : List (Int × Int)) : shV rad l = 0 ↔ shB rad l = true := by
  unfold shV; cases shB rad l <;> simp

/-- points of small components -/
def Smal (b : Int) (p : Int × Int) : Prop := -b ≤ p.1 ∧ p.1 ≤ b ∧ -b ≤ p.2 ∧ p.2 ≤ b
theorem abs_mul {a b m n : Int} (ha : -m ≤ a ∧ a ≤ m) (hb : -n ≤ b ∧ b ≤ n) : -(m * n) ≤ a * b ∧ a * b ≤ m * n := by
  have h1 : a.natAbs ≤ m.toNat := by omega
  have h2 : b.natAbs ≤ n.toNat := by omega
  have h3 := Nat.mul_le_mul h1 h2
  rw [← Int.natAbs_mul] at h3
  have h4 : ((m.toNat * n.toNat : Nat) : Int) = m * n := by
    rw [Int.natCast_mul, Int.toNat_of_nonneg (by omega), Int.toNat_of_nonneg (by omega)]
  omega
theorem crs_small {v x p : Int × Int} (hv : Smal 10000 v) (hx : Smal 10000 x) (hp : Smal 10000 p) : crs v x p = (x.1 - v.1) * (p.2 - v.2) - (x.2 - v.2) * (p.1 - v.1) := by
  obtain ⟨a1, a2, a3, a4⟩ := hv
  obtain ⟨b1, b2, b3, b4⟩ := hx
  obtain ⟨c1, c2, c3, c4⟩ := hp
  have h1 := abs_mul (m := 20000) (n := 20000) (a := x.1 - v.1) (b := p.2 - v.2) (by omega) (by omega)
  have h2 := abs_mul (m := 20000) (n := 20000) (a := x.2 - v.2) (b := p.1 - v.1) (by omega) (by omega)
  unfold crs
  rw [IntWalk.wrap64_in (x.1 - v.1) (by omega), IntWalk.wrap64_in (p.2 - v.2) (by omega), IntWalk.wrap64_in (x.2 - v.2) (by omega), IntWalk.wrap64_in (p.1 - v.1) (by omega),
    IntWalk.wrap64_in ((x.1 - v.1) * (p.2 - v.2)) (by omega), IntWalk.wrap64_in ((x.2 - v.2) * (p.1 - v.1)) (by omega), IntWalk.wrap64_in _ (by omega)]
def scl (r s : Int) (p : Int × Int) : Int × Int := (r * p.1, s * p.2)
theorem scl_small {r s : Int} {p : Int × Int} (hr : 0 < r ∧ r ≤ 2560) (hs : 0 < s ∧ s ≤ 2560) (hp : Smal 2 p) : Smal 10000 (scl r s p) := by
  obtain ⟨a1, a2, a3, a4⟩ := hp
  have h1 := abs_mul (m := 2560) (n := 2) (a := r) (b := p.1) (by omega) (by omega)
  have h2 := abs_mul (m := 2560) (n := 2) (a := s) (b := p.2) (by omega) (by omega)
  unfold Smal scl
  simp only
  omega
theorem crs_scl {r s : Int} {v x p : Int × Int} (hr : 0 < r ∧ r ≤ 2560) (hs : 0 < s ∧ s ≤ 2560) (hv : Smal 2 v) (hx : Smal 2 x) (hp : Smal 2 p) : crs (scl r s v) (scl r s x) (scl r s p) = r * s * crs v x p := by
  have w : ∀ {p : Int × Int}, Smal 2 p → Smal 10000 p := fun ⟨a1, a2, a3, a4⟩ => ⟨by omega, by omega, by omega, by omega⟩
  rw [crs_small (scl_small hr hs hv) (scl_small hr hs hx) (scl_small hr hs hp), crs_small (w hv) (w hx) (w hp)]
  simp only [scl, Int.mul_sub, Int.sub_mul]
  ac_nf
theorem crs_scl_pos {r s : Int} {v x p : Int × Int} (hr : 0 < r ∧ r ≤ 2560) (hs : 0 < s ∧ s ≤ 2560) (hv : Smal 2 v) (hx : Smal 2 x) (hp : Smal 2 p) : (0 < crs (scl r s v) (scl r s x) (scl r s p)) ↔ 0 < crs v x p := by
  rw [crs_scl hr hs hv hx hp]
  have h : 0 < r * s := Int.mul_pos hr.1 hs.1
  constructor
  · intro h1
    refine Int.not_le.1 fun hc => ?_
    have := Int.mul_nonpos_of_nonneg_of_nonpos (Int.le_of_lt h) hc
    omega
  · intro h1
    exact Int.mul_pos h h1
theorem vx_scl (r s : Int) (l : List (Int × Int)) (i : Nat) : vx (l.map (scl r s)) i = scl r s (vx l i) := by
  unfold vx
  rw [List.getD_eq_getElem?_getD, List.getD_eq_getElem?_getD, List.getElem?_map]
  cases l[i]? <;> simp [scl]
theorem vx_small {l : List (Int × Int)} (h : ∀ p ∈ l, Smal 2 p) (i : Nat) : Smal 2 (vx l i) := by
  unfold vx
  rw [List.getD_eq_getElem?_getD]
  cases e : l[i]? with
  | none => exact ⟨by decide, by decide, by decide, by decide⟩
  | some p => exact h p (List.mem_of_getElem? e)
theorem convB_scl {r s : Int} {l : List (Int × Int)} (hr : 0 < r ∧ r ≤ 2560) (hs : 0 < s ∧ s ≤ 2560) (h : ∀ p ∈ l, Smal 2 p) : convB (l.map (scl r s)) = convB l := by
  have h0 : scl r s (0, 0) = (0, 0) := by simp [scl]
  have hz : Smal 2 (0, 0) := ⟨by decide, by decide, by decide, by decide⟩
  unfold convB
  rw [List.length_map]
  congr 1
  funext i
  unfold edgeB
  rw [List.length_map, vx_scl, vx_scl]
  have e1 : decide (0 < crs (scl r s (vx l i)) (scl r s (vx l (nx l.length i))) (0, 0)) = decide (0 < crs (vx l i) (vx l (nx l.length i)) (0, 0)) := by
    rw [decide_eq_decide, ← h0, crs_scl_pos hr hs (vx_small h _) (vx_small h _) hz, h0]
  rw [e1]
  congr 2
  funext k
  unfold hitB
  rw [List.length_map, vx_scl, vx_scl, vx_scl]
  congr 1
  rw [decide_eq_decide, crs_scl_pos hr hs (vx_small h _) (vx_small h _) (vx_small h _)]
def unitOf : Nat → List (Int × Int)
  | 3 => [(-1, -1), (1, -1), (1, 1), (-1, 1)]
  | 5 => [(-1, -1), (1, -1), (0, 1)]
  | _ => [(-2, -1), (2, -1), (2, 1), (-2, 1)]
theorem poly_scl {q : Nat} {r : Int} (hq : q = 3 ∨ q = 5 ∨ q = 6) : polyOf q r = (unitOf q).map (scl r (if q = 6 then 300 else r)) := by
  rcases hq with rfl | rfl | rfl <;> simp [polyOf, unitOf, scl] <;> omega
theorem poly_good {q : Nat} {r : Int} (hq : q = 3 ∨ q = 5 ∨ q = 6) (h1 : 512 ≤ r) (h2 : r ≤ 2560) : shB 0 (polyOf q r) = true := by
  have hs : 0 < (if q = 6 then 300 else r) ∧ (if q = 6 then 300 else r) ≤ 2560 := by split <;> omega
  have hu : ∀ p ∈ unitOf q, Smal 2 p := by
    rcases hq with rfl | rfl | rfl <;> intro p hp <;> simp [unitOf] at hp <;> (rcases hp with rfl | rfl | rfl | rfl) <;> exact ⟨by decide, by decide, by decide, by decide⟩
  have hl : (polyOf q r).length = (unitOf q).length := by rw [poly_scl hq, List.length_map]
  have hl3 : 3 ≤ (unitOf q).length ∧ (unitOf q).length ≤ 6 := by rcases hq with rfl | rfl | rfl <;> decide
  unfold shB
  rw [if_neg (by omega), hl]
  simp only [Bool.and_eq_true, decide_eq_true_eq]
  refine ⟨⟨⟨⟨trivial, hl3.1⟩, hl3.2⟩, ?_⟩, ?_⟩
  · rw [poly_scl hq, List.all_eq_true]
    intro p hp
    obtain ⟨u, hu1, rfl⟩ := List.mem_map.1 hp
    obtain ⟨a1, a2, a3, a4⟩ := scl_small (r := r) ⟨by omega, h2⟩ hs (hu u hu1)
    unfold withinB inB
    rw [Bool.and_eq_true]
    exact ⟨decide_eq_true (by omega), decide_eq_true (by omega)⟩
  · rw [poly_scl hq, convB_scl ⟨by omega, h2⟩ hs hu]
    rcases hq with rfl | rfl | rfl <;> decide +kernel
end Go.Proofs.Ytlfomhknfpmhbaa
