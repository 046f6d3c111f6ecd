/- Package broadphase: Overlap, and the reference's Overlap, Pairs, Same. -/
import Derived.Test.YtoplpmkcfgadlaaBroadW
namespace Go.Proofs.Ytoplpmkcfgadlaa
open Go.RowKit

set_option maxRecDepth 100000 in
set_option maxHeartbeats 1000000 in
theorem ov_any (w : World) (a b : BX) : Calls Try.prog 11 #[bxV a, bxV b] w fun e w' => e = .returned (.bool (a.ov b)) ∧ Fr [] w w' := by
  obtain ⟨a0, a1, a2, a3⟩ := a
  obtain ⟨b0, b1, b2, b3⟩ := b
  unfold bxV BX.ov
  simp only
  have HM := Lib.hid (fun u p q r s => meet_any u p q r s)
  cases hm : meetB a0 a2 b0 b2 with
  | false =>
    rw [Bool.false_and]
    go_enter Try.func11, Try.ntmps11
    go_wp2_with (go_at_call 25; refine (HM.out _ _ _ _ _).mono ?_; rintro r w' ⟨rfl, rfl⟩)
    go_ret
    exact ⟨rfl, ((Fr.refl [] w).alloc _).alloc _⟩
  | true =>
    rw [Bool.true_and]
    go_enter Try.func11, Try.ntmps11
    go_wp2_with (go_at_call 25; refine (HM.out _ _ _ _ _).mono ?_; rintro r w' ⟨rfl, rfl⟩)
    go_ret
    exact ⟨rfl, ((Fr.refl [] w).alloc _).alloc _⟩

theorem ok_max {a b : BX} (ha : a.ok) (hb : b.ok) : a.ov b = (decide (max a.x0 b.x0 ≤ min a.x1 b.x1) && decide (max a.y0 b.y0 ≤ min a.y1 b.y1)) := by
  unfold BX.ov meetB
  obtain ⟨h1, h2⟩ := ha
  obtain ⟨h3, h4⟩ := hb
  rw [Bool.eq_iff_iff]
  simp only [Bool.and_eq_true, decide_eq_true_eq]
  omega

set_option maxRecDepth 100000 in
set_option maxHeartbeats 1000000 in
theorem rov_any (w : World) (a b : BX) (ha : a.ok) (hb : b.ok) : Calls Try.prog 12 #[bxV a, bxV b] w fun e w' => e = .returned (.bool (a.ov b)) ∧ Fr [] w w' := by
  rw [ok_max ha hb]
  obtain ⟨a0, a1, a2, a3⟩ := a
  obtain ⟨b0, b1, b2, b3⟩ := b
  unfold bxV
  simp only
  obtain ⟨M0, h0⟩ : ∃ M, M = max a0 b0 := ⟨_, rfl⟩
  obtain ⟨M1, h1⟩ : ∃ M, M = max a1 b1 := ⟨_, rfl⟩
  obtain ⟨m0, h2⟩ : ∃ M, M = min a2 b2 := ⟨_, rfl⟩
  obtain ⟨m1, h3⟩ : ∃ M, M = min a3 b3 := ⟨_, rfl⟩
  rw [← h0, ← h1, ← h2, ← h3]
  have g0 := h0.symm
  have g1 := h1.symm
  have g2 := h2.symm
  have g3 := h3.symm
  clear h0 h1 h2 h3 ha hb
  by_cases hm : M0 ≤ m0
  · rw [decide_eq_true hm, Bool.true_and]
    go_enter Try.func12, Try.ntmps12
    go_wp2
    go_ret
    exact ⟨rfl, ((Fr.refl [] w).alloc _).alloc _⟩
  · rw [decide_eq_false hm, Bool.false_and]
    go_enter Try.func12, Try.ntmps12
    go_wp2
    go_ret
    exact ⟨rfl, ((Fr.refl [] w).alloc _).alloc _⟩
end Go.Proofs.Ytoplpmkcfgadlaa
