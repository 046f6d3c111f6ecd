/- RinglogOrder returns true. -/
import Derived.Test.YtchigfofcdildaaLaw24a
namespace Go.Proofs.Ytchigfofcdildaa
open Go.RowKit

def one (t : Int) : Sp := { keep := 3, cells := cells6, L := [(t, cells6)] }

theorem zero_push (t : Int) (h : 0 ≤ t) : Sp.push { keep := 3, cells := cells6, L := [] } t = (0, one t) := by
  unfold Sp.push one; rw [if_neg (by omega)]; simp
theorem zero_push_neg (t : Int) (h : t < 0) : Sp.push { keep := 3, cells := cells6, L := [] } t = (6, { keep := 3, cells := cells6, L := [] }) := by
  unfold Sp.push; rw [if_pos h]
theorem zero_rewind (t : Int) : Sp.rewind { keep := 3, cells := cells6, L := [] } t = (24, { keep := 3, cells := cells6, L := [] }) := by
  unfold Sp.rewind; simp
theorem one_newest (t : Int) : (one t).newest = t := by simp [one, Sp.newest]
theorem one_oldest (t : Int) : (one t).oldest = t := by simp [one, Sp.oldest]
theorem one_push_neg (t x : Int) (h : x < 0) : (one t).push x = (6, one t) := by unfold Sp.push; rw [if_pos h]
theorem one_push_no (t x : Int) (h : 0 ≤ x) (h2 : x ≠ t + 1) : (one t).push x = (5, one t) := by
  unfold Sp.push; rw [if_neg (by omega), if_pos ⟨by simp [one], by rw [one_newest]; exact h2⟩]
theorem one_push_yes (t : Int) (h : 0 ≤ t + 1) : (one t).push (t + 1) = (0, { keep := 3, cells := cells6, L := [(t, cells6), (t + 1, cells6)] }) := by
  unfold Sp.push; rw [if_neg (by omega), if_neg (by rw [one_newest]; simp)]; simp [one]
theorem one_rewind (t : Int) : (one t).rewind t = (0, one t) := by
  unfold Sp.rewind; rw [if_neg (by rw [one_oldest]; simp [one]), if_neg (by rw [one_newest]; omega), one_oldest]; simp [one]

set_option maxHeartbeats 1000000 in
theorem order_walk (first tick : Int) (w : World) (h1 : bounded first) (h2 : bounded tick) :
    Calls Try.prog 4 #[.int .i64 first, .int .i64 tick] w fun e w' => e = .returned (.bool true) ∧ Below w.heap.size w w' := by
  obtain ⟨t, ht⟩ : ∃ t, t = around first 1000 := ⟨_, rfl⟩
  have hb := around_lt first (m := 1000) (by omega)
  rw [← ht] at hb
  obtain ⟨b1, b2⟩ := hb
  have HA : ∀ w, Calls Try.prog 10 #[.int .i64 first, .int .i64 1000] w fun e w' => e = .returned (.int .i64 t) ∧ w = w' := fun w => by
    rw [ht]; exact around_any _ _ _ h1.1 h1.2 (by omega) (by omega)
  have HH := Lib.hid HA
  have H2 := Lib.hid h2
  clear HA ht h1 h2
  by_cases c1 : tick = t + 1
  · have c1b : (tick == t + 1) = true := beq_iff_eq.2 c1
    have E5 := Lib.hid (show (one t).push tick = (0, { keep := 3, cells := cells6, L := [(t, cells6), (t + 1, cells6)] }) by rw [c1]; exact one_push_yes t (by omega))
    clear c1
    go_enter Try.func4, Try.ntmps4
    go_wp2_with fail
    refine (made_any w 3 (by omega) (by omega)).mono ?_
    rintro e w1 ⟨p, r, rfl, o1⟩
    go_wp2_with fail
    refine (HH.out _).mono ?_
    rintro e w2 ⟨rfl, rfl⟩
    go_wp2_with fail
    refine (own_push' (o1.mono (Int.le_refl _) (show (-1 : Int) ≤ 2000 by omega)) (-1 - t) (by omega) (by omega) (fun _ => by omega) (zero_push_neg _ (by omega))).mono ?_
    rintro e w3 ⟨rfl, o3⟩
    go_wp2_with fail
    refine (own_newest' o3 (x := -1) rfl).mono ?_
    rintro e w4 ⟨rfl, o4⟩
    go_wp2_with fail
    refine (own_rewind' o4 t (by omega) (zero_rewind t)).mono ?_
    rintro e w5 ⟨rfl, o5⟩
    go_wp2_with fail
    refine (own_push' o5 t (by omega) (by omega) (fun _ => by omega) (zero_push t b1)).mono ?_
    rintro e w6 ⟨rfl, o6⟩
    go_wp2_with fail
    refine (own_push' o6 tick (by omega) (by omega) (fun h => by simp [one] at h) E5.out).mono ?_
    rintro e w7 ⟨rfl, o7⟩
    go_wp2_with fail
    refine (own_newest' o7 (x := t + 1) (by simp [Sp.newest])).mono ?_
    rintro e w8 ⟨rfl, o8⟩
    go_wp2_with fail
    refine (lives_any _).mono ?_
    rintro e w9 ⟨rfl, f9⟩
    go_wp2_with fail
    go_ret
    exact ⟨rfl, (o8.frame.trans f9 (by simp [Ext])).nil⟩
  · have c1b : (tick == t + 1) = false := beq_eq_false_iff_ne.2 c1
    by_cases c2 : tick < 0
    · have E5 := Lib.hid (one_push_neg t tick c2)
      clear c1
      go_enter Try.func4, Try.ntmps4
      go_wp2_with fail
      refine (made_any w 3 (by omega) (by omega)).mono ?_
      rintro e w1 ⟨p, r, rfl, o1⟩
      go_wp2_with fail
      refine (HH.out _).mono ?_
      rintro e w2 ⟨rfl, rfl⟩
      go_wp2_with fail
      refine (own_push' (o1.mono (Int.le_refl _) (show (-1 : Int) ≤ 2000 by omega)) (-1 - t) (by omega) (by omega) (fun _ => by omega) (zero_push_neg _ (by omega))).mono ?_
      rintro e w3 ⟨rfl, o3⟩
      go_wp2_with fail
      refine (own_newest' o3 (x := -1) rfl).mono ?_
      rintro e w4 ⟨rfl, o4⟩
      go_wp2_with fail
      refine (own_rewind' o4 t (by omega) (zero_rewind t)).mono ?_
      rintro e w5 ⟨rfl, o5⟩
      go_wp2_with fail
      refine (own_push' o5 t (by omega) (by omega) (fun _ => by omega) (zero_push t b1)).mono ?_
      rintro e w6 ⟨rfl, o6⟩
      go_wp2_with fail
      refine (own_push' o6 tick (by omega) (by omega) (fun h => by simp [one] at h) E5.out).mono ?_
      rintro e w7 ⟨rfl, o7⟩
      go_wp2_with fail
      refine (own_newest' o7 (one_newest t)).mono ?_
      rintro e w8 ⟨rfl, o8⟩
      go_wp2_with fail
      refine (own_oldest' o8 (one_oldest t)).mono ?_
      rintro e w9 ⟨rfl, o9⟩
      go_wp2_with fail
      refine (own_push' o9 t (by omega) (by omega) (fun h => by simp [one] at h) (one_push_no t t b1 (by omega))).mono ?_
      rintro e w10 ⟨rfl, o10⟩
      go_wp2_with fail
      refine (own_push' o10 (t + 2) (by omega) (by omega) (fun h => by simp [one] at h) (one_push_no t (t + 2) (by omega) (by omega))).mono ?_
      rintro e w11 ⟨rfl, o11⟩
      go_wp2_with fail
      refine (own_rewind' o11 t (by omega) (one_rewind t)).mono ?_
      rintro e w12 ⟨rfl, o12⟩
      go_wp2_with fail
      refine (lives_any _).mono ?_
      rintro e w13 ⟨rfl, f13⟩
      go_wp2_with fail
      go_ret
      exact ⟨rfl, (o12.frame.trans f13 (by simp [Ext])).nil⟩
    · have E5 := Lib.hid (one_push_no t tick (by omega) c1)
      clear c1
      go_enter Try.func4, Try.ntmps4
      go_wp2_with fail
      refine (made_any w 3 (by omega) (by omega)).mono ?_
      rintro e w1 ⟨p, r, rfl, o1⟩
      go_wp2_with fail
      refine (HH.out _).mono ?_
      rintro e w2 ⟨rfl, rfl⟩
      go_wp2_with fail
      refine (own_push' (o1.mono (Int.le_refl _) (show (-1 : Int) ≤ 2000 by omega)) (-1 - t) (by omega) (by omega) (fun _ => by omega) (zero_push_neg _ (by omega))).mono ?_
      rintro e w3 ⟨rfl, o3⟩
      go_wp2_with fail
      refine (own_newest' o3 (x := -1) rfl).mono ?_
      rintro e w4 ⟨rfl, o4⟩
      go_wp2_with fail
      refine (own_rewind' o4 t (by omega) (zero_rewind t)).mono ?_
      rintro e w5 ⟨rfl, o5⟩
      go_wp2_with fail
      refine (own_push' o5 t (by omega) (by omega) (fun _ => by omega) (zero_push t b1)).mono ?_
      rintro e w6 ⟨rfl, o6⟩
      go_wp2_with fail
      refine (own_push' o6 tick (by omega) (by omega) (fun h => by simp [one] at h) E5.out).mono ?_
      rintro e w7 ⟨rfl, o7⟩
      go_wp2_with fail
      refine (own_newest' o7 (one_newest t)).mono ?_
      rintro e w8 ⟨rfl, o8⟩
      go_wp2_with fail
      refine (own_oldest' o8 (one_oldest t)).mono ?_
      rintro e w9 ⟨rfl, o9⟩
      go_wp2_with fail
      refine (own_push' o9 t (by omega) (by omega) (fun h => by simp [one] at h) (one_push_no t t b1 (by omega))).mono ?_
      rintro e w10 ⟨rfl, o10⟩
      go_wp2_with fail
      refine (own_push' o10 (t + 2) (by omega) (by omega) (fun h => by simp [one] at h) (one_push_no t (t + 2) (by omega) (by omega))).mono ?_
      rintro e w11 ⟨rfl, o11⟩
      go_wp2_with fail
      refine (own_rewind' o11 t (by omega) (one_rewind t)).mono ?_
      rintro e w12 ⟨rfl, o12⟩
      go_wp2_with fail
      refine (lives_any _).mono ?_
      rintro e w13 ⟨rfl, f13⟩
      go_wp2_with fail
      go_ret
      exact ⟨rfl, (o12.frame.trans f13 (by simp [Ext])).nil⟩

end Go.Proofs.Ytchigfofcdildaa
