/- arenanetref12: in, proper. -/
import Derived.Test.YtlfomhknfpmhbaaGenV12
namespace Go.Proofs.Ytlfomhknfpmhbaa
open Go.RowKit

set_option maxRecDepth 100000 in
set_option maxHeartbeats 2000000 in
theorem rin_any (w : World) (n lo hi : Int) : Calls Try.prog 44 #[.int .i64 n, .int .i64 lo, .int .i64 hi] w fun e w' => e = .returned (.bool (inB lo hi n)) ∧ w' = w := by
  by_cases h1 : lo ≤ n
  · by_cases h2 : n ≤ hi
    · have e : inB lo hi n = true := by simp [inB, h1, h2]
      rw [e]
      go_enter Try.func44, Try.ntmps44
      go_wp2
      go_ret
      exact ⟨rfl, rfl⟩
    · have e : inB lo hi n = false := by simp [inB, h2]
      rw [e]
      go_enter Try.func44, Try.ntmps44
      go_wp2
      go_ret
      exact ⟨rfl, rfl⟩
  · have e : inB lo hi n = false := by simp [inB, h1]
    rw [e]
    go_enter Try.func44, Try.ntmps44
    go_wp2
    go_ret
    exact ⟨rfl, rfl⟩

/-- proper, in the order of the reference -/
theorem properB_eq (x0 y0 x1 y1 : Int) : properB x0 y0 x1 y1 = (decide (x0 ≤ x1) && decide (y0 ≤ y1) && inB (-1048576) 1048576 x0 && inB (-1048576) 1048576 x1 && inB (-1048576) 1048576 y0 && inB (-1048576) 1048576 y1) := by
  unfold properB
  cases decide (x0 ≤ x1) <;> cases decide (y0 ≤ y1) <;> cases inB (-1048576) 1048576 x0 <;> cases inB (-1048576) 1048576 x1 <;> cases inB (-1048576) 1048576 y0 <;> cases inB (-1048576) 1048576 y1 <;> rfl

set_option maxRecDepth 100000 in
set_option maxHeartbeats 4000000 in
theorem rproper_any (w : World) (x0 y0 x1 y1 : Int) : Calls Try.prog 43 #[.agg #[.int .i64 x0, .int .i64 y0, .int .i64 x1, .int .i64 y1]] w fun e w' => e = .returned (.bool (properB x0 y0 x1 y1)) ∧ Fr [] w w' := by
  rw [properB_eq]
  have HF := Lib.hid ((Fr.refl [] w).alloc (.cells #[.int .i64 x0, .int .i64 y0, .int .i64 x1, .int .i64 y1] 25))
  by_cases h1 : x0 ≤ x1
  case neg =>
    rw [decide_eq_false h1]
    go_enter Try.func43, Try.ntmps43
    go_wp2
    go_ret
    exact ⟨rfl, HF.out⟩
  case pos =>
  by_cases h2 : y0 ≤ y1
  case neg =>
    rw [decide_eq_false h2]
    go_enter Try.func43, Try.ntmps43
    go_wp2
    go_ret
    exact ⟨by simp, HF.out⟩
  case pos =>
  rw [decide_eq_true h1, decide_eq_true h2]
  obtain ⟨t1, ht1⟩ : ∃ t, t = inB (-1048576) 1048576 x0 := ⟨_, rfl⟩
  obtain ⟨t2, ht2⟩ : ∃ t, t = inB (-1048576) 1048576 x1 := ⟨_, rfl⟩
  obtain ⟨t3, ht3⟩ : ∃ t, t = inB (-1048576) 1048576 y0 := ⟨_, rfl⟩
  obtain ⟨t4, ht4⟩ : ∃ t, t = inB (-1048576) 1048576 y1 := ⟨_, rfl⟩
  rw [← ht1, ← ht2, ← ht3, ← ht4]
  have H1 := Lib.hid (fun (u : World) => (by rw [ht1]; exact rin_any u x0 _ _ : Calls Try.prog 44 #[.int .i64 x0, .int .i64 (-1048576), .int .i64 1048576] u fun e w' => e = .returned (.bool t1) ∧ w' = u))
  have H2 := Lib.hid (fun (u : World) => (by rw [ht2]; exact rin_any u x1 _ _ : Calls Try.prog 44 #[.int .i64 x1, .int .i64 (-1048576), .int .i64 1048576] u fun e w' => e = .returned (.bool t2) ∧ w' = u))
  have H3 := Lib.hid (fun (u : World) => (by rw [ht3]; exact rin_any u y0 _ _ : Calls Try.prog 44 #[.int .i64 y0, .int .i64 (-1048576), .int .i64 1048576] u fun e w' => e = .returned (.bool t3) ∧ w' = u))
  have H4 := Lib.hid (fun (u : World) => (by rw [ht4]; exact rin_any u y1 _ _ : Calls Try.prog 44 #[.int .i64 y1, .int .i64 (-1048576), .int .i64 1048576] u fun e w' => e = .returned (.bool t4) ∧ w' = u))
  clear ht1 ht2 ht3 ht4
  go_enter Try.func43, Try.ntmps43
  go_wp2_with fail
  refine (H1.out _).mono ?_
  rintro e u1 ⟨rfl, rfl⟩
  cases t1
  · go_wp2_with fail
    go_ret
    exact ⟨rfl, HF.out⟩
  go_wp2_with fail
  refine (H2.out _).mono ?_
  rintro e u1 ⟨rfl, rfl⟩
  cases t2
  · go_wp2_with fail
    go_ret
    exact ⟨rfl, HF.out⟩
  go_wp2_with fail
  refine (H3.out _).mono ?_
  rintro e u1 ⟨rfl, rfl⟩
  cases t3
  · go_wp2_with fail
    go_ret
    exact ⟨rfl, HF.out⟩
  go_wp2_with fail
  refine (H4.out _).mono ?_
  rintro e u1 ⟨rfl, rfl⟩
  cases t4
  · go_wp2_with fail
    go_ret
    exact ⟨rfl, HF.out⟩
  go_wp2_with fail
  go_ret
  exact ⟨rfl, HF.out⟩
end Go.Proofs.Ytlfomhknfpmhbaa
