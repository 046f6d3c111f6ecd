/- shape: the cross product that tells on which side of an edge a point lies. -/
import Derived.Test.YtlfomhknfpmhbaaLives12
import Derived.Test.YtlfomhknfpmhbaaShapeOf
namespace Go.Proofs.Ytlfomhknfpmhbaa
open Go.RowKit

/-- the cross product as the program computes it -/
def crs (v w p : Int × Int) : Int :=
  wrap64 (wrap64 (wrap64 (w.1 - v.1) * wrap64 (p.2 - v.2)) - wrap64 (wrap64 (w.2 - v.2) * wrap64 (p.1 - v.1)))
def vecV (v : Int × Int) : Value := .agg #[.int .i64 v.1, .int .i64 v.2]

set_option maxRecDepth 100000 in
set_option maxHeartbeats 1000000 in
theorem swithin_any (w : World) (n : Int) : Calls Try.prog 46 #[.int .i64 n] w fun e w' => e = .returned (.bool (inB (-32768) 32768 n)) ∧ w' = w := by
  by_cases h1 : -32768 ≤ n
  · by_cases h2 : n ≤ 32768
    · have e : inB (-32768) 32768 n = true := by simp [inB, h1, h2]
      rw [e]
      go_enter Try.func46, Try.ntmps46
      go_wp2
      go_ret
      exact ⟨rfl, rfl⟩
    · have e : inB (-32768) 32768 n = false := by simp [inB, h2]
      rw [e]
      go_enter Try.func46, Try.ntmps46
      go_wp2
      go_ret
      exact ⟨rfl, rfl⟩
  · have e : inB (-32768) 32768 n = false := by simp [inB, h1]
    rw [e]
    go_enter Try.func46, Try.ntmps46
    go_wp2
    go_ret
    exact ⟨rfl, rfl⟩

set_option maxRecDepth 100000 in
set_option maxHeartbeats 1000000 in
theorem side_any (w : World) (v x : Int × Int) : Calls Try.prog 56 #[vecV v, vecV x] w fun e w' =>
    e = .returned (.func (.func 59) #[] #[.pointer (some ⟨w.heap.size + 1, 0, none⟩), .pointer (some ⟨w.heap.size, 0, none⟩)]) ∧
    w' = (w.alloc (.cells #[.int .i64 v.1, .int .i64 v.2] 29)).alloc (.cells #[.int .i64 x.1, .int .i64 x.2] 29) := by
  unfold vecV
  go_enter Try.func56, Try.ntmps56
  go_wp2
  go_ret
  exact ⟨rfl, rfl⟩

set_option maxRecDepth 100000 in
set_option maxHeartbeats 1000000 in
/-- the query: the closure holds the edge's end (B1) and its start (B2) -/
theorem query_any (w : World) (B1 B2 : Nat) (v x p : Int × Int) (h1 : w.heap[B1]? = some (.cells #[.int .i64 x.1, .int .i64 x.2] 29 (0, 0))) (h2 : w.heap[B2]? = some (.cells #[.int .i64 v.1, .int .i64 v.2] 29 (0, 0))) :
    Calls Try.prog 59 #[vecV p, .pointer (some ⟨B1, 0, none⟩), .pointer (some ⟨B2, 0, none⟩)] w fun e w' => e = .returned (.int .i64 (crs v x p)) ∧ w' = w.alloc (.cells #[.int .i64 p.1, .int .i64 p.2] 29) := by
  unfold vecV crs
  have a0 := cell_blk (alloc_old (o' := .cells #[.int .i64 p.1, .int .i64 p.2] 29) h1) 0
  have a1 := cell_blk (alloc_old (o' := .cells #[.int .i64 p.1, .int .i64 p.2] 29) h1) 1
  have b0 := cell_blk (alloc_old (o' := .cells #[.int .i64 p.1, .int .i64 p.2] 29) h2) 0
  have b1 := cell_blk (alloc_old (o' := .cells #[.int .i64 p.1, .int .i64 p.2] 29) h2) 1
  simp at a0 a1 b0 b1
  go_enter Try.func59, Try.ntmps59
  go_wp2
  go_ret
  exact ⟨rfl, rfl⟩
end Go.Proofs.Ytlfomhknfpmhbaa
