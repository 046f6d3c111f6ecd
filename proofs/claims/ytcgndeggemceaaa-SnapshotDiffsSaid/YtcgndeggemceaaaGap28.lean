/- Package snapshot: the closure that gaps returns, for any two indices. -/
import Derived.Test.YtcgndeggemceaaaApp28
import Derived.Test.YtcgndeggemceaaaSnapP
namespace Go.Proofs.Ytcgndeggemceaaa
open Go.RowKit

def gpN (prev k : Int) : Nat := ((k - prev - 1) % 18446744073709551616).toNat
theorem gpN_lt (prev k : Int) : gpN prev k < 18446744073709551616 := by unfold gpN; omega
theorem gpN_up {prev k : Int} (h0 : -1 ≤ prev) (h : prev < k) (h2 : k ≤ 2147483647) : gpN prev k = (k - prev - 1).toNat := by unfold gpN; omega
set_option maxHeartbeats 1000000 in
theorem gap_gen (w : World) (p : Nat) (prev k : Int) (hp : w.heap[p]? = some (.cells #[.int .i64 prev] 3 (0, 0))) (h0 : -1 ≤ prev) (h1 : prev ≤ 2147483647) (h2 : 0 ≤ k) (h3 : k ≤ 2147483647) :
    Calls Try.prog 50 #[.int .i64 k, .pointer (some ⟨p, 0, none⟩)] w fun e w' => e = .returned (.int .u64 ((gpN prev k : Nat) : Int)) ∧ w' = w.setCell ⟨p, 0, none⟩ (.int .i64 k) := by
  have c := cell_blk hp 0
  have f := frozen_blk hp 0
  simp at c
  have hm : IntKind.u64.wrap (k - prev - 1) = ((gpN prev k : Nat) : Int) := by rw [IntKind.wrap_u64]; unfold gpN; omega
  have w1 : IntKind.i64.wrap (k - prev) = k - prev := IntWalk.i64_in _ (by omega)
  have w2 : IntKind.i64.wrap (k - prev - 1) = k - prev - 1 := IntWalk.i64_in _ (by omega)
  obtain ⟨m, hmm⟩ : ∃ m, m = gpN prev k := ⟨_, rfl⟩
  rw [← hmm] at hm ⊢
  clear hp hmm
  go_enter Try.func50, Try.ntmps50
  go_wp2
  go_ret
  exact ⟨rfl, rfl⟩
end Go.Proofs.Ytcgndeggemceaaa
