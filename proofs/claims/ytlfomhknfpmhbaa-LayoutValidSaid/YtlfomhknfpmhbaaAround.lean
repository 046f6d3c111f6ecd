/- arenanetref01.Around. -/
import Derived.OpenShut
import Derived.Test.YtlfomhknfpmhbaaProg
import Derived.Test.YtlfomhknfpmhbaaBase
namespace Go.Proofs.Ytlfomhknfpmhbaa
open Go.RowKit

def around (n most : Int) : Int := (if n < 0 then -(n + 1) else n) % most

theorem around_any (n m : Int) (w : World) (h1 : -9223372036854775808 ≤ n) (h2 : n ≤ 9223372036854775807) (h3 : 1 ≤ m) (h4 : m ≤ 9223372036854775807) :
    Calls Try.prog 16 #[.int .i64 n, .int .i64 m] w fun e w' => e = .returned (.int .i64 (around n m)) ∧ w = w' := by
  by_cases hn : n < 0
  · go_enter Try.func16, Try.ntmps16
    go_wp2
    go_ret
    exact ⟨congrArg (fun x => Ending.returned (.int .i64 x)) (by rw [around, if_pos hn, ← Int.neg_tmod, Int.tmod_eq_emod_of_nonneg (by omega)]), rfl⟩
  · go_enter Try.func16, Try.ntmps16
    go_wp2
    go_ret
    exact ⟨congrArg (fun x => Ending.returned (.int .i64 x)) (by rw [around, if_neg (by omega)]), rfl⟩

theorem around_lt (n : Int) {m : Int} (h : 0 < m) : 0 ≤ around n m ∧ around n m < m := ⟨Int.emod_nonneg _ (by omega), Int.emod_lt_of_pos _ h⟩

def bounded (n : Int) : Prop := -9223372036854775808 ≤ n ∧ n ≤ 9223372036854775807
theorem wf_bounded {n : Int} (h : (Lit.int .i64 n).wf = true) : bounded n := by
  have := Go.bounds_i64 h
  exact ⟨by omega, by omega⟩

/-- Around, as a natural number below most -/
theorem around_nat (n : Int) (m : Nat) (hn : bounded n) (h3 : 1 ≤ m) (h4 : m ≤ 9223372036854775807) :
    ∃ k : Nat, k < m ∧ (k : Int) = around n m ∧ ∀ w, Calls Try.prog 16 #[.int .i64 n, .int .i64 m] w fun e w' => e = .returned (.int .i64 (k : Int)) ∧ w = w' := by
  obtain ⟨k, hk⟩ := Int.eq_ofNat_of_zero_le (around_lt n (m := (m : Int)) (by omega)).1
  have := (around_lt n (m := (m : Int)) (by omega)).2
  exact ⟨k, by omega, hk.symm, fun w => hk ▸ around_any n m w hn.1 hn.2 (by omega) (by omega)⟩
end Go.Proofs.Ytlfomhknfpmhbaa
