/- The integer square root: the program's and the reference's return the root, rounded down. -/
import Derived.Test.YtdbngpncigjfiaaIsqP
import Derived.Test.YtdbngpncigjfiaaBits
import Derived.Test.YtdbngpncigjfiaaShelf27
import Derived.Test.YtdbngpncigjfiaaMem
import Derived.WalkMore
import Derived.Deep.LoopGhost
namespace Go.Proofs.Ytdbngpncigjfiaa
open Go.RowKit Go.Shelf

theorem len_any (x : Int) (w : World) (h0 : 0 ≤ x) (h1 : x ≤ 18446744073709551615) :
    Calls Try.prog 52 #[.int .u64 x] w fun e w' => e = .returned (.int .i64 (Lib.bitLen x.toNat)) ∧ w = w' :=
  (Any.bits_Len lenE x w h0 h1).mono fun _ _ ⟨a, b⟩ => ⟨a, b.symm⟩

/-- what a root's function leaves -/
def RootAt (n : Nat) (w : World) (e : Ending) (w' : World) : Prop := ∃ r : Nat, e = .returned (.int .i64 r) ∧ IsRoot n r ∧ r < 2147483648 ∧ w = w'

theorem IsRoot.small {n r : Nat} (h : IsRoot n r) (hn : n < 4611686018427387904) : r < 2147483648 := by
  have := h.1; exact sq_lt_of (by omega)

theorem w64_in (n : Int) (h0 : -9223372036854775808 ≤ n) (h1 : n ≤ 9223372036854775807) : wrap64 n = n := by unfold wrap64; omega

set_option maxRecDepth 100000 in
set_option maxHeartbeats 4000000 in
theorem rsqrt_any (n : Nat) (w : World) (hn : n < 4611686018427387904) : Calls Try.prog 51 #[.int .i64 n] w (RootAt n w) := by
  go_enter Try.func51, Try.ntmps51
  go_wp2
  go_loop [3, 4] (fun lv hv => ∃ lo hi : Nat, hi ≤ 2147483649 ∧ lv = .int .i64 lo ∧ hv = .int .i64 hi ∧ Bis n lo hi) (fun lv hv => (intOf hv - intOf lv).toNat)
  case atStart => exact ⟨0, 2147483649, by omega, rfl, rfl, Bis.start hn⟩
  case round =>
    obtain ⟨lo, hi, hb, rfl, rfl, hB⟩ := hrel
    have hl := hB.1
    have HB := Lib.hid hB
    clear hB
    by_cases hc : lo + 1 < hi
    · obtain ⟨m, hm⟩ : ∃ m : Nat, m = lo + (hi - lo) / 2 := ⟨_, rfl⟩
      have hmi : (lo : Int) + ((hi : Int) - (lo : Int)) / 2 = (m : Int) := by omega
      have h2 : lo < m := by omega
      have h3 : m < hi := by omega
      have hB := HB.out
      have hq0 : 0 ≤ (m : Int) * (m : Int) := Int.mul_nonneg (by omega) (by omega)
      have hq1 : (m : Int) * (m : Int) ≤ 4611686018427387904 := Int.le_trans (Int.mul_le_mul (by omega : (m : Int) ≤ 2147483648) (by omega : (m : Int) ≤ 2147483648) (by omega) (by omega)) (by omega)
      clear hB
      have HM := Lib.hid hm
      clear hm
      have HMI := Lib.hid hmi
      clear hmi
      by_cases hs : m * m ≤ n
      · have HS := Lib.hid (⟨h3, hs, HB.out.2.2⟩ : Bis n m hi)
        have hsi : (m : Int) * (m : Int) ≤ (n : Int) := by exact_mod_cast hs
        clear hs
        have hmi := HMI.out
        go_wp2
        go_round
        case rel => exact ⟨m, hi, hb, rfl, rfl, HS.out⟩
        case measure => simp [intOf]; omega
      · have HS := Lib.hid (⟨h2, HB.out.2.1, by omega⟩ : Bis n lo m)
        have hsi : (n : Int) < (m : Int) * (m : Int) := by have : n < m * m := by omega
                                                           exact_mod_cast this
        clear hs
        have hmi := HMI.out
        go_wp2
        go_round
        case rel => exact ⟨lo, m, by omega, rfl, rfl, HS.out⟩
        case measure => simp [intOf]; omega
    · have HR := Lib.hid (HB.out.root (by omega))
      go_wp2
      go_ret
      exact ⟨lo, rfl, HR.out, HR.out.small hn, rfl⟩

set_option maxRecDepth 100000 in
set_option maxHeartbeats 4000000 in
theorem sqrt_any (n : Nat) (w : World) (hn : n < 4611686018427387904) : Calls Try.prog 50 #[.int .i64 n] w (RootAt n w) := by
  by_cases h0 : n = 0
  · subst h0
    go_enter Try.func50, Try.ntmps50
    go_wp2
    go_step3
    go_wp2_with fail
    rw [Exit.noGoto_ret]
    go_ret
    exact ⟨0, rfl, ⟨by omega, by omega⟩, by omega, rfl⟩
  · obtain ⟨L, hL⟩ : ∃ L, L = Lib.bitLen n := ⟨_, rfl⟩
    have hL2 : L ≤ 62 := by rw [hL]; exact Lib.bitLen_le n 62 (by omega) (by omega)
    have HF := Lib.hid (by rw [hL]; exact Digit.first n (by omega) : Digit n 0 ((L + 1) / 2))
    have HL := Lib.hid hL
    clear hL
    have hp : 0 < n := by omega
    have hpi : 0 < (n : Int) := by omega
    clear h0
    go_enter Try.func50, Try.ntmps50
    go_wp2_with fail
    go_step3
    go_wp2_with fail
    go_step3
    go_wp2_with (go_at_call 52; refine (len_any _ _ (by omega) (by omega)).mono ?_; rintro e w' ⟨rfl, rfl⟩; rw [Int.toNat_natCast, ← HL.out])
    go_loop [3, 4] (fun rv kv => ∃ r k : Nat, k ≤ 31 ∧ rv = .int .i64 r ∧ kv = .int .i64 ((k : Int) - 1) ∧ Digit n r k) (fun _ kv => (intOf kv + 1).toNat)
    case atStart => exact ⟨0, (L + 1) / 2, by omega, rfl, rfl, HF.out⟩
    case round =>
      obtain ⟨r, k, hk, rfl, rfl, hD⟩ := hrel
      have hr := hD.small hn
      have HD := Lib.hid hD
      clear hD
      cases k with
      | zero =>
        have HR := Lib.hid HD.out.root
        go_wp2
        try rw [Exit.noGoto_ret]
        go_ret
        exact ⟨r, rfl, HR.out, hr, rfl⟩
      | succ j =>
        have hkj : ((j + 1 : Nat) : Int) - 1 = (j : Int) := by omega
        rw [hkj]
        clear hkj
        have hj2 : 2 ^ j ≤ 2 ^ 30 := Nat.pow_le_pow_right (by omega) (by omega)
        have hj1 : 0 < 2 ^ j := Nat.two_pow_pos j
        obtain ⟨N, hN⟩ : ∃ N, N = r + 2 ^ j := ⟨_, rfl⟩
        have hN0 : 0 < N := by omega
        have hN1 : N ≤ 4294967296 := by omega
        have hNi : ¬ (N : Int) = 0 := by omega
        obtain ⟨Q, hQ⟩ : ∃ Q, Q = n / N := ⟨_, rfl⟩
        have hQn : Q ≤ n := by rw [hQ]; exact Nat.div_le_self _ _
        have hw : wrap64 (2 ^ j : Int) = ((2 ^ j : Nat) : Int) := by
          rw [show ((2 : Int) ^ j) = ((2 ^ j : Nat) : Int) by rw [Int.natCast_pow]; rfl]
          exact w64_in _ (by omega) (by omega)
        have hb : bits .or .i64 (r : Int) (wrap64 (2 ^ j)) = (N : Int) := by
          rw [hw, bits_or_i64 r (2 ^ j) (by omega) (by omega), HD.out.or, hN]
        have hq : wrap64 ((n : Int) / (N : Int)) = (Q : Int) := by
          rw [show ((n : Int) / (N : Int)) = ((n / N : Nat) : Int) from (Int.natCast_ediv n N).symm, ← hQ]
          exact w64_in _ (by omega) (by omega)
        by_cases hlt : Q < N
        · have HS := Lib.hid (HD.out.no' hN (by rw [hQ] at hlt; exact hlt))
          have hlti : (Q : Int) < (N : Int) := Int.ofNat_lt.2 hlt
          clear hj2 hj1 hw hN hQ
          go_wp2
          go_round
          case rel => exact ⟨r, j, by omega, rfl, rfl, HS.out⟩
          case measure => simp [intOf]
        · have hge : N ≤ Q := Nat.le_of_not_lt hlt
          have HS := Lib.hid (HD.out.yes' hN (by rw [hQ] at hge; exact hge))
          have hlti : (N : Int) ≤ (Q : Int) := Int.ofNat_le.2 hge
          clear hj2 hj1 hw hN hQ hlt hge
          go_wp2
          go_round
          case rel => exact ⟨N, j, by omega, rfl, rfl, HS.out⟩
          case measure => simp [intOf]
end Go.Proofs.Ytdbngpncigjfiaa
