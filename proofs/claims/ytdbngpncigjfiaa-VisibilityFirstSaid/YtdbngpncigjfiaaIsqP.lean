/- The integer square root, plain: the program's digits, the reference's bisection. -/
import Derived.Lib.BitFns
import Derived.Lib.ItoaNum
namespace Go.Proofs.Ytdbngpncigjfiaa
open Go

/-- r is the root of n, rounded down -/
def IsRoot (n r : Nat) : Prop := r * r ≤ n ∧ n < (r + 1) * (r + 1)
theorem sq_lt_of {a b : Nat} (h : a * a < b * b) : a < b := Decidable.byContradiction fun hn => by
  have := Nat.mul_le_mul (Nat.le_of_not_lt hn) (Nat.le_of_not_lt hn); omega
theorem IsRoot.uniq {n r s : Nat} (hr : IsRoot n r) (hs : IsRoot n s) : r = s := by
  have h1 := sq_lt_of (Nat.lt_of_le_of_lt hr.1 hs.2)
  have h2 := sq_lt_of (Nat.lt_of_le_of_lt hs.1 hr.2)
  omega
theorem IsRoot.le_iff {n r : Nat} (h : IsRoot n r) (f : Nat) : r ≤ f ↔ n < (f + 1) * (f + 1) := by
  constructor
  · intro hf
    exact Nat.lt_of_lt_of_le h.2 (Nat.mul_le_mul (by omega) (by omega))
  · intro hf
    have := sq_lt_of (Nat.lt_of_le_of_lt h.1 hf)
    omega

/-- a place of the digits' loop: a multiple of the unit below which the root is not yet known -/
def Digit (n r k : Nat) : Prop := ∃ m, r = m * 2 ^ k ∧ r * r ≤ n ∧ n < (r + 2 ^ k) * (r + 2 ^ k)
theorem Digit.root {n r : Nat} (h : Digit n r 0) : IsRoot n r := by obtain ⟨m, _, h1, h2⟩ := h; exact ⟨h1, by simpa using h2⟩
theorem Digit.start {n k : Nat} (h : n < 2 ^ k * 2 ^ k) : Digit n 0 k := ⟨0, by simp, by omega, by simpa using h⟩
theorem Digit.or {n r k : Nat} (h : Digit n r (k + 1)) : r ||| 2 ^ k = r + 2 ^ k := by
  obtain ⟨m, rfl, _, _⟩ := h
  have := Nat.two_pow_add_eq_or_of_lt (Nat.pow_lt_pow_right (by omega) (by omega) : 2 ^ k < 2 ^ (k + 1)) m
  rw [Nat.mul_comm m]; exact this.symm
theorem Digit.no {n r k : Nat} (h : Digit n r (k + 1)) (hg : n / (r + 2 ^ k) < r + 2 ^ k) : Digit n r k := by
  obtain ⟨m, hm, h1, _⟩ := h
  refine ⟨2 * m, by rw [hm, Nat.pow_succ]; rw [Nat.mul_comm (2 ^ k) 2, ← Nat.mul_assoc, Nat.mul_comm m 2], h1, ?_⟩
  exact (Nat.div_lt_iff_lt_mul (by have := Nat.two_pow_pos k; omega)).1 hg
theorem Digit.yes {n r k : Nat} (h : Digit n r (k + 1)) (hg : r + 2 ^ k ≤ n / (r + 2 ^ k)) : Digit n (r + 2 ^ k) k := by
  obtain ⟨m, hm, _, h2⟩ := h
  refine ⟨2 * m + 1, by rw [Nat.add_mul, Nat.one_mul, hm, Nat.pow_succ, Nat.mul_comm (2 ^ k) 2, ← Nat.mul_assoc, Nat.mul_comm m 2], ?_, ?_⟩
  · exact (Nat.le_div_iff_mul_le (by have := Nat.two_pow_pos k; omega)).1 hg
  · have e : r + 2 ^ k + 2 ^ k = r + 2 ^ (k + 1) := by rw [Nat.pow_succ]; omega
    rw [e]; exact h2
theorem Digit.no' {n r k N : Nat} (h : Digit n r (k + 1)) (hN : N = r + 2 ^ k) (hg : n / N < N) : Digit n r k := by subst hN; exact h.no hg
theorem Digit.yes' {n r k N : Nat} (h : Digit n r (k + 1)) (hN : N = r + 2 ^ k) (hg : N ≤ n / N) : Digit n N k := by subst hN; exact h.yes hg
theorem Digit.small {n r k : Nat} (h : Digit n r k) (hn : n < 4611686018427387904) : r < 2147483648 := by
  obtain ⟨_, _, h1, _⟩ := h
  exact sq_lt_of (by omega)
theorem bitLen_up (x : Nat) (h : x < 2 ^ 64) : x < 2 ^ Lib.bitLen x := by
  by_cases e : x = 0
  · subst e; exact Nat.two_pow_pos _
  · exact (Lib.bitLenAux_bounds 64 x h e).2.2
theorem Digit.first (n : Nat) (h : n < 2 ^ 64) : Digit n 0 ((Lib.bitLen n + 1) / 2) := by
  refine Digit.start (Nat.lt_of_lt_of_le (bitLen_up n h) ?_)
  rw [← Nat.pow_add]
  exact Nat.pow_le_pow_right (by omega) (by omega)

/-- a place of the bisection -/
def Bis (n lo hi : Nat) : Prop := lo < hi ∧ lo * lo ≤ n ∧ n < hi * hi
theorem Bis.start {n : Nat} (h : n < 4611686018427387904) : Bis n 0 2147483649 := ⟨by omega, by omega, by omega⟩
theorem Bis.root {n lo hi : Nat} (h : Bis n lo hi) (e : hi ≤ lo + 1) : IsRoot n lo := by
  obtain ⟨h0, h1, h2⟩ := h
  have : hi = lo + 1 := by omega
  subst this
  exact ⟨h1, h2⟩
end Go.Proofs.Ytdbngpncigjfiaa
