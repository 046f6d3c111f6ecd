/- Chapter 28, plain: variable-length integers, zigzag. -/
import Derived.Test.YtcgndeggemceaaaMem
namespace Go.Proofs.Ytcgndeggemceaaa
open Go.RowKit

/-- the variable-length encoding of a number -/
def varN (n : Nat) : List Nat := if n < 128 then [n] else (n % 128 + 128) :: varN (n / 128)
termination_by n
decreasing_by omega
theorem varN_lt {n : Nat} (h : n < 128) : varN n = [n] := by rw [varN, if_pos h]
theorem varN_ge {n : Nat} (h : 128 ≤ n) : varN n = (n % 128 + 128) :: varN (n / 128) := by rw [varN, if_neg (by omega)]

def BytesB (l : List Nat) : Prop := ∀ x ∈ l, x < 256
theorem varN_bytes (n : Nat) : BytesB (varN n) := by
  induction n using Nat.strongRecOn with
  | _ n ih =>
    by_cases h : n < 128
    · rw [varN_lt h]; intro x hx; simp at hx; omega
    · rw [varN_ge (by omega)]
      intro x hx
      rcases List.mem_cons.1 hx with h1 | h1
      · omega
      · exact ih (n / 128) (by omega) x h1
theorem varN_len_pos (n : Nat) : 0 < (varN n).length := by
  by_cases h : n < 128
  · rw [varN_lt h]; simp
  · rw [varN_ge (by omega)]; simp
theorem varN_len_le (k : Nat) : ∀ n, n < 128 ^ (k + 1) → (varN n).length ≤ k + 1 := by
  induction k with
  | zero => intro n h; rw [varN_lt (by simpa using h)]; simp
  | succ k ih =>
    intro n h
    by_cases h1 : n < 128
    · rw [varN_lt h1]; simp
    · rw [varN_ge (by omega), List.length_cons]
      have := ih (n / 128) (by rw [Nat.pow_succ] at h; exact Nat.div_lt_of_lt_mul (by rw [Nat.mul_comm]; exact h))
      omega
theorem varN_len {n : Nat} (h : n < 18446744073709551616) : (varN n).length ≤ 10 := varN_len_le 9 n (by omega)

/-- what a read of a number leaves: an error, or the number and what follows -/
inductive Rdr (α : Type) where
  | bad (e : Nat)
  | ok (x : α) (rest : List Nat)

/-- the first groups of a number, i groups in -/
def readG : Nat → Nat → List Nat → Rdr Nat
  | 0, _, _ => .bad 8
  | _ + 1, _, [] => .bad 7
  | k + 1, i, c :: r => if c < 128 then (if (0 < i ∧ c = 0) ∨ (i = 9 ∧ 1 < c) then .bad 8 else .ok c r) else
    match readG k (i + 1) r with
    | .bad e => .bad e
    | .ok m r' => .ok (c % 128 + 128 * m) r'
def readV (b : List Nat) : Rdr Nat := readG 10 0 b

theorem readG_var (k : Nat) : ∀ (i n : Nat) (r : List Nat), i + k = 10 → 0 < k → n * 128 ^ i < 18446744073709551616 → (i = 0 ∨ 0 < n) → readG k i (varN n ++ r) = .ok n r := by
  induction k with
  | zero => intro i n r _ h0; omega
  | succ k ih =>
    intro i n r hik _ hn h0
    by_cases h : n < 128
    · rw [varN_lt h, List.cons_append, List.nil_append, readG, if_pos h, if_neg]
      rintro (⟨h1, h2⟩ | ⟨h1, h2⟩)
      · omega
      · subst h1; omega
    · rw [varN_ge (by omega), List.cons_append, readG, if_neg (by omega)]
      have hk : 0 < k := by
        rcases Nat.eq_zero_or_pos k with h1 | h1
        · subst h1
          have : i = 9 := by omega
          subst this; omega
        · exact h1
      have hn2 : n / 128 * 128 ^ (i + 1) < 18446744073709551616 := by
        have h3 : n / 128 * 128 ≤ n := Nat.div_mul_le_self n 128
        calc n / 128 * 128 ^ (i + 1) = (n / 128 * 128) * 128 ^ i := by rw [Nat.pow_succ, Nat.mul_comm (128 ^ i), ← Nat.mul_assoc]
          _ ≤ n * 128 ^ i := Nat.mul_le_mul_right _ h3
          _ < _ := hn
      rw [ih (i + 1) (n / 128) r (by omega) hk hn2 (.inr (by omega))]
      show Rdr.ok ((n % 128 + 128) % 128 + 128 * (n / 128)) r = _
      congr 1; omega
theorem readV_var {n : Nat} (hn : n < 18446744073709551616) (r : List Nat) : readV (varN n ++ r) = .ok n r := readG_var 10 0 n r rfl (by omega) (by simpa using hn) (.inl rfl)

theorem readG_ok (k : Nat) : ∀ (i : Nat) (b : List Nat) (n : Nat) (r : List Nat), i + k = 10 → BytesB b → readG k i b = .ok n r → b = varN n ++ r ∧ n * 128 ^ i < 18446744073709551616 ∧ (i = 0 ∨ 0 < n) := by
  induction k with
  | zero => intro i b n r _ _ h; cases h
  | succ k ih =>
    intro i b n r hik hb h
    cases b with
    | nil => cases h
    | cons c t =>
      have hc := hb c (by simp)
      rw [readG] at h
      split at h
      · rename_i h1
        split at h
        · cases h
        · rename_i h2
          injection h with e1 e2
          subst e1; subst e2
          refine ⟨by rw [varN_lt h1]; rfl, ?_, by omega⟩
          have hi : i ≤ 9 := by omega
          rcases Nat.lt_or_ge i 9 with h3 | h3
          · have h4 : 128 ^ i ≤ 128 ^ 8 := Nat.pow_le_pow_right (by omega) (by omega)
            have h5 : c * 128 ^ i ≤ 127 * 128 ^ 8 := Nat.mul_le_mul (by omega) h4
            omega
          · have : i = 9 := by omega
            subst this; omega
      · rename_i h1
        split at h
        · cases h
        · rename_i m r' h2
          injection h with e1 e2
          subst e1; subst e2
          obtain ⟨a1, a2, a3⟩ := ih (i + 1) t m _ (by omega) (fun x hx => hb x (by simp [hx])) h2
          have hm : 0 < m := by omega
          refine ⟨?_, ?_, .inr (by omega)⟩
          · rw [varN_ge (by omega), a1, List.cons_append]
            congr 1
            · omega
            · rw [show (c % 128 + 128 * m) / 128 = m by omega]
          · have h3 : c % 128 + 128 * m ≤ 127 + 128 * m := by omega
            have h4 : (c % 128 + 128 * m) * 128 ^ i ≤ (127 + 128 * m) * 128 ^ i := Nat.mul_le_mul_right _ h3
            have h5 : m * 128 ^ (i + 1) = 128 * m * 128 ^ i := by rw [Nat.pow_succ, Nat.mul_comm (128 ^ i), ← Nat.mul_assoc, Nat.mul_comm m]
            rw [h5] at a2
            have hi : i ≤ 8 := by
              rcases Nat.lt_or_ge i 9 with h | h
              · omega
              · have : i = 9 := by omega
                subst this
                have : k = 0 := by omega
                subst this
                cases h2
            have h6 : 18446744073709551616 = 2 * 128 ^ (8 - i) * 128 * 128 ^ i := by
              have : (128 : Nat) ^ (8 - i) * 128 ^ i = 128 ^ 8 := by rw [← Nat.pow_add]; congr 1; omega
              calc 18446744073709551616 = 2 * 128 * 128 ^ 8 := by omega
                _ = 2 * 128 * (128 ^ (8 - i) * 128 ^ i) := by rw [this]
                _ = _ := by rw [← Nat.mul_assoc, Nat.mul_right_comm 2 128]
            have hp : 0 < 128 ^ i := Nat.pow_pos (by omega)
            have h7 : 128 * m < 2 * 128 ^ (8 - i) * 128 := by
              rw [h6] at a2
              exact Nat.lt_of_mul_lt_mul_right a2
            have h8 : m < 2 * 128 ^ (8 - i) := by omega
            have h9 : c % 128 + 128 * m < 2 * 128 ^ (8 - i) * 128 := by omega
            rw [h6]
            exact Nat.mul_lt_mul_of_pos_right h9 hp
theorem readV_ok {b : List Nat} {n : Nat} {r : List Nat} (hb : BytesB b) (h : readV b = .ok n r) : b = varN n ++ r ∧ n < 18446744073709551616 := by
  obtain ⟨h1, h2, -⟩ := readG_ok 10 0 b n r rfl hb h
  exact ⟨h1, by simpa using h2⟩
theorem readG_bad (k : Nat) : ∀ (i : Nat) (b : List Nat) (e : Nat), readG k i b = .bad e → e = 7 ∨ e = 8 := by
  induction k with
  | zero => intro i b e h; cases h; exact .inr rfl
  | succ k ih =>
    intro i b e h
    cases b with
    | nil => cases h; exact .inl rfl
    | cons c t =>
      rw [readG] at h
      split at h
      · split at h
        · cases h; exact .inr rfl
        · cases h
      · split at h
        · rename_i h2; cases h; exact ih _ _ _ h2
        · cases h
theorem readV_bad {b : List Nat} {e : Nat} (h : readV b = .bad e) : e = 7 ∨ e = 8 := readG_bad _ _ _ _ h
theorem readG_short (k : Nat) : ∀ (i n j : Nat), i + k = 10 → 0 < k → n * 128 ^ i < 18446744073709551616 → j < (varN n).length → readG k i ((varN n).take j) = .bad 7 := by
  induction k with
  | zero => intro i n j _ h; omega
  | succ k ih =>
    intro i n j hik _ hn hj
    by_cases h : n < 128
    · rw [varN_lt h] at hj ⊢
      have : j = 0 := by simpa using hj
      subst this; rfl
    · rw [varN_ge (by omega)] at hj ⊢
      cases j with
      | zero => rfl
      | succ j =>
        have hk : 0 < k := by
          rcases Nat.eq_zero_or_pos k with h1 | h1
          · subst h1
            have : i = 9 := by omega
            subst this; omega
          · exact h1
        have hn2 : n / 128 * 128 ^ (i + 1) < 18446744073709551616 := by
          have h3 : n / 128 * 128 ≤ n := Nat.div_mul_le_self n 128
          calc n / 128 * 128 ^ (i + 1) = (n / 128 * 128) * 128 ^ i := by rw [Nat.pow_succ, Nat.mul_comm (128 ^ i), ← Nat.mul_assoc]
            _ ≤ n * 128 ^ i := Nat.mul_le_mul_right _ h3
            _ < _ := hn
        rw [List.take_succ_cons, readG, if_neg (by omega), ih (i + 1) (n / 128) j (by omega) hk hn2 (by simpa using hj)]
theorem readV_short {n j : Nat} (hn : n < 18446744073709551616) (hj : j < (varN n).length) : readV ((varN n).take j) = .bad 7 := readG_short 10 0 n j rfl (by omega) (by simpa using hn) hj

/-- zigzag and back -/
def zz (d : Int) : Nat := if d < 0 then (2 * (-(d + 1)) + 1).toNat else (2 * d).toNat
def uz (n : Nat) : Int := if n % 2 = 1 then -((n / 2 : Nat) : Int) - 1 else ((n / 2 : Nat) : Int)
theorem uz_zz (d : Int) : uz (zz d) = d := by
  unfold uz zz
  split
  · rw [if_pos (by omega)]; omega
  · rw [if_neg (by omega)]; omega
theorem zz_uz (n : Nat) : zz (uz n) = n := by
  unfold uz zz
  split
  · rw [if_pos (by omega)]; omega
  · rw [if_neg (by omega)]; omega
theorem zz_lt {d : Int} (h0 : -9223372036854775808 ≤ d) (h1 : d ≤ 9223372036854775807) : zz d < 18446744073709551616 := by unfold zz; split <;> omega
theorem uz_bound {n : Nat} (h : n < 18446744073709551616) : -9223372036854775808 ≤ uz n ∧ uz n ≤ 9223372036854775807 := by unfold uz; split <;> omega
end Go.Proofs.Ytcgndeggemceaaa
