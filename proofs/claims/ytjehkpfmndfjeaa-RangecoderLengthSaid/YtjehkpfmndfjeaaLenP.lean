/- Plain laws of lengths: what Decode says of a length alone, cut, or with surplus digits. -/
import Derived.Test.YtjehkpfmndfjeaaRc
namespace Go.Proofs.Ytjehkpfmndfjeaa

theorem digits_split (n : Nat) : ∃ (I : List Nat) (d : Nat), digits n = I ++ [d] ∧ d < 128 ∧ ∀ x ∈ I, 128 ≤ x ∧ x < 256 := by
  induction n using Nat.strongRecOn with
  | ind n ih =>
    by_cases h : n < 128
    · exact ⟨[], n, by rw [digits, dif_pos h]; rfl, h, by simp⟩
    · obtain ⟨I, d, h1, h2, h3⟩ := ih (n / 128) (by omega)
      refine ⟨(n % 128 + 128) :: I, d, by rw [digits, dif_neg h, h1]; rfl, h2, fun x hx => ?_⟩
      rcases List.mem_cons.1 hx with rfl | hx
      · omega
      · exact h3 x hx

theorem readLen_low : ∀ (l : List Nat) (k i a : Nat), (∀ x ∈ l, 128 ≤ x) → readLen k i a l = (0, [], 7)
  | [], k, i, a, _ => by cases k <;> rfl
  | x :: l, 0, i, a, _ => rfl
  | x :: l, k + 1, i, a, h => by
    have hx := h x (by simp)
    rw [readLen, if_neg (by omega)]
    exact readLen_low l k (i + 1) _ fun y hy => h y (by simp [hy])

theorem readLen_high : ∀ (l : List Nat) (k i a : Nat), (∀ x ∈ l, 128 ≤ x) → 0 < i + l.length → (readLen k i a (l ++ [0])).2.2 = if l.length < k then 8 else 7
  | [], 0, i, a, _, _ => rfl
  | [], k + 1, i, a, _, h => by
    simp only [List.length_nil, Nat.add_zero] at h
    rw [List.nil_append, readLen, if_pos (by omega), if_pos ⟨h, rfl⟩, if_pos (by simp)]
  | x :: l, 0, i, a, _, _ => rfl
  | x :: l, k + 1, i, a, h, _ => by
    have hx := h x (by simp)
    rw [List.cons_append, readLen, if_neg (by omega), readLen_high l k (i + 1) _ (fun y hy => h y (by simp [hy])) (by omega)]
    simp

theorem dec_err {l : List Nat} (h : (readLen 5 0 0 l).2.2 ≠ 0) : dec l = ([], (readLen 5 0 0 l).2.2) := by unfold dec; rw [if_neg h]

/-- a length alone -/
theorem dec_digits (k : Nat) (hk : k < 128 ^ 5) : (dec (digits k)).2 = if k = 0 then 0 else if 4000 < k then 2 else 8 := by
  have h := readLen_digits 4 0 0 k [] hk (by omega)
  simp only [List.append_nil, Nat.zero_add, Nat.pow_zero, Nat.mul_one] at h
  unfold dec
  rw [h]
  simp only [if_true]
  by_cases h0 : k = 0
  · subst h0
    have h1 : enc ((ds0 []).bytes 0) = digits 0 := by simp [enc, Ds.bytes]
    rw [if_neg (by omega), if_pos h1, if_pos rfl]
  · rw [if_neg h0]
    by_cases h4 : 4000 < k
    · rw [if_pos h4, if_pos h4]
    · rw [if_neg h4, if_neg h4, if_neg]
      intro he
      have h1 := congrArg List.length he
      have hl : ((ds0 []).bytes k).length = k := Ds.bytes_length _ _
      unfold enc at h1
      rw [hl, if_neg (by intro h2; rw [h2] at hl; simp at hl; omega), List.length_append] at h1
      have := emit_len (((ds0 []).bytes k).flatMap bitsOf) md0
      omega

/-- a length cut short -/
theorem dec_cut (k j : Nat) (hj : j < (digits k).length) : dec ((digits k).take j) = ([], 7) := by
  obtain ⟨I, d, h1, h2, h3⟩ := digits_split k
  rw [h1, List.length_append] at hj
  simp only [List.length_cons, List.length_nil] at hj
  have h4 : readLen 5 0 0 ((digits k).take j) = (0, [], 7) := readLen_low _ _ _ _ fun x hx => by
    rw [h1, List.take_append_of_le_length (by omega)] at hx
    exact (h3 x (List.mem_of_mem_take hx)).1
  rw [dec_err (by rw [h4]; decide), h4]

/-- a length with surplus digits: the last digit raised by 128, s times 128, a zero -/
theorem dec_surplus (l : List Nat) (hl : ∀ x ∈ l, 128 ≤ x) (h0 : 0 < l.length) : dec (l ++ [0]) = ([], if l.length < 5 then 8 else 7) := by
  have h := readLen_high l 5 0 0 hl (by omega)
  have hne : (readLen 5 0 0 (l ++ [0])).2.2 ≠ 0 := by rw [h]; split <;> decide
  rw [dec_err hne, h]
end Go.Proofs.Ytjehkpfmndfjeaa
