/- OwnP28 (merged by merge.py). -/
import Derived.Test.YtcgndeggemceaaaZ2816
/- Plain: what a view holds of a player's own cells, and what it hides. -/
namespace Go.Proofs.Ytcgndeggemceaaa
open Go.RowKit

def ownB (pl p : Nat) (k : Int) : Bool := k == 0 || (decide (((48 + 4 * p : Nat) : Int) ≤ k) && decide (k < ((48 + 4 * p + 4 : Nat) : Int))) || (decide (((48 + 4 * pl + 8 * p : Nat) : Int) ≤ k) && decide (k < ((48 + 4 * pl + 8 * p + 8 : Nat) : Int)))
theorem cellsAt_mem {cells : List Int} {lo c : Nat} {x : Int × Int} : x ∈ cellsAt cells lo c ↔ ∃ i, i < c ∧ x = (((lo + i : Nat) : Int), cells.getD (lo + i) 0) := by
  unfold cellsAt
  simp only [List.mem_map, List.mem_range]
  exact ⟨fun ⟨i, h, e⟩ => ⟨i, h, e.symm⟩, fun ⟨i, h, e⟩ => ⟨i, h, e.symm⟩⟩
theorem cellsAt_sorted (cells : List Int) (lo c : Nat) : (cellsAt cells lo c).Pairwise fun a b => a.1 < b.1 := by
  unfold cellsAt
  rw [List.pairwise_map]
  refine List.Pairwise.imp ?_ List.pairwise_lt_range
  intro a b h
  show ((lo + a : Nat) : Int) < ((lo + b : Nat) : Int)
  omega
theorem accL_sorted (q : Nat → Bool) (n : Nat) : (accL q n).Pairwise (· < ·) := by
  unfold accL
  rw [List.pairwise_map]
  refine List.Pairwise.imp ?_ (List.Pairwise.filter q (List.pairwise_lt_range (n := n)))
  intro a b h
  omega
section
variable {pl p nb : Nat} {cells : List Int} {q : Nat → Bool}
theorem view_mem {x : Int × Int} (hp : p < pl) (hx : x ∈ viewL pl cells p (accL q nb)) : ∃ k : Nat, x = ((k : Int), cells.getD k 0) ∧ k < 48 + 4 * pl + 8 * nb := by
  unfold viewL at hx
  rcases List.mem_append.1 hx with h | h
  · rcases List.mem_append.1 h with h | h
    · obtain ⟨i, hi, rfl⟩ := cellsAt_mem.1 h
      exact ⟨_, rfl, by omega⟩
    · obtain ⟨i, hi, rfl⟩ := cellsAt_mem.1 h
      exact ⟨_, rfl, by omega⟩
  · obtain ⟨b, hb, h⟩ := List.mem_flatMap.1 h
    obtain ⟨k, hk, -, rfl⟩ := accL_mem.1 hb
    obtain ⟨i, hi, rfl⟩ := cellsAt_mem.1 h
    exact ⟨_, rfl, by omega⟩
theorem view_sorted (hp : p < pl) : (viewL pl cells p (accL q nb)).Pairwise fun a b => a.1 < b.1 := by
  unfold viewL
  rw [List.pairwise_append, List.pairwise_append, List.pairwise_flatMap]
  refine ⟨⟨cellsAt_sorted _ _ _, cellsAt_sorted _ _ _, ?_⟩, ⟨fun b _ => cellsAt_sorted _ _ _, ?_⟩, ?_⟩
  · intro a ha b hb
    obtain ⟨i, hi, rfl⟩ := cellsAt_mem.1 ha
    obtain ⟨j, hj, rfl⟩ := cellsAt_mem.1 hb
    show ((0 + i : Nat) : Int) < ((48 + 4 * p + j : Nat) : Int)
    omega
  · refine List.Pairwise.imp_of_mem ?_ (accL_sorted q nb)
    intro a b ha hb hab x hx y hy
    obtain ⟨k, -, -, rfl⟩ := accL_mem.1 ha
    obtain ⟨k2, -, -, rfl⟩ := accL_mem.1 hb
    obtain ⟨i, hi, rfl⟩ := cellsAt_mem.1 hx
    obtain ⟨j, hj, rfl⟩ := cellsAt_mem.1 hy
    show ((48 + 4 * pl + 8 * (k : Int).toNat + i : Nat) : Int) < ((48 + 4 * pl + 8 * (k2 : Int).toNat + j : Nat) : Int)
    omega
  · intro a ha b hb
    obtain ⟨x, hx, hb⟩ := List.mem_flatMap.1 hb
    obtain ⟨j, hj, rfl⟩ := cellsAt_mem.1 hb
    rcases List.mem_append.1 ha with h | h
    · obtain ⟨i, hi, rfl⟩ := cellsAt_mem.1 h
      show ((0 + i : Nat) : Int) < ((48 + 4 * pl + 8 * x.toNat + j : Nat) : Int)
      omega
    · obtain ⟨i, hi, rfl⟩ := cellsAt_mem.1 h
      show ((48 + 4 * p + i : Nat) : Int) < ((48 + 4 * pl + 8 * x.toNat + j : Nat) : Int)
      omega
theorem count_all {lo c : Nat} {O : Int → Bool} (h : ∀ i, i < c → O ((lo + i : Nat) : Int) = true) : (cellsAt cells lo c).countP (fun x => O x.1) = c := by
  rw [List.countP_eq_length.2, cellsAt_len]
  intro x hx
  obtain ⟨i, hi, rfl⟩ := cellsAt_mem.1 hx
  exact h i hi
theorem count_none {lo c : Nat} {O : Int → Bool} (h : ∀ i, i < c → O ((lo + i : Nat) : Int) = false) : (cellsAt cells lo c).countP (fun x => O x.1) = 0 := by
  rw [List.countP_eq_zero]
  intro x hx
  obtain ⟨i, hi, rfl⟩ := cellsAt_mem.1 hx
  show ¬ O ((lo + i : Nat) : Int) = true
  rw [h i hi]; decide
theorem count_acc (hp : p < pl) (hq : q p = true) : ∀ n, ((accL q n).flatMap fun b => cellsAt cells (48 + 4 * pl + 8 * b.toNat) 8).countP (fun x => ownB pl p x.1) = if p < n then 8 else 0
  | 0 => by simp [accL]
  | n + 1 => by
    have hb : (cellsAt cells (48 + 4 * pl + 8 * (n : Int).toNat) 8).countP (fun x => ownB pl p x.1) = if n = p then 8 else 0 := by
      by_cases e : n = p
      · rw [if_pos e]
        refine count_all (O := ownB pl p) fun i hi => ?_
        unfold ownB
        simp only [Bool.or_eq_true, Bool.and_eq_true, decide_eq_true_eq]
        right
        omega
      · rw [if_neg e]
        refine count_none (O := ownB pl p) fun i hi => ?_
        unfold ownB
        rw [Bool.eq_false_iff]
        simp only [ne_eq, Bool.or_eq_true, Bool.and_eq_true, decide_eq_true_eq, beq_iff_eq]
        omega
    cases hn : q n with
    | true =>
      rw [accL_yes hn, List.flatMap_append, List.countP_append, count_acc hp hq n]
      simp only [List.flatMap_cons, List.flatMap_nil, List.append_nil]
      rw [hb]
      by_cases h1 : p < n
      · rw [if_pos h1, if_neg (by omega), if_pos (by omega)]
      · by_cases h2 : n = p
        · rw [if_neg h1, if_pos h2, if_pos (by omega)]
        · rw [if_neg h1, if_neg h2, if_neg (by omega)]
    | false =>
      rw [accL_no hn, count_acc hp hq n]
      have hne : n ≠ p := fun e => by rw [e, hq] at hn; cases hn
      by_cases h1 : p < n
      · rw [if_pos h1, if_pos (by omega)]
      · rw [if_neg h1, if_neg (by omega)]
theorem view_count (hp : p < pl) (hpn : p < nb) (hq : q p = true) : (viewL pl cells p (accL q nb)).countP (fun x => ownB pl p x.1) = 13 := by
  unfold viewL
  rw [List.countP_append, List.countP_append, count_acc hp hq, if_pos hpn, count_all (O := ownB pl p), count_all (O := ownB pl p)]
  · intro i hi
    unfold ownB
    simp only [Bool.or_eq_true, Bool.and_eq_true, decide_eq_true_eq]
    left; right
    omega
  · intro i hi
    unfold ownB
    have : i = 0 := by omega
    subst this
    rfl
theorem flat8_len : ∀ l : List Int, (l.flatMap fun b => cellsAt cells (48 + 4 * pl + 8 * b.toNat) 8).length = 8 * l.length
  | [] => rfl
  | x :: l => by rw [List.flatMap_cons, List.length_append, flat8_len l, cellsAt_len, List.length_cons]; omega
theorem view_len (hpn : p < nb) (hq : q p = true) : ∃ m, (viewL pl cells p (accL q nb)).length = 13 + 8 * m ∧ m ≤ nb := by
  have h1 := accL_len q nb
  have h2 : 0 < (accL q nb).length := List.length_pos_of_mem (accL_mem.2 ⟨p, hpn, hq, rfl⟩)
  refine ⟨(accL q nb).length - 1, ?_, by omega⟩
  unfold viewL
  rw [List.length_append, List.length_append, flat8_len, cellsAt_len, cellsAt_len]
  omega
end
theorem sees_same {s : St} {rooms : List Bx} {doors : List (Int × Int)} {c d : List Int} {p i : Int} (h1 : posX s c p = posX s d p) (h2 : posY s c p = posY s d p) (h3 : posX s c i = posX s d i) (h4 : posY s c i = posY s d i) :
    seesB s rooms doors c p i = seesB s rooms doors d p i := by
  unfold seesB; rw [h1, h2, h3, h4]
theorem cellsAt_set {cells : List Int} {lo c K : Nat} {v : Int} (h : ∀ i, i < c → K ≠ lo + i) : cellsAt (cells.set K v) lo c = cellsAt cells lo c := by
  unfold cellsAt
  refine List.map_congr_left fun i hi => ?_
  rw [getD_set_ne (h i (List.mem_range.1 hi))]
theorem flat_congr {α β : Type} {f g : α → List β} : ∀ {l : List α}, (∀ x ∈ l, f x = g x) → l.flatMap f = l.flatMap g
  | [], _ => rfl
  | x :: l, h => by rw [List.flatMap_cons, List.flatMap_cons, h x (by simp), flat_congr fun y hy => h y (by simp [hy])]
theorem pos_set {s : St} {cells : List Int} {pl K b : Nat} {v : Int} (hpl : s.players = (pl : Int)) (h : K < 48 + 4 * pl + 8 * b ∨ 48 + 4 * pl + 8 * b + 8 ≤ K) : posX s cells (b : Int) = posX s (cells.set K v) (b : Int) ∧ posY s cells (b : Int) = posY s (cells.set K v) (b : Int) := by
  unfold posX posY
  rw [show (48 + 4 * s.players + 8 * (b : Int)).toNat = 48 + 4 * pl + 8 * b by omega, getD_set_ne (by omega), getD_set_ne (by omega)]
  exact ⟨rfl, rfl⟩
theorem view_hide {s : St} {rooms : List Bx} {doors : List (Int × Int)} {cells : List Int} {pl p nb K : Nat} {v : Int} (hpl : s.players = (pl : Int)) (hnb : s.nb = nb) (hp : p < pl) (hpn : pl ≤ nb) (h0 : K ≠ 0) (how : ¬ (48 + 4 * p ≤ K ∧ K < 48 + 4 * p + 4))
    (hb : ∀ b, b < nb → 48 + 4 * pl + 8 * b ≤ K → K < 48 + 4 * pl + 8 * b + 8 → seesB s rooms doors cells (p : Int) (b : Int) = false ∧ seesB s rooms doors (cells.set K v) (p : Int) (b : Int) = false) :
    viewL pl cells p (seenL s rooms doors cells (p : Int)) = viewL pl (cells.set K v) p (seenL s rooms doors (cells.set K v) (p : Int)) := by
  have hpp : K < 48 + 4 * pl + 8 * p ∨ 48 + 4 * pl + 8 * p + 8 ≤ K := by
    by_cases h : K < 48 + 4 * pl + 8 * p ∨ 48 + 4 * pl + 8 * p + 8 ≤ K
    · exact h
    · exfalso
      have h2 := (hb p (by omega) (by omega) (by omega)).1
      rw [sees_own hpl hp (by omega)] at h2
      cases h2
  have hse : ∀ b, b < nb → seesB s rooms doors cells (p : Int) (b : Int) = seesB s rooms doors (cells.set K v) (p : Int) (b : Int) := fun b hbn => by
    by_cases h : K < 48 + 4 * pl + 8 * b ∨ 48 + 4 * pl + 8 * b + 8 ≤ K
    · have e1 := pos_set (cells := cells) (v := v) hpl hpp
      have e2 := pos_set (cells := cells) (v := v) hpl h
      exact sees_same e1.1 e1.2 e2.1 e2.2
    · have h2 := hb b hbn (by omega) (by omega)
      rw [h2.1, h2.2]
  have hS : seenL s rooms doors cells (p : Int) = seenL s rooms doors (cells.set K v) (p : Int) := by
    unfold seenL
    exact accL_congr fun k hk => hse k (by omega)
  rw [← hS]
  unfold viewL
  rw [cellsAt_set (fun i hi => by omega), cellsAt_set (fun i hi => by omega)]
  congr 1
  refine flat_congr fun b hbm => ?_
  unfold seenL at hbm
  obtain ⟨k, hk, hsee, rfl⟩ := accL_mem.1 hbm
  rw [cellsAt_set]
  intro i hi e
  have h2 := hb k (by omega) (by omega) (by omega)
  rw [h2.1] at hsee
  cases hsee
end Go.Proofs.Ytcgndeggemceaaa
