/- BroadphasePermuted, plain; two lists of pairs that grow beside each other. -/
import Derived.Test.YtoplpmkcfgadlaaBroadB
namespace Go.Proofs.Ytoplpmkcfgadlaa
open Go.RowKit

def rowG (p : Nat → Nat → Bool) (i m : Nat) : List (Nat × Nat) := ((List.range m).filter fun k => decide (i < k) && p i k).map fun k => (i, k)
def upG (p : Nat → Nat → Bool) (n i : Nat) : List (Nat × Nat) := (List.range i).flatMap fun a => rowG p a n
theorem rowG_zero (p : Nat → Nat → Bool) (i : Nat) : rowG p i (i + 1) = [] := by
  unfold rowG
  rw [List.map_eq_nil_iff, List.filter_eq_nil_iff]
  intro k hk
  have := List.mem_range.1 hk
  simp; omega
theorem rowG_succ (p : Nat → Nat → Bool) (i k : Nat) (h : i < k) : rowG p i (k + 1) = rowG p i k ++ (if p i k then [(i, k)] else []) := by
  unfold rowG
  rw [List.range_succ, List.filter_append, List.map_append]
  congr 1
  rw [List.filter_cons, List.filter_nil, decide_eq_true h, Bool.true_and]
  split <;> rfl
theorem upG_succ (p : Nat → Nat → Bool) (n i : Nat) : upG p n (i + 1) = upG p n i ++ rowG p i n := by
  unfold upG
  rw [List.range_succ, List.flatMap_append, List.flatMap_cons, List.flatMap_nil, List.append_nil]
theorem mem_rowG {p : Nat → Nat → Bool} {i m : Nat} {x : Nat × Nat} : x ∈ rowG p i m ↔ x.1 = i ∧ i < x.2 ∧ x.2 < m ∧ p i x.2 = true := by
  unfold rowG
  simp only [List.mem_map, List.mem_filter, List.mem_range, Bool.and_eq_true, decide_eq_true_eq]
  constructor
  · rintro ⟨k, ⟨h1, h2, h3⟩, rfl⟩; exact ⟨rfl, h2, h1, h3⟩
  · rintro ⟨h1, h2, h3, h4⟩; exact ⟨x.2, ⟨h3, h2, h4⟩, by rw [← h1]⟩
theorem mem_upG {p : Nat → Nat → Bool} {n i : Nat} {x : Nat × Nat} : x ∈ upG p n i ↔ x.1 < i ∧ x.1 < x.2 ∧ x.2 < n ∧ p x.1 x.2 = true := by
  unfold upG
  simp only [List.mem_flatMap, List.mem_range, mem_rowG]
  constructor
  · rintro ⟨a, h1, rfl, h2, h3, h4⟩; exact ⟨h1, h2, h3, h4⟩
  · rintro ⟨h1, h2, h3, h4⟩; exact ⟨x.1, h1, rfl, h2, h3, h4⟩
theorem rowG_len (p : Nat → Nat → Bool) (i m : Nat) : (rowG p i m).length ≤ m := by
  unfold rowG
  rw [List.length_map]
  have := List.length_filter_le (fun k => decide (i < k) && p i k) (List.range m)
  rw [List.length_range] at this; exact this
theorem upG_len (p : Nat → Nat → Bool) (n i : Nat) : (upG p n i).length ≤ i * n := by
  induction i with
  | zero => simp [upG]
  | succ i ih =>
    rw [upG_succ, List.length_append, Nat.add_mul, Nat.one_mul]
    have := rowG_len p i n
    omega
theorem upG_srt (p : Nat → Nat → Bool) (n i : Nat) : (upG p n i).Pairwise lexP := by
  induction i with
  | zero => simp [upG]
  | succ i ih =>
    rw [upG_succ, List.pairwise_append]
    refine ⟨ih, ?_, fun x hx y hy => ?_⟩
    · unfold rowG
      refine List.Pairwise.map _ ?_ (List.Pairwise.filter _ List.pairwise_lt_range)
      intro a b hab
      exact .inr ⟨rfl, hab⟩
    · have h1 := (mem_upG.1 hx).1
      have h2 := (mem_rowG.1 hy).1
      exact .inl (by omega)

def pWant (bs : List BX) (i j : Nat) : Bool := decide ((bs.length - 1 - j, bs.length - 1 - i) ∈ pairsB bs)
def pFew (bs : List BX) (k i j : Nat) : Bool := decide (j < k) && decide ((i, j) ∈ pairsB bs)
theorem rev_get (bs : List BX) {i : Nat} (hi : i < bs.length) : bs.reverse[i]! = bs[bs.length - 1 - i]! := by
  rw [getElem!_pos bs.reverse i (by simpa using hi), getElem!_pos bs _ (by omega), List.getElem_reverse]
theorem want_eq (bs : List BX) : upG (pWant bs) bs.length bs.length = pairsB bs.reverse := by
  refine lex_unique (upG_srt _ _ _) (upB_srt _ _) fun x => ?_
  rw [mem_upG, mem_pairsB, List.length_reverse]
  unfold pWant
  rw [decide_eq_true_eq, mem_pairsB]
  constructor
  · rintro ⟨h1, h2, h3, -, h5, h6⟩
    refine ⟨h2, h3, ?_⟩
    rw [rev_get bs (by omega), rev_get bs h3, ov_comm]; exact h6
  · rintro ⟨h1, h2, h3⟩
    rw [rev_get bs (by omega), rev_get bs h2, ov_comm] at h3
    exact ⟨by omega, h1, h2, by show bs.length - 1 - x.2 < bs.length - 1 - x.1; omega, by show bs.length - 1 - x.1 < bs.length; omega, h3⟩
theorem take_get (bs : List BX) {i k : Nat} (hk : k ≤ bs.length) (hi : i < k) : (bs.take k)[i]! = bs[i]! := by
  rw [getElem!_pos (bs.take k) i (by simp; omega), getElem!_pos bs i (by omega), List.getElem_take]
theorem few_eq (bs : List BX) {k : Nat} (hk : k ≤ bs.length) : upG (pFew bs k) bs.length bs.length = pairsB (bs.take k) := by
  refine lex_unique (upG_srt _ _ _) (upB_srt _ _) fun x => ?_
  rw [mem_upG, mem_pairsB, List.length_take, Nat.min_eq_left hk]
  unfold pFew
  rw [Bool.and_eq_true, decide_eq_true_eq, decide_eq_true_eq, mem_pairsB]
  constructor
  · rintro ⟨h1, h2, h3, h4, -, h5, h6⟩
    refine ⟨h2, h4, ?_⟩
    rw [take_get bs hk (by omega), take_get bs hk h4]; exact h6
  · rintro ⟨h1, h2, h3⟩
    rw [take_get bs hk (by omega), take_get bs hk h2] at h3
    exact ⟨by omega, h1, by omega, h2, h1, by omega, h3⟩
theorem flat_take (bs : List BX) (k : Nat) : (bs.flatMap BX.cl).take (k * 4) = (bs.take k).flatMap BX.cl := by
  induction bs generalizing k with
  | nil => simp
  | cons b bs ih =>
    cases k with
    | zero => simp
    | succ k =>
      rw [List.flatMap_cons, List.take_succ_cons, List.flatMap_cons, ← ih k, List.take_append]
      have : (BX.cl b).length = 4 := rfl
      rw [this, List.take_of_length_le (by rw [this]; omega), show (k + 1) * 4 - 4 = k * 4 by omega]

/-- two lists of pairs in memory, made since w3 -/
structure PV (w3 : World) (W F : List (Nat × Nat)) (wo : Option Addr) (wc : Nat) (fo : Option Addr) (fc : Nat) (wr : World) : Prop where
  sw : Seg wr 39 2 wo W.length wc (W.flatMap encP)
  sf : Seg wr 39 2 fo F.length fc (F.flatMap encP)
  nw : ∀ q ∈ blk wo, w3.heap.size ≤ q
  nf : ∀ q ∈ blk fo, w3.heap.size ≤ q
  d : ∀ q ∈ blk wo, q ∉ blk fo
  fr : Fr [] w3 wr
section
variable {w3 wr w9 : World} {W F : List (Nat × Nat)} {wo fo o9 : Option Addr} {wc fc c9 : Nat} {p : Nat × Nat}
theorem PV.swap (h : PV w3 W F wo wc fo fc wr) : PV w3 F W fo fc wo wc wr := ⟨h.sf, h.sw, h.nf, h.nw, fun q hq hw => h.d q hw hq, h.fr⟩
theorem PV.start (w3 : World) : PV w3 [] [] none 0 none 0 w3 := ⟨Seg.nil _ _ _, Seg.nil _ _ _, by simp [blk], by simp [blk], by simp [blk], Fr.refl _ _⟩
theorem PV.push (h : PV w3 W F wo wc fo fc wr) (hs : Seg w9 39 2 o9 (W.length + 1) c9 (W.flatMap encP ++ encP p)) (hf : Fr (blk wo) wr w9) (hx : ∀ q ∈ blk o9, q ∈ blk wo ∨ wr.heap.size ≤ q) : PV w3 (W ++ [p]) F o9 c9 fo fc w9 := by
  refine ⟨?_, h.sf.fr hf (fun q hq hw => h.d q hw hq), fun q hq => ?_, h.nf, fun q hq hfo => ?_, h.fr.trans hf (fun q hq => .inr (h.nw q hq))⟩
  · rw [List.length_append, List.flatMap_append]
    simpa using hs
  · rcases hx q hq with x | x
    · exact h.nw q x
    · have := h.fr.size; omega
  · rcases hx q hq with x | x
    · exact h.d q x hfo
    · have := h.sf.lt q hfo; omega
end
end Go.Proofs.Ytoplpmkcfgadlaa
