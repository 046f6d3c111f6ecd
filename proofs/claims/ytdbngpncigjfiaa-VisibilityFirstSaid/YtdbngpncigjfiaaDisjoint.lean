/- LayoutDisjoint returns true. -/
import Derived.Test.YtdbngpncigjfiaaIndices
import Derived.Test.YtdbngpncigjfiaaMem3
namespace Go.Proofs.Ytdbngpncigjfiaa
open Go.RowKit

/-- ones from 48 on -/
def usedL (n c : Nat) : List Int := List.replicate 48 0 ++ (List.replicate c 1 ++ List.replicate (n - 48 - c) 0)
theorem usedL_len (n c : Nat) (h : 48 + c ≤ n) : (usedL n c).length = n := by simp [usedL]; omega
theorem usedL_zero (n : Nat) (h : 48 ≤ n) : usedL n 0 = List.replicate n 0 := by
  unfold usedL
  simp only [List.replicate_zero, List.nil_append, Nat.sub_zero]
  rw [List.replicate_append_replicate]
  congr 1
  omega
theorem usedL_at (n c : Nat) (h : 48 + c < n) : (usedL n c)[48 + c]? = some 0 := by
  unfold usedL
  rw [List.getElem?_append_right (by simp), List.length_replicate, show 48 + c - 48 = c by omega, List.getElem?_append_right (by simp), List.length_replicate, Nat.sub_self, List.getElem?_replicate]
  rw [if_pos (by omega)]
theorem usedL_set (n c : Nat) (h : 48 + c < n) : (usedL n c).set (48 + c) 1 = usedL n (c + 1) := by
  unfold usedL
  rw [List.set_append_right _ _ (by simp), List.length_replicate, show 48 + c - 48 = c by omega, List.set_append_right _ _ (by simp), List.length_replicate, Nat.sub_self, show n - 48 - c = (n - 48 - (c + 1)) + 1 by omega, show List.replicate (n - 48 - (c + 1) + 1) (0 : Int) = 0 :: List.replicate (n - 48 - (c + 1)) 0 from rfl, List.set_cons_zero, List.replicate_succ' (n := c)]
  simp
theorem usedL_end (n i : Nat) (hn : 48 ≤ n) (hi : i < n) : (usedL n (n - 48))[i]? = some (if 48 ≤ i then 1 else 0) := by
  unfold usedL
  by_cases h : 48 ≤ i
  · rw [if_pos h, List.getElem?_append_right (by simpa using h), List.length_replicate, List.getElem?_append_left (by simp; omega), List.getElem?_replicate, if_pos (by omega)]
  · rw [if_neg h, List.getElem?_append_left (by simp; omega), List.getElem?_replicate, if_pos (by omega)]

/-- the counters as far as c; the setup in its block -/
def DisQ (w : World) (bu b3 : Nat) (C : Array Value) (n c : Nat) (wr : World) : Prop :=
  wr.heap[bu]? = some (row (usedL n c)) ∧ wr.heap[b3]? = some (.cells C 31 (0, 0)) ∧ Fr [] w wr

theorem DisQ.fr {w : World} {bu b3 : Nat} {C : Array Value} {n c : Nat} {wr w' : World} (h : DisQ w bu b3 C n c wr) (hf : Fr [] wr w') : DisQ w bu b3 C n c w' :=
  ⟨hf.blk h.1 (by simp), hf.blk h.2.1 (by simp), h.2.2.trans hf (by simp [Ext])⟩
theorem DisQ.step {w : World} {bu b3 : Nat} {C : Array Value} {n c : Nat} {wr : World} (h : DisQ w bu b3 C n c wr) (hne : b3 ≠ bu) (hbu : w.heap.size ≤ bu) (hc : 48 + c < n) :
    DisQ w bu b3 C n (c + 1) (wr.setCell ⟨bu, 48 + c, none⟩ (.int .i64 1)) := by
  refine ⟨?_, (setCell_ne (by simpa using hne)).trans h.2.1, h.2.2.setCell (p := ⟨bu, 48 + c, none⟩) (.inr hbu) _⟩
  have := row_set h.1 (48 + c) 1
  rw [usedL_set n c hc] at this
  exact this
theorem DisQ.at {w : World} {bu b3 : Nat} {C : Array Value} {n c : Nat} {wr : World} (h : DisQ w bu b3 C n c wr) (hc : 48 + c < n) :
    wr.cell? ⟨bu, 48 + c, none⟩ = some (.int .i64 0) ∧ wr.frozen? ⟨bu, 48 + c, none⟩ = false := by
  have hl := usedL_len n c (by omega)
  have h1 := row_cell h.1 (k := 48 + c) (by omega)
  have h2 := usedL_at n c hc
  rw [List.getElem?_eq_getElem (by omega)] at h2
  injection h2 with h2
  rw [h2] at h1
  exact ⟨h1, row_frozen h.1 _⟩

end Go.Proofs.Ytdbngpncigjfiaa
