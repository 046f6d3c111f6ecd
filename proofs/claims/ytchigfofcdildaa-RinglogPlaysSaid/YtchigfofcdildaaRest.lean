/- Plain laws of a ring of states with consecutive ticks; the states of RinglogRestores and RinglogAgain. -/
import Derived.Test.YtchigfofcdildaaGuard
import Derived.Test.YtchigfofcdildaaSame
import Derived.Test.YtchigfofcdildaaActs
namespace Go.Proofs.Ytchigfofcdildaa
open Go.RowKit

/-- the ticks follow one another, from t0 -/
def Row (L : List (Int × List Int)) (t0 : Int) : Prop := ∀ j (h : j < L.length), (L[j]).1 = t0 + j

theorem Row.take {L : List (Int × List Int)} {t0 : Int} (h : Row L t0) (n : Nat) : Row (L.take n) t0 := fun j hj => by
  rw [List.length_take] at hj
  rw [List.getElem_take]; exact h j (by omega)
theorem Row.add {L : List (Int × List Int)} {t0 : Int} (h : Row L t0) (c : List Int) : Row (L ++ [(t0 + L.length, c)]) t0 := fun j hj => by
  rw [List.length_append, List.length_singleton] at hj
  rw [List.getElem_append]
  split
  · exact h j (by assumption)
  · rw [List.getElem_singleton]; simp only; omega
theorem Row.drop {L : List (Int × List Int)} {t0 : Int} (h : Row L t0) (n : Nat) : Row (L.drop n) (t0 + n) := fun j hj => by
  rw [List.length_drop] at hj
  rw [List.getElem_drop, h _ (by omega)]; omega

section
variable {L : List (Int × List Int)} {t0 keep : Int} {cur : List Int}
theorem Row.oldest (h : Row L t0) (h0 : 0 < L.length) : Sp.oldest { keep := keep, cells := cur, L := L } = t0 := by
  unfold Sp.oldest; rw [dif_pos h0, h]; simp
theorem Row.newest (h : Row L t0) (h0 : 0 < L.length) : Sp.newest { keep := keep, cells := cur, L := L } = t0 + L.length - 1 := by
  unfold Sp.newest; rw [dif_pos h0, h]; simp only; omega
theorem Row.rewind (h : Row L t0) (i : Nat) (hi : i < L.length) : Sp.rewind { keep := keep, cells := cur, L := L } (t0 + i) = (0, { keep := keep, cells := (L[i]).2, L := L.take (i + 1) }) := by
  unfold Sp.rewind
  rw [h.oldest (by omega), h.newest (by omega), if_neg (by simp only; omega), if_neg (by omega)]
  simp [show (t0 + (i : Int) - t0).toNat = i by omega, hi]
theorem Row.over (h : Row L t0) (h0 : 0 < L.length) : Sp.rewind { keep := keep, cells := cur, L := L } (t0 + L.length) = (6, { keep := keep, cells := cur, L := L }) := by
  unfold Sp.rewind
  rw [h.oldest h0, h.newest h0, if_neg (by simp only; omega), if_pos (by omega)]
theorem Row.push (h : Row L t0) (ht : 0 ≤ t0) : Sp.push { keep := keep, cells := cur, L := L } (t0 + L.length) =
    (0, { keep := keep, cells := cur, L := if keep < (L.length : Int) + 1 then (L ++ [(t0 + (L.length : Int), cur)]).drop 1 else L ++ [(t0 + (L.length : Int), cur)] }) := by
  unfold Sp.push
  rw [if_neg (by omega), if_neg (by
    rintro ⟨h1, h2⟩
    rw [h.newest h1] at h2
    omega)]
end

/-- the states at the pushes, with their ticks: the last k of them -/
def Lk (k : Nat) (ts : List (List Int)) : List (Int × List Int) := ((List.range ts.length).map fun m : Nat => ((m : Int), ts.getD m [])).drop (ts.length - k)

theorem Lk_len (k : Nat) (ts : List (List Int)) : (Lk k ts).length = min k ts.length := by simp [Lk]; omega
theorem Lk_row (k : Nat) (ts : List (List Int)) : Row (Lk k ts) ((ts.length - k : Nat) : Int) := by
  have : Row ((List.range ts.length).map fun m : Nat => ((m : Int), ts.getD m [])) 0 := fun j hj => by simp
  have := this.drop (ts.length - k)
  rwa [Int.zero_add] at this
theorem Lk_get (k : Nat) (ts : List (List Int)) (i : Nat) (h : i < (Lk k ts).length) : ((Lk k ts)[i]).2 = ts.getD (ts.length - k + i) [] := by
  simp [Lk, List.getElem_drop]

theorem Lk_push (k : Nat) (ts : List (List Int)) (cur : List Int) (hk : 1 ≤ k) :
    Sp.push { keep := k, cells := cur, L := Lk k ts } ts.length = (0, { keep := k, cells := cur, L := Lk k (ts ++ [cur]) }) := by
  have hl := Lk_len k ts
  have e : (ts.length : Int) = ((ts.length - k : Nat) : Int) + (Lk k ts).length := by omega
  have := (Lk_row k ts).push (keep := k) (cur := cur) (by omega)
  rw [← e] at this
  rw [this]
  congr 2
  have e2 : Lk k ts ++ [((ts.length : Int), cur)] = ((List.range (ts.length + 1)).map fun m : Nat => ((m : Int), (ts ++ [cur]).getD m [])).drop (ts.length - k) := by
    rw [List.range_succ, List.map_append, List.drop_append_of_le_length (by simp)]
    unfold Lk
    congr 1
    · congr 1
      apply List.map_congr_left
      intro m hm
      simp only [List.mem_range] at hm
      simp [List.getD_eq_getElem?_getD, List.getElem?_append_left hm]
    · simp [List.getD_eq_getElem?_getD]
  rw [e2, hl]
  unfold Lk
  rw [List.length_append, List.length_singleton, List.drop_drop]
  split
  · congr 1; omega
  · congr 1; omega

/-- rows of cells that have been made -/
def Tabs (w : World) (l : List (Nat × List Int)) : Prop := ∀ x ∈ l, w.heap[x.1]? = some (row x.2)
def tabVals (l : List (Nat × List Int)) : List Value := l.map fun x => .slice (some ⟨x.1, 0, none⟩) x.2.length x.2.length
theorem tabVals_append (a b : List (Nat × List Int)) : tabVals (a ++ b) = tabVals a ++ tabVals b := by simp [tabVals]
theorem tabVals_length (l : List (Nat × List Int)) : (tabVals l).length = l.length := by simp [tabVals]
theorem tabVals_get (l : List (Nat × List Int)) (k : Nat) (h : k < l.length) : (tabVals l)[k]? = some (.slice (some ⟨l[k].1, 0, none⟩) l[k].2.length l[k].2.length) := by simp [tabVals, h]
theorem Tabs.kept {w w' : World} {l : List (Nat × List Int)} (h : Tabs w l) (hk : ∀ x ∈ l, w'.heap[x.1]? = w.heap[x.1]?) : Tabs w' l := fun x hx => (hk x hx).trans (h x hx)
theorem Tabs.fr {w w' : World} {S : List Nat} {l : List (Nat × List Int)} (h : Tabs w l) (hf : Fr S w w') (hS : ∀ x ∈ l, x.1 ∉ S) : Tabs w' l := fun x hx => hf.blk (h x hx) (hS x hx)
theorem Tabs.rd {w : World} {l : List (Nat × List Int)} (h : Tabs w l) {k : Nat} (hk : k < l.length) (hm : l[k].2.length ≤ maxLen) : Rd w 1 (some ⟨l[k].1, 0, none⟩) l[k].2.length (ints l[k].2) := (row_seg (h _ (List.getElem_mem hk)) hm).rd

end Go.Proofs.Ytchigfofcdildaa
