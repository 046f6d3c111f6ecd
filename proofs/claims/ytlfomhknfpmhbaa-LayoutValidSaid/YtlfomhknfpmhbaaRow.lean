/- What a row is told of a slice of ints that came in, in the form of these texts. -/
import Derived.DataReads
import Derived.OpenShut
import Derived.Test.YtlfomhknfpmhbaaMem
namespace Go.Proofs.Ytlfomhknfpmhbaa
open Go.RowKit

theorem rd_of_row {w : World} {a : Option Addr} {len cap : Nat} {zs : List Int}
    (h : (a = none ∧ len = 0 ∧ cap = 0 ∧ zs = []) ∨
      ∃ x, a = some x ∧ len ≤ cap ∧ cap ≤ maxLen ∧ zs.length = cap ∧ (∀ i, i < zs.length → w.cell? (x.add i) = some (.int .i64 (zs.getD i 0))) ∧ ∀ n ∈ zs, (Lit.int .i64 n).wf = true) :
    ∃ l : List Int, l.length = len ∧ Rd w 1 a l.length (ints l) ∧ ∀ x ∈ l, -9223372036854775808 ≤ x ∧ x ≤ 9223372036854775807 := by
  rcases h with ⟨rfl, rfl, rfl, rfl⟩ | ⟨x, rfl, hl, hm, hz, hc, hw⟩
  · exact ⟨[], rfl, ⟨rfl, by simp, .inl rfl⟩, by simp⟩
  · have hlen : (zs.take len).length = len := by simp; omega
    refine ⟨zs.take len, hlen, ⟨by simp [ints_length], by rw [hlen]; omega, ?_⟩, fun y hy => ?_⟩
    · rw [hlen]
      rcases Nat.eq_zero_or_pos len with h0 | h0
      · exact .inl h0
      · right
        have h1 := hc 0 (by omega)
        have hs : x.spot = none := by
          have := World.cell?_spot h1
          simpa [Addr.add] using this
        have hg : x.block < w.heap.size := by
          have h2 : w.cell? x = some (.int .i64 (zs.getD 0 0)) := by simpa [Addr.add] using h1
          unfold World.cell? at h2
          cases hb : w.heap[x.block]? with
          | none => rw [hb] at h2; cases h2
          | some o => exact lt_of_blk hb
        obtain ⟨g, off, sp⟩ := x
        simp only at hs
        subst hs
        refine ⟨g, off, rfl, hg, fun j hj => ?_⟩
        have h3 := hc j (by omega)
        rw [Addr.add_mid] at h3
        rw [h3, ints_get, List.getElem?_take_of_lt (by omega), List.getElem?_eq_getElem (by omega)]
        simp [List.getD_eq_getElem?_getD, show j < zs.length by omega]
    · have := Go.bounds_i64 (hw y (List.mem_of_mem_take hy))
      exact ⟨by omega, by omega⟩
end Go.Proofs.Ytlfomhknfpmhbaa
