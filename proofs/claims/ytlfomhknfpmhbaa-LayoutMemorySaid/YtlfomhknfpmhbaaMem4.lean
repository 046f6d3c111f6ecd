/- Package cellmem: the contract of Discard. -/
import Derived.Test.YtlfomhknfpmhbaaMem3
namespace Go.Proofs.Ytlfomhknfpmhbaa
open Go.RowKit

section
variable {w : World} {p : Nat} {F : List Nat} {s : MemS}

def MemS.disc (s : MemS) (m : Int) : MemS := { cells := s.cells, log := s.log.drop (m - s.base).toNat, base := m }

/-- the two fields base and log have been stored -/
theorem disc_to {ca : Option Addr} {cc : Nat} {la : Option Addr} {lc : Nat} (h : IsMemAt w p F s ca cc la lc) (k : Nat) (_hk : k ≤ s.log.length) {ln : Option Addr} {lm : Nat} {w1 : World}
    (hf : Fr [p] w w1) (hseg : Seg w1 84 2 ln (s.log.length - k) lm (pairs (s.log.drop k))) (hln : Ext (blk la) w (blk ln)) (hb : w1.heap[p]? = some (.cells #[.slice ca s.cells.length cc, .slice ln (s.log.length - k) lm, .int .i64 (s.base + k)] 82 (0, 0))) :
    MemTo w p F (s.disc (s.base + k)) w1 := by
  have hpc := h.pc
  have hbl := h.blocks
  have hp := lt_of_blk h.head
  have e : s.disc (s.base + k) = { cells := s.cells, log := s.log.drop k, base := s.base + k } := by
    simp only [MemS.disc]; rw [show (s.base + (k : Int) - s.base).toNat = k by omega]
  refine ⟨p :: (blk ca ++ blk ln), ⟨ca, cc, ln, lm, rfl, hpc, fun hi => ?_, fun i hi hi2 => ?_, ?_, ?_, ?_⟩, hf.mono (by simp [hbl]), fun i hi => ?_⟩
  · rcases hln p hi with h1 | h1; exact h.pl h1; omega
  · rcases hln i hi2 with h1 | h1; exact h.cl i hi h1; have := h.cells.lt i hi; omega
  · rw [e]; simpa using hb
  · rw [e]; exact h.cells.fr hf (fun i hi => by simp; intro e; subst e; exact hpc hi)
  · rw [e]; simpa using hseg
  · rw [hbl]
    simp only [List.mem_cons, List.mem_append] at hi ⊢
    rcases hi with h1 | h1 | h1
    · exact .inl (.inl h1)
    · exact .inl (.inr (.inl h1))
    · rcases hln i h1 with h2 | h2
      · exact .inl (.inr (.inr h2))
      · exact .inr h2

theorem disc_fin1 {ca : Option Addr} {cc : Nat} {la : Option Addr} {lc : Nat} (h : IsMemAt w p F s ca cc la lc) (k : Nat) (hk : k ≤ s.log.length) {n : Nat} {v2 v1 : Value} {ao' : Option Addr} {cap' : Nat} {w1 : World}
    (hs1 : Seg w1 84 2 ao' (0 + (s.log.length - k)) cap' ([] ++ pairs (s.log.drop k))) (hfr1 : Fr (blk none) (((w.drewN n).setCell ⟨p, 2, none⟩ v2).setCell ⟨p, 1, none⟩ v1) w1)
    (hext : Ext (blk none) (((w.drewN n).setCell ⟨p, 2, none⟩ v2).setCell ⟨p, 1, none⟩ v1) (blk ao')) (hv2 : v2 = .int .i64 (s.base + k)) :
    MemTo w p F (s.disc (s.base + k)) (w1.setCell ⟨p, 1, none⟩ (.slice ao' (s.log.length - k) cap')) := by
  have hp := lt_of_blk h.head
  subst hv2
  rw [Nat.zero_add, List.nil_append] at hs1
  have hf : Fr [p] w (((w.drewN n).setCell ⟨p, 2, none⟩ (.int .i64 (s.base + k))).setCell ⟨p, 1, none⟩ v1) := (((Fr.refl [p] w).drewN n).setCell (.inl (by simp)) _).setCell (.inl (by simp)) _
  have hnew : ∀ i ∈ blk ao', w.heap.size ≤ i := fun i hi => by rcases hext i hi with h1 | h1; simp [blk] at h1; have := hf.size; omega
  have hpa : p ∉ blk ao' := fun hi => by have := hnew p hi; omega
  refine disc_to h k hk ((hf.trans hfr1 (by simp [blk, Ext])).setCell (.inl (by simp)) _) (Seg.setCell_other hs1 hpa) (fun i hi => .inr (hnew i hi)) ?_
  rw [setCell_blk (hfr1.blk (setCell_blk (i := 1) (v := v1) (setCell_blk (w := w.drewN n) (i := 2) (v := .int .i64 (s.base + k)) h.head)) (by simp [blk]))]
  simp

theorem disc_fin2 {ca : Option Addr} {cc : Nat} {la : Option Addr} {lc : Nat} (h : IsMemAt w p F s ca cc la lc) (k : Nat) (hk : k ≤ s.log.length) {n lm : Nat} {ln : Option Addr}
    (hcut : Seg w 84 2 ln (s.log.length - k) lm (pairs (s.log.drop k))) (hb : blk ln = blk la) :
    MemTo w p F (s.disc (s.base + k)) (((w.drewN n).setCell ⟨p, 2, none⟩ (.int .i64 (s.base + k))).setCell ⟨p, 1, none⟩ (.slice ln (s.log.length - k) lm)) := by
  have hpl : p ∉ blk ln := hb ▸ h.pl
  refine disc_to h k hk ((((Fr.refl [p] w).drewN n).setCell (.inl (by simp)) _).setCell (.inl (by simp)) _) (Seg.setCell_other (Seg.setCell_other (hcut.drewN n) hpl) hpl) (fun i hi => .inl (hb ▸ hi)) ?_
  rw [setCell_blk (setCell_blk (w := w.drewN n) h.head 2 _)]
  simp


theorem MemTo.drewN (h : IsMem w p F s) (n : Nat) : MemTo w p F s (w.drewN n) := ⟨F, h.drewN n, (Fr.refl _ _).drewN n, Ext.refl _ _⟩

end
end Go.Proofs.Ytlfomhknfpmhbaa
