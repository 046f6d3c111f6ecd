/- Package cellmem: the contract of Discard. -/
import Derived.Test.YtoolojpjopodgaaMem3
namespace Go.Proofs.Ytoolojpjopodgaa
open Go.RowKit

section
variable {w : World} {p : Nat} {F : List Nat} {s : MemS}

def MemS.disc (s : MemS) (m : Int) : MemS := { cells := s.cells, log := s.log.drop (m - s.base).toNat, base := m }

/-- the two fields base and log have been stored -/
theorem disc_to {ca : Option Addr} {cc : Nat} {la : Option Addr} {lc : Nat} (h : IsMemAt w p F s ca cc la lc) (k : Nat) (_hk : k ≤ s.log.length) {ln : Option Addr} {lm : Nat} {w1 : World}
    (hf : Fr [p] w w1) (hseg : Seg w1 68 2 ln (s.log.length - k) lm (pairs (s.log.drop k))) (hln : Ext (blk la) w (blk ln)) (hb : w1.heap[p]? = some (.cells #[.slice ca s.cells.length cc, .slice ln (s.log.length - k) lm, .int .i64 (s.base + k)] 65 (0, 0))) :
    MemTo w p F (s.disc (s.base + k)) w1 := by
  have hpc := h.pc
  have hbl := h.blocks
  have hp := lt_of_blk h.head
  have e : s.disc (s.base + k) = { cells := s.cells, log := s.log.drop k, base := s.base + k } := by
    simp only [MemS.disc]; rw [show (s.base + (k : Int) - s.base).toNat = k by omega]
  refine ⟨p :: (blk ca ++ blk ln), ⟨ca, cc, ln, lm, rfl, hpc, fun hi => ?_, fun i hi hi2 => ?_, ?_, ?_, ?_⟩, hf.mono (by simp [hbl]), fun i hi => ?_⟩
  · rcases hln p hi with h1 | h1; exact h.pl h1; omega
  · rcases hln i hi2 with h1 | h1; exact h.cl i hi h1; have := h.cells.lt i hi; omega
  · rw [e]; simpa using hb
  · rw [e]; exact h.cells.fr hf (fun i hi => by simp; intro e; subst e; exact hpc hi)
  · rw [e]; simpa using hseg
  · rw [hbl]
    simp only [List.mem_cons, List.mem_append] at hi ⊢
    rcases hi with h1 | h1 | h1
    · exact .inl (.inl h1)
    · exact .inl (.inr (.inl h1))
    · rcases hln i h1 with h2 | h2
      · exact .inl (.inr (.inr h2))
      · exact .inr h2

theorem disc_fin1 {ca : Option Addr} {cc : Nat} {la : Option Addr} {lc : Nat} (h : IsMemAt w p F s ca cc la lc) (k : Nat) (hk : k ≤ s.log.length) {n : Nat} {v2 v1 : Value} {ao' : Option Addr} {cap' : Nat} {w1 : World}
    (hs1 : Seg w1 68 2 ao' (0 + (s.log.length - k)) cap' ([] ++ pairs (s.log.drop k))) (hfr1 : Fr (blk none) (((w.drewN n).setCell ⟨p, 2, none⟩ v2).setCell ⟨p, 1, none⟩ v1) w1)
    (hext : Ext (blk none) (((w.drewN n).setCell ⟨p, 2, none⟩ v2).setCell ⟨p, 1, none⟩ v1) (blk ao')) (hv2 : v2 = .int .i64 (s.base + k)) :
    MemTo w p F (s.disc (s.base + k)) (w1.setCell ⟨p, 1, none⟩ (.slice ao' (s.log.length - k) cap')) := by
  have hp := lt_of_blk h.head
  subst hv2
  rw [Nat.zero_add, List.nil_append] at hs1
  have hf : Fr [p] w (((w.drewN n).setCell ⟨p, 2, none⟩ (.int .i64 (s.base + k))).setCell ⟨p, 1, none⟩ v1) := (((Fr.refl [p] w).drewN n).setCell (.inl (by simp)) _).setCell (.inl (by simp)) _
  have hnew : ∀ i ∈ blk ao', w.heap.size ≤ i := fun i hi => by rcases hext i hi with h1 | h1; simp [blk] at h1; have := hf.size; omega
  have hpa : p ∉ blk ao' := fun hi => by have := hnew p hi; omega
  refine disc_to h k hk ((hf.trans hfr1 (by simp [blk, Ext])).setCell (.inl (by simp)) _) (Seg.setCell_other hs1 hpa) (fun i hi => .inr (hnew i hi)) ?_
  rw [setCell_blk (hfr1.blk (setCell_blk (i := 1) (v := v1) (setCell_blk (w := w.drewN n) (i := 2) (v := .int .i64 (s.base + k)) h.head)) (by simp [blk]))]
  simp

theorem disc_fin2 {ca : Option Addr} {cc : Nat} {la : Option Addr} {lc : Nat} (h : IsMemAt w p F s ca cc la lc) (k : Nat) (hk : k ≤ s.log.length) {n lm : Nat} {ln : Option Addr}
    (hcut : Seg w 68 2 ln (s.log.length - k) lm (pairs (s.log.drop k))) (hb : blk ln = blk la) :
    MemTo w p F (s.disc (s.base + k)) (((w.drewN n).setCell ⟨p, 2, none⟩ (.int .i64 (s.base + k))).setCell ⟨p, 1, none⟩ (.slice ln (s.log.length - k) lm)) := by
  have hpl : p ∉ blk ln := hb ▸ h.pl
  refine disc_to h k hk ((((Fr.refl [p] w).drewN n).setCell (.inl (by simp)) _).setCell (.inl (by simp)) _) (Seg.setCell_other (Seg.setCell_other (hcut.drewN n) hpl) hpl) (fun i hi => .inl (hb ▸ hi)) ?_
  rw [setCell_blk (setCell_blk (w := w.drewN n) h.head 2 _)]
  simp

set_option maxRecDepth 100000 in
theorem disc_ok (h : IsMem w p F s) (k : Nat) (hk : k ≤ s.log.length) (hb : 0 ≤ s.base) (hm : s.base + s.log.length ≤ 1099511627776) :
    Calls Try.prog 37 #[.pointer (some ⟨p, 0, none⟩), .int .i64 (s.base + k)] w fun e w' => e = .returned (.int .i64 0) ∧ MemTo w p F (s.disc (s.base + k)) w' := by
  have hh := h
  obtain ⟨ca, cc, la, lc, h⟩ := h
  have c1 := h.c1
  have c2 := h.c2
  have f1 := frozen_blk h.head 1
  have f2 := frozen_blk h.head 2
  have hp := lt_of_blk h.head
  have hck : s.check (s.base + k) = 0 := by rw [MemS.check, if_neg (by omega), if_neg (by omega)]
  have hlc := h.log.2.2.1
  have hlm := h.log.2.1
  unfold maxLen at hlm
  have hsub : s.base + (k : Int) - s.base = k := by omega
  have hcut := h.log.cutA (lo := k) (hi := s.log.length) (mx := lc) hk hlc (Nat.le_refl _) (Nat.le_refl _)
  rw [pairs_drop, List.take_of_length_le (by rw [pairs_length, List.length_drop]; omega)] at hcut
  have HC := Lib.hid hcut
  have hpl := h.pl
  have hhead := h.head
  have H := Lib.hid h
  clear h hcut
  obtain ⟨i0, hi, hz0, hz1, hz2⟩ := info_parts infoEntry
  have hpn : (pairs (s.log.drop k)).length = (s.log.length - k) * 2 := by rw [pairs_length, List.length_drop]
  have hp1 : 0 + (s.log.length - k) ≤ maxLen := by unfold maxLen; omega
  have hp2 : (0 + (s.log.length - k)) * 16 ≤ 140737488355328 := by omega
  have HP := Lib.hid hpn
  by_cases hla : lc ≤ k
  · by_cases hk0 : k = 0
    · have hcut := HC.out
      rw [show cutA la k lc 2 = la by unfold cutA; rw [if_pos (by omega)], show lc - k = 0 by omega] at hcut
      have hk1 : k ≤ 0 := by omega
      have hd : ¬ ((s.log.length - k : Nat) : Int) < (k : Int) := by omega
      clear hk0
      go_enter Try.func37, Try.ntmps37
      go_wp2_with (first | (go_at_call 40; refine (check_any hh _ hb (by omega)).mono ?_; rw [hck]; rintro e w' ⟨rfl, n, rfl⟩))
      all_goals
        go_ret
        exact ⟨rfl, disc_fin2 H.out k hk hcut (by simp [blk])⟩
    · obtain ⟨g, off, rfl⟩ : ∃ g off, la = some ⟨g, off, none⟩ := by
        rcases H.out.log.2.2.2 with ⟨_, hn, _⟩ | ⟨g, off, _, ha, _⟩
        · omega
        · exact ⟨g, off, ha⟩
      have hcut := HC.out
      rw [show cutA (some ⟨g, off, none⟩) k lc 2 = some ⟨g, off, none⟩ by unfold cutA; rw [if_pos (by omega)], show lc - k = 0 by omega] at hcut
      have hlk : k ≤ lc := by omega
      have hd : ((s.log.length - k : Nat) : Int) < (k : Int) := by omega
      go_enter Try.func37, Try.ntmps37
      go_wp2_with (first | (go_at_call 40; refine (check_any hh _ hb (by omega)).mono ?_; rw [hck]; rintro e w' ⟨rfl, n, rfl⟩) | (at_builtin; refine wpList_append_seg rfl _ _ 63 rfl 68 i0 _ 2 16 Try.underlying63 hi hz0 hz1 hz2 rfl (by decide) none 0 0 [] rfl (Seg.nil _ _ _) ⟨g, off, none⟩ (s.log.length - k) 0 (pairs (s.log.drop k)) rfl hpn (Seg.news (Seg.setCell_other (Seg.setCell_other (hcut.drewN _) hpl) hpl)) (pairs_one _) hp1 hp2 ?_; intro ao' cap' w1 hs1 hfr1 hext1; have hd1 := hfr1.blk (setCell_blk (i := 1) (v := .slice (some ⟨g, off, none⟩) (s.log.length - k) 0) (setCell_blk (w := w.drewN n) (i := 2) (v := .int .i64 (s.base + k)) hhead)) (by simp [blk]); have k1 := cell_blk hd1 1; simp at k1; have e1 := frozen_blk hd1 1))
      all_goals
        go_ret
        exact ⟨rfl, disc_fin1 H.out k hk hs1 hfr1 hext1 rfl⟩
  · obtain ⟨g, off, rfl⟩ : ∃ g off, la = some ⟨g, off, none⟩ := by
      rcases H.out.log.2.2.2 with ⟨_, hn, _⟩ | ⟨g, off, _, ha, _⟩
      · omega
      · exact ⟨g, off, ha⟩
    have hcut := HC.out
    rw [cutA_ne (by omega)] at hcut
    by_cases hlt : s.log.length - k < k
    · have hd : ((s.log.length - k : Nat) : Int) < (k : Int) := by omega
      go_enter Try.func37, Try.ntmps37
      go_wp2_with (first | (go_at_call 40; refine (check_any hh _ hb (by omega)).mono ?_; rw [hck]; rintro e w' ⟨rfl, n, rfl⟩) | (at_builtin; refine wpList_append_seg rfl _ _ 63 rfl 68 i0 _ 2 16 Try.underlying63 hi hz0 hz1 hz2 rfl (by decide) none 0 0 [] rfl (Seg.nil _ _ _) ⟨g, off + k * 2, none⟩ (s.log.length - k) (lc - k) (pairs (s.log.drop k)) rfl hpn (Seg.news (Seg.setCell_other (Seg.setCell_other (hcut.drewN _) hpl) hpl)) (pairs_one _) hp1 hp2 ?_; intro ao' cap' w1 hs1 hfr1 hext1; have hd1 := hfr1.blk (setCell_blk (i := 1) (v := .slice (some ⟨g, off + k * 2, none⟩) (s.log.length - k) (lc - k)) (setCell_blk (w := w.drewN n) (i := 2) (v := .int .i64 (s.base + k)) hhead)) (by simp [blk]); have k1 := cell_blk hd1 1; simp at k1; have e1 := frozen_blk hd1 1))
      all_goals
        go_ret
        exact ⟨rfl, disc_fin1 H.out k hk hs1 hfr1 hext1 rfl⟩
    · have hd : ¬ ((s.log.length - k : Nat) : Int) < (k : Int) := by omega
      go_enter Try.func37, Try.ntmps37
      go_wp2_with (first | (go_at_call 40; refine (check_any hh _ hb (by omega)).mono ?_; rw [hck]; rintro e w' ⟨rfl, n, rfl⟩))
      all_goals
        go_ret
        exact ⟨rfl, disc_fin2 H.out k hk hcut (by simp [blk])⟩
set_option maxRecDepth 100000 in
theorem disc_no (h : IsMem w p F s) (m : Int) (hb : 0 ≤ s.base) (hm : s.base + s.log.length ≤ 1099511627776) (hc : (s.check m == 0) = false) :
    Calls Try.prog 37 #[.pointer (some ⟨p, 0, none⟩), .int .i64 m] w fun e w' => e = .returned (.int .i64 (s.check m)) ∧ ∃ n, w' = w.drewN n := by
  have hc2 : (s.check m != 0) = true := by rw [bne, hc]; rfl
  go_enter Try.func37, Try.ntmps37
  go_wp2_with (go_at_call 40; refine (check_any h _ hb (by omega)).mono ?_; rintro e w' ⟨rfl, n, rfl⟩)
  go_ret
  exact ⟨rfl, _, rfl⟩

theorem MemTo.drewN (h : IsMem w p F s) (n : Nat) : MemTo w p F s (w.drewN n) := ⟨F, h.drewN n, (Fr.refl _ _).drewN n, Ext.refl _ _⟩

/-- Discard at a mark of the log that is kept -/
theorem disc_mark (h : IsMem w p F s) (m : Int) (hb : 0 ≤ s.base) (hm : s.base + s.log.length ≤ 1099511627776) (h1 : s.base ≤ m) (h2 : m ≤ s.base + s.log.length) :
    Calls Try.prog 37 #[.pointer (some ⟨p, 0, none⟩), .int .i64 m] w fun e w' => e = .returned (.int .i64 0) ∧ MemTo w p F (s.disc m) w' := by
  obtain ⟨k, hk⟩ := Int.eq_ofNat_of_zero_le (show 0 ≤ m - s.base by omega)
  obtain rfl : m = s.base + k := by omega
  exact disc_ok h k (by omega) hb hm
end
end Go.Proofs.Ytoolojpjopodgaa
