/- Package ringlog: Rewind (with slices.IndexFunc and the function value that it is handed). -/
import Derived.Test.YtchigfofcdildaaRing2
namespace Go.Proofs.Ytchigfofcdildaa
open Go.RowKit

section
variable {w : World} {p r : Nat} {F : List Nat} {m : MemS} {R : RingS}

theorem isTick_any (w : World) (a b t : Int) (tb : Nat) (x : Bool) (hx : (a == t) = x) (ht : w.cell? ⟨tb, 0, none⟩ = some (.int .i64 t)) :
    Calls Try.prog 35 #[.agg #[.int .i64 a, .int .i64 b], .pointer (some ⟨tb, 0, none⟩)] w fun e w' => e = .returned (.bool x) ∧ Fr [] w w' := by
  have hb := World.block_lt_of_cell? w _ ht
  have ha : ∀ o, (w.alloc o).cell? ⟨tb, 0, none⟩ = some (.int .i64 t) := fun o => (World.cell?_alloc_lt _ _ _ hb).trans ht
  go_enter Try.func35, Try.ntmps35
  go_wp2
  go_ret
  exact ⟨by first | rfl | rw [hx], (Fr.refl _ _).alloc _⟩

theorem index_any {ea : Option Addr} {ec : Nat} {l : List (Int × Int)} (h : Seg w 59 2 ea l.length ec (pairs l)) (t : Int) (tb : Nat) (ht : w.cell? ⟨tb, 0, none⟩ = some (.int .i64 t)) (htb : tb < w.heap.size)
    (k : Nat) (hk : k < l.length) (h1 : l[k].1 = t) (h2 : ∀ j (hj : j < k), (l[j]'(by omega)).1 ≠ t) :
    Calls Try.prog 34 #[.slice ea l.length ec, .func (.func 35) #[] #[.pointer (some ⟨tb, 0, none⟩)]] w fun e w' => e = .returned (.int .i64 k) ∧ Fr [] w w' := by
  have hlen : l.length ≤ 9223372036854775807 := by have := h.2.1; have := h.2.2.1; unfold maxLen at *; omega
  obtain ⟨g, off, rfl⟩ := h.somewhere (by omega)
  have H1 := Lib.hid h1
  have H2 := Lib.hid h2
  have H := Lib.hid h
  clear h1 h2 h
  go_enter Try.func34, Try.ntmps34
  go_wp2
  go_loopw [8] (fun i wr => ∃ j : Nat, j ≤ k ∧ i = .int .i64 j ∧ Fr [] w wr) (fun i _ => k + 1 - (intOf i).toNat)
  case atStart => exact ⟨0, Nat.zero_le _, rfl, Fr.refl _ _⟩
  case round =>
    obtain ⟨j, hj, rfl, hf⟩ := hrel
    have hs := H.out.fr hf (by simp)
    obtain ⟨hc0, hc1⟩ := hs.pair (k := j) (by omega)
    have htr : wr.cell? ⟨tb, 0, none⟩ = some (.int .i64 t) := (World.cell?_of_block (hf.block tb htb (by simp))).trans ht
    have hjl : (j : Int) < (l.length : Int) := by omega
    have HF := Lib.hid hf
    clear hs hf
    by_cases hjk : j < k
    · have hx : (l[j].1 == t) = false := beq_eq_false_iff_ne.2 (H2.out j hjk)
      have HX := Lib.hid hx
      clear hx
      go_wp2_with (go_at_call 35; refine (isTick_any _ _ _ _ _ false HX.out htr).mono ?_; rintro e w' ⟨rfl, hf'⟩)
      go_roundw
      case rel => exact ⟨j + 1, by omega, by go_num, HF.out.trans hf' (by simp [Ext])⟩
      case measure => simp [intOf]; omega
    · obtain rfl : j = k := by omega
      have hx : (l[j].1 == t) = true := beq_iff_eq.2 H1.out
      have HX := Lib.hid hx
      clear hx
      go_wp2_with (go_at_call 35; refine (isTick_any _ _ _ _ _ true HX.out htr).mono ?_; rintro e w' ⟨rfl, hf'⟩)
      go_ret
      exact ⟨rfl, HF.out.trans hf' (by simp [Ext])⟩

/-- the tick is too old -/
theorem rewind_stale {Fr' : List Nat} (h : IsRing w r p Fr' R) (tick : Int) (h0 : R.ents.length = 0 ∨ tick < R.oldest) :
    Calls Try.prog 16 #[.pointer (some ⟨r, 0, none⟩), .int .i64 tick] w fun e w' => e = .returned (.int .i64 24) ∧ Fr [] w w' := by
  have hh := h
  obtain ⟨ea, ec, h⟩ := h
  have c2 : (w.alloc (.cells #[.int .i64 tick] 3)).cell? ⟨r, 2, none⟩ = some (.slice ea R.ents.length ec) := (cell_blk (alloc_old h.head) 2).trans rfl
  have hr : ∀ k, IsRing ((w.alloc (.cells #[.int .i64 tick] 3)).drewN k) r p Fr' R := fun k => hh.fr (((Fr.refl [] w).alloc _).drewN k) (by simp)
  have HRI := Lib.hid hr
  have hf : ∀ k, Fr [] w ((w.alloc (.cells #[.int .i64 tick] 3)).drewN k) := fun k => ((Fr.refl [] w).alloc _).drewN k
  have HF := Lib.hid hf
  clear h hr hf
  by_cases hz : R.ents.length = 0
  · have hd : ((R.ents.length : Int) == 0) = true := beq_iff_eq.2 (by omega)
    clear hz
    go_enter Try.func16, Try.ntmps16
    go_wp2
    go_quiet (fail)
    go_wp2
    go_ret
    exact ⟨rfl, HF.out _⟩
  · have hd : ((R.ents.length : Int) == 0) = false := beq_eq_false_iff_ne.2 (by omega)
    have hlt : tick < R.oldest := by rcases h0 with h0 | h0; exact absurd h0 hz; exact h0
    clear hz h0
    go_enter Try.func16, Try.ntmps16
    go_wp2
    go_quiet ((go_at_call 14; exact quiet1 (oldest_any (HRI.out _))))
    go_wp2
    go_ret
    exact ⟨rfl, HF.out _⟩

/-- the tick has not come yet -/
theorem rewind_range {Fr' : List Nat} (h : IsRing w r p Fr' R) (tick : Int) (h0 : 0 < R.ents.length) (h1 : ¬ tick < R.oldest) (h2 : R.newest < tick) :
    Calls Try.prog 16 #[.pointer (some ⟨r, 0, none⟩), .int .i64 tick] w fun e w' => e = .returned (.int .i64 6) ∧ Fr [] w w' := by
  have hh := h
  obtain ⟨ea, ec, h⟩ := h
  have c2 : (w.alloc (.cells #[.int .i64 tick] 3)).cell? ⟨r, 2, none⟩ = some (.slice ea R.ents.length ec) := (cell_blk (alloc_old h.head) 2).trans rfl
  have hr : ∀ k, IsRing ((w.alloc (.cells #[.int .i64 tick] 3)).drewN k) r p Fr' R := fun k => hh.fr (((Fr.refl [] w).alloc _).drewN k) (by simp)
  have HRI := Lib.hid hr
  have hf : ∀ k, Fr [] w ((w.alloc (.cells #[.int .i64 tick] 3)).drewN k) := fun k => ((Fr.refl [] w).alloc _).drewN k
  have HF := Lib.hid hf
  clear h hr hf
  have hd : ((R.ents.length : Int) == 0) = false := beq_eq_false_iff_ne.2 (by omega)
  clear h0
  go_enter Try.func16, Try.ntmps16
  go_wp2
  go_quiet ((go_at_call 14; exact quiet1 (oldest_any (HRI.out _))))
  go_wp2
  go_quiet ((go_at_call 15; exact quiet2d (newest_any (HRI.out _))))
  go_wp2
  go_ret
  exact ⟨rfl, (HF.out _).drewN _⟩

def RingS.back (R : RingS) (k : Nat) : RingS := { keep := R.keep, ents := R.ents.take (k + 1) }

theorem MemTo.ofDrew {w w' : World} {p : Nat} {F : List Nat} {s : MemS} {n : Nat} (h : MemTo (w.drewN n) p F s w') : MemTo w p F s w' := by
  obtain ⟨F', h1, h2, h3⟩ := h
  exact ⟨F', h1, ((Fr.refl F w).drewN n).trans h2 (fun i hi => .inl hi), h3⟩

theorem back_to {Fm Fr' : List Nat} (_hm : IsMem w p Fm m) {ea : Option Addr} {ec : Nat} (h : IsRingAt w r p Fr' R ea ec) (hd : ∀ k ∈ Fm, k ∉ Fr') {k : Nat} (hk : k < R.ents.length) {w1 w3 : World} {m'' : MemS}
    (hf : Fr [] w w1) (hm3 : MemTo w1 p Fm m'' w3) : BothTo w p r (Fm ++ Fr') m'' (R.back k) (w3.setCell ⟨r, 2, none⟩ (.slice ea (k + 1) ec)) := by
  obtain ⟨Fm', m1, m2, m3⟩ := hm3
  have hb := h.blocks
  have hs := hf.size
  have hlt := h.lt
  have hFm : ∀ i ∈ Fm', i ∈ Fm ∨ w.heap.size ≤ i := fun i hi => by rcases m3 i hi with h1 | h1; exact .inl h1; exact .inr (by omega)
  have hd' : ∀ i ∈ Fm', i ∉ Fr' := fun i hi hi2 => by
    rcases hFm i hi with h1 | h1
    · exact hd i h1 hi2
    · have := hlt i hi2; omega
  have f1 : Fr (Fm ++ Fr') w w3 := (hf.mono (by simp)).trans m2 (fun i hi => .inl (by simp [hi]))
  have hh : w3.heap[r]? = _ := m2.blk (hf.blk h.head (by simp)) (fun hi => hd r hi (by simp [hb]))
  have hsg : Seg w3 59 2 ea R.ents.length ec (pairs R.ents) := (h.ents.fr hf (by simp)).fr m2 (fun i hi hi2 => hd i hi2 (by simp [hb, hi]))
  refine ⟨Fm' ++ Fr', ⟨Fm', Fr', ?_, ⟨ea, ec, hb, h.re, ?_, ?_⟩, hd', rfl⟩, f1.setCell (.inl (by simp [hb])) _, fun i hi => ?_⟩
  · exact m1.fr ((Fr.refl [r] w3).setCell (.inl (by simp)) _) (fun i hi hi2 => by simp at hi2; subst hi2; exact hd' _ hi (by simp [hb]))
  · rw [setCell_blk hh]
    simp [RingS.back, show min (k + 1) R.ents.length = k + 1 by omega]
  · have h1 := Seg.setCell_other (p := ⟨r, 2, none⟩) (v := .slice ea (k + 1) ec) (hsg.take (k := k + 1) (by omega)) h.re
    rw [pairs_take] at h1
    simpa [RingS.back, show min (k + 1) R.ents.length = k + 1 by omega] using h1
  · rcases List.mem_append.1 hi with hi | hi
    · rcases hFm i hi with h1 | h1
      · exact .inl (by simp [h1])
      · exact .inr h1
    · exact .inl (by simp [hi])

set_option maxHeartbeats 1000000 in
theorem rewind_ok {Fm Fr' : List Nat} (hm : IsMem w p Fm m) (h : IsRing w r p Fr' R) (hd : ∀ k ∈ Fm, k ∉ Fr') (tick : Int) (h1 : ¬ tick < R.oldest) (h2 : ¬ R.newest < tick)
    (k : Nat) (hk : k < R.ents.length) (hkt : R.ents[k].1 = tick) (hfirst : ∀ j (hj : j < k), (R.ents[j]'(by omega)).1 ≠ tick)
    (hok : m.ok) (hb : 0 ≤ m.base) (hml : m.base + m.log.length ≤ 1099511627776) (hx1 : m.base ≤ R.ents[k].2) (hx2 : R.ents[k].2 ≤ m.base + m.log.length) :
    Calls Try.prog 16 #[.pointer (some ⟨r, 0, none⟩), .int .i64 tick] w fun e w' => e = .returned (.int .i64 0) ∧ BothTo w p r (Fm ++ Fr') (m.undo R.ents[k].2) (R.back k) w' := by
  have hh := h
  obtain ⟨ea, ec, h⟩ := h
  have c2 : (w.alloc (.cells #[.int .i64 tick] 3)).cell? ⟨r, 2, none⟩ = some (.slice ea R.ents.length ec) := (cell_blk (alloc_old h.head) 2).trans rfl
  have hr : ∀ k, IsRing ((w.alloc (.cells #[.int .i64 tick] 3)).drewN k) r p Fr' R := fun k => hh.fr (((Fr.refl [] w).alloc _).drewN k) (by simp)
  have HRI := Lib.hid hr
  have hf : ∀ k, Fr [] w ((w.alloc (.cells #[.int .i64 tick] 3)).drewN k) := fun k => ((Fr.refl [] w).alloc _).drewN k
  have HF := Lib.hid hf
  have htb : ∀ k, ((w.alloc (.cells #[.int .i64 tick] 3)).drewN k).cell? ⟨w.heap.size, 0, none⟩ = some (.int .i64 tick) := fun k => by
    show (w.alloc _).cell? _ = _
    rw [World.cell?_alloc_new]; rfl
  have HTB := Lib.hid htb
  have hseg : ∀ k, Seg ((w.alloc (.cells #[.int .i64 tick] 3)).drewN k) 59 2 ea R.ents.length ec (pairs R.ents) := fun k => (h.ents.alloc _).drewN k
  have HSEG := Lib.hid hseg
  have H := Lib.hid h
  have HKT := Lib.hid hkt
  have HFI := Lib.hid hfirst
  clear h hr hf htb hseg hkt hfirst
  have hd0 : ((R.ents.length : Int) == 0) = false := beq_eq_false_iff_ne.2 (by omega)
  go_enter Try.func16, Try.ntmps16
  go_wp2
  go_quiet ((go_at_call 14; exact quiet1 (oldest_any (HRI.out _))))
  go_wp2
  go_quiet ((go_at_call 15; exact quiet2d (newest_any (HRI.out _))))
  go_wp2_with (go_at_call 34; refine (index_any (HSEG.out _) tick _ (HTB.out _) (by simp [World.drewN]) k hk HKT.out HFI.out).mono ?_; rintro e w1 ⟨rfl, hf1⟩)
  have hfw : Fr [] w w1 := (((HF.out 0).drewN _)).trans hf1 (by simp [Ext])
  have r1 : IsRingAt w1 r p Fr' R ea ec := ⟨H.out.blocks, H.out.re, hfw.blk H.out.head (by simp), H.out.ents.fr hfw (by simp)⟩
  have d0 := r1.c0
  have d2 := r1.c2
  obtain ⟨g, off, rfl⟩ := r1.ents.somewhere (by omega)
  have cx := (r1.ents.pair hk).2
  have hm1 : IsMem w1 p Fm m := hm.fr hfw (by simp)
  have hkl : (k : Int) < (R.ents.length : Int) := by omega
  have hec := r1.len
  have hto : ∀ u, (Instr.slice 55 (.slice (some ⟨g, off, none⟩) R.ents.length ec) none (some (.int .i64 ((k : Int) + 1))) none).run Try.prog u = .ok (.slice (some ⟨g, off, none⟩) (k + 1) ec) u := fun u => by
    have := run_slice_to (P := Try.prog) 55 59 Try.underlying55 2 (by kernel_rfl) (some ⟨g, off, none⟩) R.ents.length ec (k + 1) (by omega) u
    simpa using this
  have hrf : ∀ w3, MemTo w1 p Fm (m.undo R.ents[k].2) w3 → w3.cell? ⟨r, 2, none⟩ = some (.slice (some ⟨g, off, none⟩) R.ents.length ec) ∧ w3.frozen? ⟨r, 2, none⟩ = false := fun w3 ⟨_, _, hx, _⟩ => by
    have := hx.blk r1.head (fun hi => hd r hi (by simp [H.out.blocks]))
    exact ⟨(cell_blk this 2).trans rfl, frozen_blk this 2⟩
  have HRF := Lib.hid hrf
  have R1 := Lib.hid r1
  have HFW := Lib.hid hfw
  clear r1 hfw hrf hf1
  refine wp_still_tail 12 (by kernel_rfl) (by kernel_rfl) ?_
  simp only [List.take_succ_cons, List.take_zero, List.drop_succ_cons, List.drop_zero]
  repeat still_step
  refine wpStill_nil ?_
  go_wp2_with (go_at_call 36; refine (undo_mark (hm1.drewN 1) _ hok hb hml hx1 hx2).mono ?_; rintro e w3 ⟨rfl, hm3⟩; obtain ⟨z2, z2f⟩ := HRF.out w3 hm3.ofDrew)
  go_ret
  exact ⟨rfl, back_to hm H.out hd hk HFW.out hm3.ofDrew⟩
end
end Go.Proofs.Ytchigfofcdildaa
