/- Package cellmem: contracts of Set, New and Cells. -/
import Derived.Test.YtoolojpjopodgaaMem
namespace Go.Proofs.Ytoolojpjopodgaa
open Go.RowKit

theorem infoEntry : (Try.prog.info? 68).map (fun i => (i.zero, i.size, i.bytes)) = some (some (.agg #[.int .i64 0, .int .i64 0]), 2, 16) := by kernel_rfl

def MemS.set (s : MemS) (i v : Int) : MemS := if s.has i then { cells := s.cells.set i.toNat v, log := s.log ++ [(i, s.cells.getD i.toNat 0)], base := s.base } else s

section
variable {w : World} {p : Nat} {F : List Nat} {s : MemS}

theorem new_two (w : World) (x y : Value) (t : TypeId) : ∀ j u, [x, y][j]? = some u → (w.alloc (.cells #[x, y] t)).cell? ((⟨w.heap.size, 0, none⟩ : Addr).add j) = some u := by
  intro j u hu
  rw [Addr.add_mid, Nat.zero_add, World.cell?_alloc_new]
  simpa using hu

theorem set_no (h : IsMem w p F s) (i v : Int) (h0 : ¬ (0 ≤ i ∧ i < s.cells.length)) :
    Calls Try.prog 15 #[.pointer (some ⟨p, 0, none⟩), .int .i64 i, .int .i64 v] w fun e w' => e = .returned (.tuple #[]) ∧ w = w' := by
  go_enter Try.func15, Try.ntmps15
  go_wp2_with (go_at_call 39; refine (has_no h _ h0).mono ?_; rintro e w' ⟨rfl, rfl⟩)
  refine bodyPost_ret (results_none rfl _ _ _) rfl ⟨rfl, rfl⟩

theorem set_to (k : Nat) (v : Int) (hk : k < s.cells.length) {g off : Nat} {cc : Nat} {la : Option Addr} {lc : Nat} (h : IsMemAt w p F s (some ⟨g, off, none⟩) cc la lc) {ao' : Option Addr} {cap' : Nat} {o : Obj} {w1 : World}
    (hs1 : Seg w1 68 2 ao' (s.log.length + 1) cap' (pairs s.log ++ [.int .i64 k, .int .i64 s.cells[k]])) (hfr1 : Fr (blk la) (w.drew.alloc o) w1) (hext : Ext (blk la) (w.drew.alloc o) (blk ao')) :
    MemTo w p F (s.set k v) ((w1.setCell ⟨p, 1, none⟩ (.slice ao' (s.log.length + 1) cap')).setCell ⟨g, off + k, none⟩ (.int .i64 v)) := by
  have hpc := h.pc
  have hpl := h.pl
  have hcl := h.cl
  have hb := h.blocks
  have hp := lt_of_blk h.head
  have hg := h.cells.lt g (by simp [blk])
  simp only [blk, List.mem_singleton] at hpc hcl
  have hgl : g ∉ blk la := hcl g rfl
  have hse : s.set k v = { cells := s.cells.set k v, log := s.log ++ [((k : Int), s.cells[k])], base := s.base } := by
    have hs : s.has k = true := by simp [MemS.has, hk]
    simp [MemS.set, hs, hk]
  have hw1 : Fr F w w1 := (((Fr.refl F w).drew.alloc o)).trans hfr1 (fun i hi => .inl (by simp [hb, hi]))
  have hsz := hw1.size
  have hnew : ∀ i ∈ blk ao', i ∈ blk la ∨ w.heap.size ≤ i := fun i hi => by rcases hext i hi with h1 | h1; exact .inl h1; simp at h1; exact .inr (by omega)
  have hpa : p ∉ blk ao' := fun hi => by rcases hnew p hi with h1 | h1; exact hpl h1; omega
  have hga : g ∉ blk ao' := fun hi => by rcases hnew g hi with h1 | h1; exact hgl h1; omega
  have hd1 := hfr1.blk (alloc_old (w := w.drew) h.head) hpl
  have hgp : g ≠ p := fun e => hpc e.symm
  refine ⟨p :: (g :: blk ao'), ⟨some ⟨g, off, none⟩, cc, ao', cap', ?_⟩, (hw1.setCell (.inl (by simp [hb])) _).setCell (.inl (by simp [hb, blk])) _, fun i hi => ?_⟩
  · rw [hse]
    refine ⟨rfl, by simpa [blk] using hpc, hpa, fun i hi => by simp [blk] at hi; subst hi; exact hga, ?_, ?_, ?_⟩
    · rw [setCell_ne (by simpa using hgp.symm), setCell_blk hd1]
      simp
    · have hc1 : Seg (w1.setCell ⟨p, 1, none⟩ (.slice ao' (s.log.length + 1) cap')) 3 1 (some ⟨g, off, none⟩) s.cells.length cc (ints s.cells) :=
        Seg.setCell_other (((h.cells.drew.alloc o)).fr hfr1 (by simpa [blk] using hgl)) (by simpa [blk] using hpc)
      have := hc1.store (i := k) (by omega) (.int .i64 v)
      simpa [ints] using this
    · have h2 := Seg.setCell_other (p := ⟨g, off + k, none⟩) (v := .int .i64 v) (Seg.setCell_other (p := ⟨p, 1, none⟩) (v := .slice ao' (s.log.length + 1) cap') hs1 hpa) hga
      rw [pairs_append]
      simpa [pairs] using h2
  · simp only [List.mem_cons] at hi
    rw [hb]
    rcases hi with rfl | rfl | hi
    · simp
    · simp [blk]
    · rcases hnew i hi with h1 | h1
      · simp [h1]
      · exact .inr h1

theorem set_yes (h : IsMem w p F s) (k : Nat) (v : Int) (hk : k < s.cells.length) (hl : s.log.length < 1099511627776) :
    Calls Try.prog 15 #[.pointer (some ⟨p, 0, none⟩), .int .i64 k, .int .i64 v] w fun e w' => e = .returned (.tuple #[]) ∧ MemTo w p F (s.set k v) w' := by
  have hh := h
  obtain ⟨ca, cc, la, lc, h⟩ := h
  have c0 := h.c0
  have c1 := h.c1
  have f1 := frozen_blk h.head 1
  have hp := lt_of_blk h.head
  have hhead := h.head
  obtain ⟨g, off, cur, rfl, hg, hfit, hc, hf⟩ := h.cells.at (by have := h.cells.2.2.1; omega)
  have hlen := h.len.1
  have cx : w.cell? ⟨g, off + k, none⟩ = some (.int .i64 s.cells[k]) := by rw [hc k (by omega), ints_get, List.getElem?_eq_getElem hk]; rfl
  have fx := hf (off + k)
  have hseg := h.log
  have hpc := h.pc
  have hpl := h.pl
  have hcl := h.cl
  simp only [blk, List.mem_singleton] at hpc hcl
  have hgl : g ∉ blk la := hcl g rfl
  obtain ⟨i0, hi, hz0, hz1, hz2⟩ := info_parts infoEntry
  clear hc hf hfit
  have H := Lib.hid h
  clear h
  go_enter Try.func15, Try.ntmps15
  go_wp2_with (go_at_call 39; refine (has_yes hh _ (by omega) (by omega)).mono ?_; rintro e w' ⟨rfl, rfl⟩)
  go_region_law (refine step_append_seg rfl _ _ 63 rfl 68 i0 _ 2 16 Try.underlying63 hi hz0 hz1 hz2 rfl (by decide) la s.log.length lc (pairs s.log) rfl (hseg.drew.alloc _) ⟨w.heap.size, 0, none⟩ 1 1 [.int .i64 k, .int .i64 s.cells[k]] rfl rfl (new_two w.drew _ _ _) (by simp [Value.oneCell']) (by unfold maxLen; omega) (by omega) ?_; intro ao' cap' w1 hs1 hfr1 hext1; have hd1 := hfr1.blk (alloc_old (w := w.drew) hhead) hpl; have k1 := cell_blk hd1 1; simp at k1; have k0 := cell_blk hd1 0; simp at k0; have e1 := frozen_blk hd1 1; have hg1 := hfr1.blk (alloc_old (w := w.drew) hg) hgl; have kx := (cell_blk hg1 (off + k)).trans ((cell_blk hg (off + k)).symm.trans cx); have ex := frozen_blk hg1 (off + k))
  go_wp2
  all_goals
    go_end0
    exact ⟨rfl, set_to k v hk H.out hs1 hfr1 hext1⟩
theorem IsMem.to (h : IsMem w p F s) : MemTo w p F s w := ⟨F, h, Fr.refl _ _, Ext.refl _ _⟩

theorem set_any (h : IsMem w p F s) (i v : Int) (hl : s.log.length < 1099511627776) :
    Calls Try.prog 15 #[.pointer (some ⟨p, 0, none⟩), .int .i64 i, .int .i64 v] w fun e w' => e = .returned (.tuple #[]) ∧ MemTo w p F (s.set i v) w' := by
  by_cases h0 : 0 ≤ i ∧ i < s.cells.length
  · obtain ⟨h1, h2⟩ := h0
    obtain ⟨k, rfl⟩ := Int.eq_ofNat_of_zero_le h1
    exact set_yes h k v (by omega) hl
  · refine (set_no h i v h0).mono fun e w' ⟨he, hw⟩ => ⟨he, ?_⟩
    subst hw
    have : s.set i v = s := by simp [MemS.set, MemS.has, h0]
    rw [this]
    exact h.to

end
end Go.Proofs.Ytoolojpjopodgaa
