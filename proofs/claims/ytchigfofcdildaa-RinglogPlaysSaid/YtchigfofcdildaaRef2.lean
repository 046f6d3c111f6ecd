/- The reference of chapter 24: Set. -/
import Derived.Test.YtchigfofcdildaaRef
namespace Go.Proofs.Ytchigfofcdildaa
open Go.RowKit

section
variable {w : World} {G : List Nat} {v : Value} {S : Sp}

/-- the end of Set -/
theorem refset_to {ca la : Option Addr} {cc lc : Nat} {es : List Ent} {w3 w4 w' : World} {ao' : Option Addr} {cap' b : Nat} {cs : List Int} {v0 : Value}
    (h : RefAt w G v0 S ca cc la lc es) (hG : ∀ k ∈ G, k < w.heap.size) (hcs : cs.length = 6) (hf : Fr [] w w3) (hn : ∀ k ∈ blk ao', b ≤ k) (hb : w.heap.size + 2 ≤ b)
    (hs : Seg w4 3 1 ao' cs.length cap' (ints cs)) (h4 : Fr [b] w3 w4 ∨ Fr (blk ao') w3 w4) (h5 : Fr [w.heap.size, w.heap.size + 1] w4 w') :
    RefTo w G { S with cells := cs } (fun v' => .returned v') (.returned (.agg #[.int .i64 S.keep, .slice ao' cs.length cap', .slice la es.length lc])) w' := by
  have hs3 := hf.size
  have h34 : Fr [] w w4 := by
    rcases h4 with h4 | h4
    · exact hf.trans h4 (fun k hk => by simp at hk; subst hk; right; omega)
    · exact hf.trans h4 (fun k hk => .inr (by have := hn k hk; omega))
  have hw' : Fr [] w w' := h34.trans h5 (fun k hk => by simp at hk; right; omega)
  have hk : Kept G w w' := fun k hk => hw'.block k (hG k hk) (by simp)
  refine ⟨_, blk ao' ++ G, rfl, ⟨ao', cap', la, lc, es, rfl, hcs, h.keep, h.few, h.none, ?_, fun k hk => by simp [hk], h.L, h.cap, h.big, h.ents.kept fun k hm => hk k (h.inL k hm), fun k hm => by simp [h.inL k hm], fun e he => ⟨((h.each e he).1.kept hk).mono fun k hm => by simp [hm], (h.each e he).2⟩⟩, hw', fun k hm => ?_⟩
  · exact (hs.fr h5 (fun k hk hm => by have := hn k hk; simp at hm; omega)).rd
  · rcases List.mem_append.1 hm with hm | hm
    · exact ⟨.inr (by have := hn k hm; omega), Nat.lt_of_lt_of_le (hs.lt k hm) h5.size⟩
    · exact ⟨.inl hm, Nat.lt_of_lt_of_le (hG k hm) hw'.size⟩

theorem refset_mid {v0 v1 v2 u0 u1 u2 : Value} {w3 : World} (hf : Fr (blk (some ⟨w.heap.size + 1 + 1, 0, none⟩)) (((w.alloc (.cells #[v0, v1, v2] 45)).alloc (.cells #[u0, u1, u2] 45)).alloc (.cells #[] 3)) w3) :
    w3.cell? ⟨w.heap.size, 0, none⟩ = some v0 ∧ w3.cell? ⟨w.heap.size, 1, none⟩ = some v1 ∧ w3.cell? ⟨w.heap.size, 2, none⟩ = some v2 ∧ w3.frozen? ⟨w.heap.size, 1, none⟩ = false ∧
    w3.cell? ⟨w.heap.size + 1, 0, none⟩ = some u0 ∧ w3.cell? ⟨w.heap.size + 1, 1, none⟩ = some u1 ∧ w3.cell? ⟨w.heap.size + 1, 2, none⟩ = some u2 ∧
    w3.frozen? ⟨w.heap.size + 1, 0, none⟩ = false ∧ w3.frozen? ⟨w.heap.size + 1, 1, none⟩ = false ∧ w3.frozen? ⟨w.heap.size + 1, 2, none⟩ = false := by
  have hb0 := hf.blk (alloc_old (alloc_old (alloc_new w (.cells #[v0, v1, v2] 45)))) (by simp [blk]; omega)
  have hb1 := hf.blk (alloc_old (alloc_new (w.alloc (.cells #[v0, v1, v2] 45)) (.cells #[u0, u1, u2] 45))) (by simp [blk])
  rw [World.size_alloc] at hb1
  exact ⟨cell_blk hb0 0, cell_blk hb0 1, cell_blk hb0 2, frozen_blk hb0 1, cell_blk hb1 0, cell_blk hb1 1, cell_blk hb1 2, frozen_blk hb1 0, frozen_blk hb1 1, frozen_blk hb1 2⟩

theorem refset_row {o1 o2 o3 : Obj} {w3 : World} {ao' : Option Addr} {cap' k : Nat} (hs : Seg w3 3 1 ao' S.cells.length cap' (ints S.cells))
    (hx : Ext (blk (some ⟨w.heap.size + 1 + 1, 0, none⟩)) (((w.alloc o1).alloc o2).alloc o3) (blk ao')) (hk : k < 6) (hl : S.cells.length = 6) :
    ∃ g2 off2, ao' = some ⟨g2, off2, none⟩ ∧ g2 ≠ w.heap.size ∧ g2 ≠ w.heap.size + 1 ∧ w.heap.size + 2 ≤ g2 ∧ (∃ y, w3.cell? ⟨g2, off2 + k, none⟩ = some y) ∧ w3.frozen? ⟨g2, off2 + k, none⟩ = false := by
  obtain ⟨g2, off2, cur, rfl, _, _, hc, hf⟩ := hs.at (by have := hs.2.2.1; omega)
  have := hx g2 (by simp [blk])
  simp [blk] at this
  refine ⟨g2, off2, rfl, by omega, by omega, by omega, ?_, hf _⟩
  rw [hc k (by omega), ints_get, List.getElem?_eq_getElem (by omega)]
  exact ⟨_, rfl⟩

set_option maxHeartbeats 1000000 in
theorem refset_any (h : IsRef w G v S) (hG : ∀ k ∈ G, k < w.heap.size) (i x : Int) : Calls Try.prog 25 #[v, .int .i64 i, .int .i64 x] w (RefTo w G (S.set i x) (fun v' => .returned v')) := by
  obtain ⟨ca, cc, la, lc, es, h⟩ := h
  obtain rfl := h.val
  obtain ⟨i0, hi0, hz0, hz1, hz2⟩ := info_parts infoInt
  have hl := h.six
  obtain ⟨g, off, rfl, hg, hc⟩ := h.cells.at (by omega)
  have HN := Lib.hid fun (o1 o2 o3 : Obj) => (fun j u hu => by
    have hj : j < S.cells.length := by have := (List.getElem?_eq_some_iff.1 hu).1; rwa [ints_length] at this
    rw [Addr.add_mid, ← hu, ← hc j (by omega)]
    have e1 := Go.heap_alloc_old w o1 hg
    have e2 := Go.heap_alloc_old (w.alloc o1) o2 (r := g) (by simp; omega)
    have e3 := Go.heap_alloc_old ((w.alloc o1).alloc o2) o3 (r := g) (by simp; omega)
    exact World.cell?_of_block (a := ⟨g, off + j, none⟩) (e3.trans (e2.trans e1)) : ∀ j u, (ints S.cells)[j]? = some u → (((w.alloc o1).alloc o2).alloc o3).cell? ((⟨g, off, none⟩ : Addr).add j) = some u)
  have HS := Lib.hid fun (o1 o2 : Obj) => (⟨by simp, by simp, by simp, .inr ⟨w.heap.size + 1 + 1, 0, _, rfl, by simpa using alloc_new ((w.alloc o1).alloc o2) (.cells #[] 3), by simp, by simp⟩⟩ : Seg (((w.alloc o1).alloc o2).alloc (.cells #[] 3)) 3 1 (some ⟨w.heap.size + 1 + 1, 0, none⟩) 0 0 [])
  have HF := Lib.hid fun (o1 o2 o3 : Obj) => (((Fr.refl [] w).alloc o1).alloc o2).alloc o3
  have H := Lib.hid h
  have HL := Lib.hid hl
  have HG := Lib.hid hG
  have hl6 : S.cells.length ≤ 6 := by omega
  have hl7 : 6 ≤ S.cells.length := by omega
  clear hc h hl hG
  by_cases hin : 0 ≤ i ∧ i < 6
  · obtain ⟨k, rfl⟩ := Int.eq_ofNat_of_zero_le hin.1
    have hk6 : k < 6 := by omega
    clear hin
    go_enter Try.func25, Try.ntmps25
    go_wp2_with (at_builtin; refine wpList_append_seg rfl _ _ 36 rfl 3 i0 _ 1 8 Try.underlying36 hi0 hz0 hz1 hz2 rfl (by decide) (some ⟨w.heap.size + 1 + 1, 0, none⟩) 0 0 [] rfl (HS.out _ _) ⟨g, off, none⟩ S.cells.length cc (ints S.cells) rfl (by rw [ints_length]; omega) (HN.out _ _ _) (ints_one _) (by unfold maxLen; omega) (by omega) ?_; intro ao' cap' w3 hs3 hf3 hx3; simp only [Nat.zero_add, List.nil_append] at hs3; obtain ⟨k0, k1, k2, e1, r0, r1, r2, q0, q1, q2⟩ := refset_mid hf3; obtain ⟨g2, off2, rfl, d1, d2, d3, ⟨y, cx⟩, fx⟩ := refset_row hs3 hx3 hk6 HL.out; have HS3 := Lib.hid hs3; have HF3 := Lib.hid hf3; have HX3 := Lib.hid hx3; clear hs3 hf3 hx3)
    refine bodyPost_ret (v := .agg #[.int .i64 S.keep, .slice (some ⟨g2, off2, none⟩) S.cells.length cap', .slice la es.length lc]) (by simp [results, Try.results25, go_sem, *]) rfl ?_
    generalize hW : ((((_ : World).setCell _ _).setCell _ _).setCell _ _).setCell _ _ = W5
    have hW5 : Fr [w.heap.size, w.heap.size + 1] (w3.setCell ⟨g2, off2 + k, none⟩ (.int .i64 x)) W5 := by
      rw [← hW]; exact ((((Fr.refl _ _).setCell (.inl (by simp)) _).setCell (.inl (by simp)) _).setCell (.inl (by simp)) _).setCell (.inl (by simp)) _
    have hse : S.set k x = { S with cells := S.cells.set k x } := by unfold Sp.set; rw [if_pos (by rw [HL.out]; omega)]; simp
    rw [hse]
    have := refset_to (w' := W5) (ao' := some ⟨g2, off2, none⟩) (cap' := cap') (cs := S.cells.set k x) H.out HG.out (by rw [List.length_set]; exact HL.out) ((HF.out _ _ _).trans HF3.out (fun k hk => .inr (by simp [blk] at hk; omega))) (b := w.heap.size + 2) (fun k hk => by simp [blk] at hk; omega) (Nat.le_refl _) (by
      have := HS3.out.store (i := k) (by rw [HL.out]; omega) (.int .i64 x)
      rw [List.length_set, show ints (S.cells.set k x) = (ints S.cells).set k (.int .i64 x) by simp [ints]]; exact this) (.inr ((Fr.refl _ _).setCell (.inl (by simp [blk])) _)) hW5
    rw [List.length_set] at this
    exact this
  · by_cases hi : i < 0
    · have hd0 : decide (0 ≤ i) = false := by simp; omega
      go_enter Try.func25, Try.ntmps25
      go_wp2_with (at_builtin; refine wpList_append_seg rfl _ _ 36 rfl 3 i0 _ 1 8 Try.underlying36 hi0 hz0 hz1 hz2 rfl (by decide) (some ⟨w.heap.size + 1 + 1, 0, none⟩) 0 0 [] rfl (HS.out _ _) ⟨g, off, none⟩ S.cells.length cc (ints S.cells) rfl (by rw [ints_length]; omega) (HN.out _ _ _) (ints_one _) (by unfold maxLen; omega) (by omega) ?_; intro ao' cap' w3 hs3 hf3 hx3; simp only [Nat.zero_add, List.nil_append] at hs3; obtain ⟨k0, k1, k2, e1, r0, r1, r2, q0, q1, q2⟩ := refset_mid hf3; obtain ⟨g2, off2, rfl, d1, d2, d3, ⟨y, cx⟩, fx⟩ := refset_row (k := 0) hs3 hx3 (by omega) HL.out; have HS3 := Lib.hid hs3; have HF3 := Lib.hid hf3; have HX3 := Lib.hid hx3; clear hs3 hf3 hx3)
      refine bodyPost_ret (v := .agg #[.int .i64 S.keep, .slice (some ⟨g2, off2, none⟩) S.cells.length cap', .slice la es.length lc]) (by simp [results, Try.results25, go_sem, *]) rfl ?_
      generalize hW : ((((_ : World).setCell _ _).setCell _ _).setCell _ _).setCell _ _ = W5
      have hW5 : Fr [w.heap.size, w.heap.size + 1] w3 W5 := by
        rw [← hW]; exact ((((Fr.refl _ _).setCell (.inl (by simp)) _).setCell (.inl (by simp)) _).setCell (.inl (by simp)) _).setCell (.inl (by simp)) _
      have hse : S.set i x = { S with cells := S.cells } := by unfold Sp.set; rw [if_neg (by rw [HL.out]; omega)]
      rw [hse]
      exact refset_to (w' := W5) (w4 := w3) H.out HG.out HL.out ((HF.out _ _ _).trans HF3.out (fun k hk => .inr (by simp [blk] at hk; omega))) (b := w.heap.size + 2) (fun k hk => by simp [blk] at hk; omega) (Nat.le_refl _) HS3.out (.inr (Fr.refl _ _)) hW5
    · have hd0 : decide (0 ≤ i) = true := by simp; omega
      have hd1 : decide (i < (S.cells.length : Int)) = false := by simp; omega
      go_enter Try.func25, Try.ntmps25
      go_wp2_with (at_builtin; refine wpList_append_seg rfl _ _ 36 rfl 3 i0 _ 1 8 Try.underlying36 hi0 hz0 hz1 hz2 rfl (by decide) (some ⟨w.heap.size + 1 + 1, 0, none⟩) 0 0 [] rfl (HS.out _ _) ⟨g, off, none⟩ S.cells.length cc (ints S.cells) rfl (by rw [ints_length]; omega) (HN.out _ _ _) (ints_one _) (by unfold maxLen; omega) (by omega) ?_; intro ao' cap' w3 hs3 hf3 hx3; simp only [Nat.zero_add, List.nil_append] at hs3; obtain ⟨k0, k1, k2, e1, r0, r1, r2, q0, q1, q2⟩ := refset_mid hf3; obtain ⟨g2, off2, rfl, d1, d2, d3, ⟨y, cx⟩, fx⟩ := refset_row (k := 0) hs3 hx3 (by omega) HL.out; have HS3 := Lib.hid hs3; have HF3 := Lib.hid hf3; have HX3 := Lib.hid hx3; clear hs3 hf3 hx3)
      refine bodyPost_ret (v := .agg #[.int .i64 S.keep, .slice (some ⟨g2, off2, none⟩) S.cells.length cap', .slice la es.length lc]) (by simp [results, Try.results25, go_sem, *]) rfl ?_
      generalize hW : ((((_ : World).setCell _ _).setCell _ _).setCell _ _).setCell _ _ = W5
      have hW5 : Fr [w.heap.size, w.heap.size + 1] w3 W5 := by
        rw [← hW]; exact ((((Fr.refl _ _).setCell (.inl (by simp)) _).setCell (.inl (by simp)) _).setCell (.inl (by simp)) _).setCell (.inl (by simp)) _
      have hse : S.set i x = { S with cells := S.cells } := by unfold Sp.set; rw [if_neg (by rw [HL.out]; omega)]
      rw [hse]
      exact refset_to (w' := W5) (w4 := w3) H.out HG.out HL.out ((HF.out _ _ _).trans HF3.out (fun k hk => .inr (by simp [blk] at hk; omega))) (b := w.heap.size + 2) (fun k hk => by simp [blk] at hk; omega) (Nat.le_refl _) HS3.out (.inr (Fr.refl _ _)) hW5
end
end Go.Proofs.Ytchigfofcdildaa
