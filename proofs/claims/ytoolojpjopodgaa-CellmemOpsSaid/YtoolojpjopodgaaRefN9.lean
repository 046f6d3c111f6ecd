/- CellmemOps: the reference's New. -/
import Derived.Test.YtoolojpjopodgaaRefS9
namespace Go.Proofs.Ytoolojpjopodgaa
open Go.RowKit

theorem rsG_one (so : Option Addr) (x : RRow) : rsG so none [x] = blk so ++ blk x.o := by simp [rsG, blk]

set_option maxRecDepth 100000 in
set_option maxHeartbeats 4000000 in
theorem rnew_any (w : World) (lo : Option Addr) (lc : Nat) (l : List Int) (hl : l.length = 6) (hs : Rd w 1 lo 6 (ints l)) :
    Calls Try.prog 29 #[.slice lo 6 lc] w (RSet w none none [] ⟨[l], [], 0⟩) := by
  have HO := Lib.hid (fun (u : World) (hu : Fr [] w u) => (by have h := rown_any u lo lc l (by rw [hl]; exact hs.fr hu (by simp)) (by omega); rw [hl] at h; unfold OwnTo at h; rw [hl] at h; exact h))
  have HL := Lib.hid hl
  obtain ⟨w1, hw1⟩ : ∃ u, u = w.alloc (.cells #[.slice none 0 0, .slice none 0 0, .int .i64 0] 50) := ⟨_, rfl⟩
  obtain ⟨q, hq⟩ : ∃ k, k = w.heap.size := ⟨_, rfl⟩
  have HQ := Lib.hid (by rw [hw1, hq]; exact alloc_new _ _ : w1.heap[q]? = some (.cells #[.slice none 0 0, .slice none 0 0, .int .i64 0] 50 (0, 0)))
  have HF := Lib.hid (by rw [hw1]; exact (Fr.refl [] w).alloc _ : Fr [] w w1)
  have HQW := Lib.hid (And.intro hq hw1)
  clear hl hs hw1 hq
  go_enter Try.func29, Try.ntmps29
  go_upto_region 1 with fail
  rw [← HQW.out.2, ← HQW.out.1]
  go_wp2_with fail
  refine (HO.out w1 HF.out).mono ?_
  rintro e w2 ⟨o2, c2, rfl, hs2, f2, hn2⟩
  have hq3 := alloc_old (o' := .cells #[.slice o2 6 c2] 22) (f2.blk HQ.out (by simp))
  have hb3 := alloc_new w2 (.cells #[.slice o2 6 c2] 22)
  have HB3 := Lib.hid hb3
  have HQ3 := Lib.hid hq3
  have HS2 := Lib.hid hs2
  have HN2 := Lib.hid hn2
  have HF1 := Lib.hid (HF.out.trans f2 (by simp [Ext]))
  have HF3 := Lib.hid (HF1.out.alloc (.cells #[.slice o2 6 c2] 22))
  have HF2 := Lib.hid f2
  have d0 := cell_blk hq3 0
  have d1 := cell_blk hq3 1
  have d2 := cell_blk hq3 2
  have fq := frozen_blk hq3
  simp at d0 d1 d2
  clear hs2 f2 hn2 hb3 hq3
  go_wp2_with fail
  obtain ⟨w3, hw3⟩ : ∃ u, u = (((w2.alloc (.cells #[.slice o2 6 c2] 22)).setCell ⟨q, 0, none⟩ (.slice (some ⟨w2.heap.size, 0, none⟩) 1 1)).setCell ⟨q, 1, none⟩ (.slice none 0 0)).setCell ⟨q, 2, none⟩ (.int .i64 0) := ⟨_, rfl⟩
  have hbc := set3 (x := .slice (some ⟨w2.heap.size, 0, none⟩) 1 1) (y := .slice none 0 0) (z := .int .i64 0) HQ3.out
  rw [← hw3] at hbc ⊢
  have t0 := cell_blk hbc 0
  have t1 := cell_blk hbc 1
  have t2 := cell_blk hbc 2
  have hqb : w2.heap.size ≠ q := by have h := lt_of_blk HQ.out; have h2 := HF2.out.size; omega
  have hw23 : Fr [q] w2 w3 := by rw [hw3]; exact ((((Fr.refl [q] w2).alloc _).setCell (.inl (by simp)) _).setCell (.inl (by simp)) _).setCell (.inl (by simp)) _
  have hfw : Fr [] w w3 := HF1.out.trans hw23 (fun k hk => .inr (by simp at hk; have := HQW.out.1; omega))
  have hbb : w3.heap[w2.heap.size]? = some (.cells #[.slice o2 6 c2] 22 (0, 0)) := by
    rw [hw3, setCell_ne (by simpa using hqb), setCell_ne (by simpa using hqb), setCell_ne (by simpa using hqb)]; exact HB3.out
  have hn2 : ∀ k ∈ blk o2, w.heap.size ≤ k ∧ k ≠ q := fun k hk => by have h := HN2.out k hk; have h2 := HF.out.size; have h3 := lt_of_blk HQ.out; exact ⟨by omega, by omega⟩
  refine bodyPost_ret (v := .agg #[.slice (some ⟨w2.heap.size, 0, none⟩) 1 1, .slice none 0 0, .int .i64 0]) (by simp [results, Try.results29, go_sem, t0, t1, t2]) rfl ⟨some ⟨w2.heap.size, 0, none⟩, 1, none, 0, [⟨o2, c2, l⟩], rfl, ⟨rfl, ?_, Seg.nil _ _ 1, fun x hx => ?_, Int.le_refl 0, (by decide : (0 : Int) ≤ 1000), (by decide : 1 ≤ 1000), rfl, fun x hx => by simp at hx; rw [hx]; exact HL.out⟩, fun k hk => ?_, hfw⟩
  · show Seg w3 _ 1 _ 1 1 [RRow.v ⟨o2, c2, l⟩]
    unfold RRow.v
    rw [HL.out]
    exact Seg.one w2.heap.size #[.slice o2 6 c2] 22 1 1 hbb rfl (by unfold maxLen; omega)
  · simp at hx; subst hx
    show Seg w3 _ 1 o2 l.length c2 (ints l)
    rw [HL.out]
    exact HS2.out.fr hw23 (fun k hk h => by simp at h; exact (hn2 k hk).2 h)
  · right
    rw [rsG_one] at hk
    rcases List.mem_append.1 hk with h | h
    · simp [blk] at h; have := HF1.out.size; omega
    · exact (hn2 k h).1
end Go.Proofs.Ytoolojpjopodgaa
