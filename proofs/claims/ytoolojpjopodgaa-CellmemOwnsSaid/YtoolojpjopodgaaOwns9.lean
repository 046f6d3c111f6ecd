/- CellmemOwns returns true. -/
import Derived.Test.YtoolojpjopodgaaBuilt9
namespace Go.Proofs.Ytoolojpjopodgaa
open Go.RowKit

theorem OwnG.put {X : World → List Nat → Prop} {W w : World} {G : List Nat} (hX : Frm X) (h : OwnG X W G w) {b : Nat} (hb : b ∈ G) (i : Nat) (v : Value) : OwnG X W G (w.setCell ⟨b, i, none⟩ v) :=
  h.own hX ((Fr.refl [b] w).setCell (p := ⟨b, i, none⟩) (.inl (by simp)) v) (fun k hk => by simp at hk; rw [hk]; exact hb) (fun k hk => ⟨.inl hk, by simpa using (h.gnew k hk).2⟩)

theorem chg_one (c : List Int) (x : Int) (hc : c.length = 6) : MemS.chg ⟨c, [(2, x)], 0⟩ 0 = [2] := by
  unfold MemS.chg
  simp only [hc]
  rfl

set_option maxRecDepth 100000 in
set_option maxHeartbeats 4000000 in
theorem owns_walk (w : World) (ao bo : Option Addr) (ac bc : Nat) (cells l : List Int) (hc : Rd w 1 ao cells.length (ints cells)) (hl : Rd w 1 bo l.length (ints l)) (hb : ∀ x ∈ l, bounded x) :
    Calls Try.prog 4 #[.slice ao cells.length ac, .slice bo l.length bc] w fun e w' => e = .returned (.bool true) ∧ Fr [] w w' := by
  obtain ⟨X, hX⟩ : ∃ X, X = sixL cells := ⟨_, rfl⟩
  have h6 : X.length = 6 := by rw [hX]; exact sixL_len cells
  have HSX := Lib.hid (fun (u : World) (hf : Fr [] w u) => hX ▸ six_any u ao ac cells (hc.fr hf (by simp)))
  have HOP := Lib.hid (fun (u : World) (hf : Fr [] w u) => ops_any u bo bc l (hl.fr hf (by simp)) hb)
  have H6 := Lib.hid h6
  obtain ⟨x0, hx0⟩ : ∃ x, X[0]'(by omega) = x := ⟨_, rfl⟩
  obtain ⟨x1, hx1⟩ : ∃ x, X[1]'(by omega) = x := ⟨_, rfl⟩
  obtain ⟨x2, hx2⟩ : ∃ x, X[2]'(by omega) = x := ⟨_, rfl⟩
  have RC := Lib.hid (fun (u : World) (b : Nat) (h : u.heap[b]? = some (row X)) => (⟨by rw [← hx0]; exact row_cell h (by omega), by rw [← hx1]; exact row_cell h (by omega), by rw [← hx2]; exact row_cell h (by omega)⟩ : u.cell? ⟨b, 0, none⟩ = some (.int .i64 x0) ∧ u.cell? ⟨b, 1, none⟩ = some (.int .i64 x1) ∧ u.cell? ⟨b, 2, none⟩ = some (.int .i64 x2)))
  have HS1 := Lib.hid (by rw [← hx2]; exact MemS.set_in ⟨X, [], 0⟩ 2 5 (by rw [h6]; omega) : MemS.set ⟨X, [], 0⟩ 2 5 = ⟨X.set 2 5, [(2, x2)], 0⟩)
  have HCH := Lib.hid (chg_one (X.set 2 5) x2 (by simpa using h6))
  have HSL := Lib.hid (by simpa using h6 : (X.set 2 5).length = 6)
  have HXm := Lib.hid (by rw [h6]; unfold maxLen; omega : X.length ≤ maxLen)
  clear hX hc hl hb h6 hx0 hx1 hx2
  go_enter Try.func4, Try.ntmps4
  go_wp2_with fail
  refine (HSX.out w (Fr.refl _ _)).mono ?_
  rintro e w1 ⟨b1, rfl, hn1, hr1, hf1⟩
  have HN := Lib.hid (by
    have h := m_new' (W := w) (G := [b1]) hf1 (some ⟨b1, 0, none⟩) 6 X (row_seg hr1 HXm.out).rd (by rw [H6.out]; omega) (fun k hk => by simp at hk; rw [hk]; exact ⟨hn1, lt_of_blk hr1⟩)
    rw [H6.out] at h
    exact h)
  have R1 := Lib.hid hr1
  clear hr1 hf1 hn1
  go_wp2_with fail
  refine HN.out.mono ?_
  rintro e w2 ⟨p, rfl, h2, k2⟩
  have H2 := Lib.hid h2
  have R2 := Lib.hid ((k2 b1 (by simp)).trans R1.out)
  clear h2 k2 HN R1
  go_wp2_with fail
  refine (HSX.out w2 H2.out.frame).mono ?_
  rintro e w3 ⟨b3, rfl, hn3, hr3, hf3⟩
  have hl1 := lt_of_blk R2.out
  have hne : b1 ≠ b3 := by omega
  have R3 := Lib.hid (hf3.blk R2.out (by simp))
  have S3 := Lib.hid hr3
  have H3 := Lib.hid (H2.out.own (memX_frm _ _ _) hf3 (by simp) (G' := [b3, b1]) (fun k hk => by
    simp at hk
    rcases hk with rfl | rfl
    · exact ⟨.inr hn3, lt_of_blk hr3⟩
    · exact ⟨.inl (by simp), lt_of_blk R3.out⟩))
  obtain ⟨c0, -, -⟩ := RC.out w3 b1 R3.out
  have g0 : w3.frozen? ⟨b1, 0, none⟩ = false := row_frozen R3.out 0
  clear hn3 hr3 hf3 H2 R2 hl1
  go_wp2_with fail
  clear c0 g0
  obtain ⟨w4, hw4⟩ : ∃ w4, w4 = w3.setCell ⟨b1, 0, none⟩ (.int .i64 (wrap64 (x0 + 1))) := ⟨_, rfl⟩
  rw [← hw4]
  have H4 := Lib.hid (by rw [hw4]; exact H3.out.put (memX_frm _ _ _) (by simp) 0 _ : OwnG (memX p ⟨X, [], 0⟩ 0) w [b3, b1] w4)
  have S4 := Lib.hid (by rw [hw4]; exact (setCell_ne (by simp; omega)).trans S3.out : w4.heap[b3]? = some (row X))
  clear hw4 H3 S3 R3
  refine (m_cells H4.out (l := X) rfl).mono ?_
  rintro e w5 ⟨b5, rfl, hr5, h5, k5, n5⟩
  have hne5 : b3 ≠ b5 := by have := lt_of_blk S4.out; omega
  have H5 := Lib.hid h5
  have R5 := Lib.hid hr5
  have S5 := Lib.hid ((k5 b3 (by simp)).trans S4.out)
  clear h5 hr5 k5 n5 H4 S4
  have RA := Lib.hid (by have h := (row_seg R5.out HXm.out).rd; exact h : Rd w5 1 (some ⟨b5, 0, none⟩) X.length (ints X))
  have RB := Lib.hid (by have h := (row_seg S5.out HXm.out).rd; exact h : Rd w5 1 (some ⟨b3, 0, none⟩) X.length (ints X))
  have HS5 := Lib.hid (by have h := same_yes w5 (some ⟨b5, 0, none⟩) (some ⟨b3, 0, none⟩) X.length 6 X RA.out RB.out; rw [H6.out] at h; exact h : Calls Try.prog 18 #[.slice (some ⟨b5, 0, none⟩) 6 6, .slice (some ⟨b3, 0, none⟩) 6 6] w5 fun e w' => e = .returned (.bool true) ∧ ∃ k, w' = w5.drewN k)
  rw [H6.out]
  clear RA RB
  go_wp2_with fail
  refine HS5.out.mono ?_
  rintro e w6 ⟨rfl, k6, rfl⟩
  obtain ⟨-, d1, -⟩ := RC.out (w5.drewN k6) b5 R5.out
  have g1 : (w5.drewN k6).frozen? ⟨b5, 1, none⟩ = false := row_frozen R5.out 1
  go_wp2_with fail
  clear d1 g1 HS5
  obtain ⟨w7, hw7⟩ : ∃ w7, w7 = (w5.drewN k6).setCell ⟨b5, 1, none⟩ (.int .i64 (wrap64 (x1 + 1))) := ⟨_, rfl⟩
  rw [← hw7]
  have H7 := Lib.hid (by rw [hw7]; exact (H5.out.drewN k6).put (memX_frm _ _ _) (by simp) 1 _ : OwnG (memX p ⟨X, [], 0⟩ 0) w [b5, b3, b1] w7)
  have S7 := Lib.hid (by rw [hw7]; exact (setCell_ne (by simp; omega)).trans S5.out : w7.heap[b3]? = some (row X))
  clear hw7 H5 S5 R5
  refine (m_set H7.out 2 5 (by omega) HS1.out).mono ?_
  rintro e w8 ⟨rfl, h8, k8⟩
  have H8 := Lib.hid h8
  have S8 := Lib.hid ((k8 b3 (by simp)).trans S7.out)
  clear h8 k8 H7 S7
  go_wp2_with fail
  refine (m_changed H8.out 0 (by omega) (by simp) (by simp) HCH.out).mono ?_
  rintro e w9 ⟨qo, qc, rfl, hs9, h9, k9, n9⟩
  obtain ⟨g, off, rfl⟩ := hs9.somewhere (by simp)
  have hgb : b3 ≠ g := by have := n9 g (by simp [blk]); have := lt_of_blk S8.out; omega
  obtain ⟨g', off', cur, hgo, -, -, hcq, hfq⟩ := hs9.at (Nat.lt_of_lt_of_le (by simp) hs9.2.2.1)
  cases hgo
  have q0 : w9.cell? ⟨g, off, none⟩ = some (.int .i64 2) := hcq 0 (by simp)
  have q0f : w9.frozen? ⟨g, off, none⟩ = false := hfq off
  have H9 := Lib.hid h9
  have S9 := Lib.hid ((k9 b3 (by simp)).trans S8.out)
  clear hs9 h9 k9 n9 hcq hfq H8 S8
  go_wp2_with fail
  clear q0 q0f
  obtain ⟨w10, hw10⟩ : ∃ w10, w10 = w9.setCell ⟨g, off, none⟩ (.int .i64 4) := ⟨_, rfl⟩
  rw [← hw10]
  have H10 := Lib.hid (by rw [hw10]; exact H9.out.put (memX_frm _ _ _) (by simp [blk]) off _ : OwnG (memX p ⟨X.set 2 5, [(2, x2)], 0⟩ 1) w (blk (some ⟨g, off, none⟩) ++ [b5, b3, b1]) w10)
  have S10 := Lib.hid (by rw [hw10]; exact (setCell_ne (by simp; omega)).trans S9.out : w10.heap[b3]? = some (row X))
  clear hw10 H9 S9
  refine (m_changed H10.out 0 (by omega) (by simp) (by simp) HCH.out).mono ?_
  rintro e w11 ⟨ro, rc, rfl, hs11, h11, k11, n11⟩
  have H11 := Lib.hid h11
  have S11 := Lib.hid ((k11 b3 (by simp)).trans S10.out)
  have hrb : b3 ∉ blk ro := fun hm => by have := n11 b3 hm; have := lt_of_blk S10.out; omega
  have Q11 := Lib.hid hs11
  obtain ⟨-, -, e2⟩ := RC.out w11 b3 S11.out
  have e2f : w11.frozen? ⟨b3, 2, none⟩ = false := row_frozen S11.out 2
  clear hs11 h11 k11 n11 H10 S10
  go_wp2_with fail
  clear e2 e2f
  obtain ⟨w12, hw12⟩ : ∃ w12, w12 = w11.setCell ⟨b3, 2, none⟩ (.int .i64 5) := ⟨_, rfl⟩
  rw [← hw12]
  have H12 := Lib.hid (by rw [hw12]; exact H11.out.put (memX_frm _ _ _) (by simp [blk]) 2 _ : OwnG (memX p ⟨X.set 2 5, [(2, x2)], 0⟩ 1) w (blk ro ++ (blk (some ⟨g, off, none⟩) ++ [b5, b3, b1])) w12)
  have S12 := Lib.hid (by rw [hw12]; exact row_set S11.out 2 5 : w12.heap[b3]? = some (row (X.set 2 5)))
  have Q12 := Lib.hid (by rw [hw12]; exact Q11.out.setCell_other (by simpa using hrb) : Seg w12 3 1 ro 1 rc (ints [2]))
  have hsz12 : w12.heap.size = w11.heap.size := by rw [hw12]; simp
  have AN12 := Lib.hid (by have h := alloc_new w12 (.cells #[.int .i64 2] 3); rw [hsz12] at h; exact h)
  clear hw12 H11 S11 Q11 hsz12
  have HS12 := Lib.hid (same_yes (w12.alloc (.cells #[.int .i64 2] 3)) ro (some ⟨w11.heap.size, 0, none⟩) rc 1 [2] (Q12.out.alloc _).rd (Seg.one w11.heap.size #[.int .i64 2] 3 1 1 AN12.out rfl (by unfold maxLen; omega)).rd)
  refine HS12.out.mono ?_
  rintro e w13 ⟨rfl, k13, rfl⟩
  have H13 := Lib.hid ((H12.out.alloc (.cells #[.int .i64 2] 3)).drewN k13)
  have S13 := Lib.hid (show ((w12.alloc (.cells #[.int .i64 2] 3)).drewN k13).heap[b3]? = some (row (X.set 2 5)) from alloc_old S12.out)
  clear HS12 H12 S12 Q12
  go_wp2_with fail
  refine (m_cells H13.out (l := X.set 2 5) rfl).mono ?_
  rintro e w14 ⟨b14, rfl, hr14, h14, k14, -⟩
  have H14 := Lib.hid h14
  have HS14 := Lib.hid (by
    have h := same_yes w14 (some ⟨b14, 0, none⟩) (some ⟨b3, 0, none⟩) (X.set 2 5).length 6 (X.set 2 5) (row_seg hr14 (by rw [HSL.out]; unfold maxLen; omega)).rd (row_seg ((k14 b3 (by simp)).trans S13.out) (by rw [HSL.out]; unfold maxLen; omega)).rd
    rw [HSL.out] at h
    exact h)
  rw [HSL.out]
  clear hr14 h14 k14 H13 S13
  go_wp2_with fail
  refine HS14.out.mono ?_
  rintro e w15 ⟨rfl, k15, rfl⟩
  have H15 := Lib.hid (H14.out.drewN k15)
  clear HS14 H14
  go_wp2_with fail
  refine (HOP.out _ H15.out.frame).mono ?_
  rintro e w16 ⟨zo, zc, rfl, -, f16, -⟩
  have hz30 : ((opsL l).length : Int) ≤ 30 := by have := opsL_len l; omega
  have F16 := Lib.hid (H15.out.frame.trans f16 (by simp [Ext]))
  clear f16 H15
  go_wp2_with fail
  refine (lives_any _).mono ?_
  rintro e w17 ⟨rfl, f17⟩
  have F17 := Lib.hid (F16.out.trans f17 (by simp [Ext]))
  clear f17
  go_wp2_with fail
  go_ret
  exact ⟨rfl, F17.out⟩
end Go.Proofs.Ytoolojpjopodgaa
