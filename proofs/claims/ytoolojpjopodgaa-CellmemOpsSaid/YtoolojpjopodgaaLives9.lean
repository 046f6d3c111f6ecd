/- Chapter 9: lives. -/
import Derived.Test.YtoolojpjopodgaaCh9
namespace Go.Proofs.Ytoolojpjopodgaa
open Go.RowKit

theorem lv1 : MemS.set ⟨[5, 7], [], 0⟩ 1 9 = ⟨[5, 9], [(1, 7)], 0⟩ := by simp [MemS.set, MemS.has]
theorem lv2 : MemS.set ⟨[5, 9], [(1, 7)], 0⟩ 1 8 = ⟨[5, 8], [(1, 7), (1, 9)], 0⟩ := by simp [MemS.set, MemS.has]
theorem lv3 : MemS.chg ⟨[5, 8], [(1, 7), (1, 9)], 0⟩ 0 = [1] := by decide
theorem lv4 : MemS.mark ⟨[5, 8], [(1, 7), (1, 9)], 0⟩ = 2 := by simp [MemS.mark]
theorem lv5 : MemS.undo ⟨[5, 8], [(1, 7), (1, 9)], 0⟩ 1 = ⟨[5, 9], [(1, 7)], 0⟩ := by simp [MemS.undo, unwind]
theorem lv6 : MemS.get ⟨[5, 9], [(1, 7)], 0⟩ 1 = 9 := by simp [MemS.get, MemS.has]
theorem lv7 : MemS.undo ⟨[5, 9], [(1, 7)], 0⟩ 0 = ⟨[5, 7], [], 0⟩ := by simp [MemS.undo, unwind]
theorem lv8 : MemS.get ⟨[5, 7], [], 0⟩ 1 = 7 := by simp [MemS.get, MemS.has]

set_option maxRecDepth 100000 in
set_option maxHeartbeats 4000000 in
theorem lives_any (w : World) : Calls Try.prog 20 #[] w fun e w' => e = .returned (.bool true) ∧ Fr [] w w' := by
  have hrd : Rd (w.alloc (.cells #[.int .i64 5, .int .i64 7] 3)) 1 (some ⟨w.heap.size, 0, none⟩) 2 (ints [5, 7]) := (Seg.one w.heap.size #[.int .i64 5, .int .i64 7] 3 1 2 (alloc_new w _) rfl (by unfold maxLen; omega)).rd
  have HN := Lib.hid (m_new' (W := w) ((Fr.refl [] w).alloc (.cells #[.int .i64 5, .int .i64 7] 3)) (some ⟨w.heap.size, 0, none⟩) 2 [5, 7] hrd (by simp) (G := []) (by simp))
  clear hrd
  go_enter Try.func20, Try.ntmps20
  go_wp2_with fail
  refine HN.out.mono ?_
  rintro e w1 ⟨p, rfl, h1, -⟩
  have H1 := Lib.hid h1
  clear h1 HN
  go_wp2_with fail
  refine (m_set H1.out 1 9 (by omega) lv1).mono ?_
  rintro e w2 ⟨rfl, h2, -⟩
  have H2 := Lib.hid h2
  clear h2 H1
  go_wp2_with fail
  refine (m_set H2.out 1 8 (by omega) lv2).mono ?_
  rintro e w3 ⟨rfl, h3, -⟩
  have H3 := Lib.hid h3
  clear h3 H2
  go_wp2_with fail
  refine (m_changed H3.out 0 (by omega) (by simp) (by simp) lv3).mono ?_
  rintro e w4 ⟨ao, cap, rfl, hs4, h4, -⟩
  have HS4 := Lib.hid hs4
  have H4 := Lib.hid h4
  clear h4 H3 hs4
  go_wp2_with fail
  refine (m_mark H4.out (by omega) lv4).mono ?_
  rintro e w5 ⟨rfl, k5, rfl⟩
  go_wp2_with fail
  have hb : Rd ((w4.drewN k5).alloc (.cells #[.int .i64 1] 3)) 1 (some ⟨w4.heap.size, 0, none⟩) 1 (ints [1]) := (Seg.one w4.heap.size #[.int .i64 1] 3 1 1 (alloc_new (w4.drewN k5) _) rfl (by unfold maxLen; omega)).rd
  refine (same_yes _ ao _ cap 1 [1] ((HS4.out.drewN k5).alloc _).rd hb).mono ?_
  rintro e w6 ⟨rfl, k6, rfl⟩
  have H6 := Lib.hid (((H4.out.drewN k5).allocN (.cells #[.int .i64 1] 3)).drewN k6)
  clear hb H4 HS4
  go_wp2_with fail
  refine (m_undo H6.out 1 (by omega) (by simp) (by simp) lv5).mono ?_
  rintro e w7 ⟨rfl, h7, -⟩
  have H7 := Lib.hid h7
  clear h7 H6
  go_wp2_with fail
  refine (m_get H7.out 1 lv6).mono ?_
  rintro e w8 ⟨rfl, rfl⟩
  go_wp2_with fail
  refine (m_undo H7.out 0 (by omega) (by simp) (by simp) lv7).mono ?_
  rintro e w9 ⟨rfl, h9, -⟩
  have H9 := Lib.hid h9
  clear h9 H7
  go_wp2_with fail
  refine (m_get H9.out 1 lv8).mono ?_
  rintro e w10 ⟨rfl, rfl⟩
  go_wp2_with fail
  go_ret
  exact ⟨rfl, H9.out.frame⟩
end Go.Proofs.Ytoolojpjopodgaa
