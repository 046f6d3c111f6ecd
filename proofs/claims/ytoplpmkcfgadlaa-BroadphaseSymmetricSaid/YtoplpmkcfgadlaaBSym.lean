/- BroadphaseSymmetric returns true: the walk. -/
import Derived.Test.YtoplpmkcfgadlaaBOvl
namespace Go.Proofs.Ytoplpmkcfgadlaa
open Go.RowKit

set_option maxRecDepth 100000 in
set_option maxHeartbeats 2000000 in
theorem moved_any (u : World) (a0 a1 a2 a3 h v : Int) : Calls Try.prog 19 #[.agg #[.int .i64 a0, .int .i64 a1, .int .i64 a2, .int .i64 a3], .int .i64 h, .int .i64 v] u fun e w' => e = .returned (.agg #[.int .i64 (IntKind.i64.wrap (a0 + h)), .int .i64 (IntKind.i64.wrap (a1 + v)), .int .i64 (IntKind.i64.wrap (a2 + h)), .int .i64 (IntKind.i64.wrap (a3 + v))]) ∧ Fr [] u w' := by
  obtain ⟨m0, g0⟩ : ∃ m, IntKind.i64.wrap (a0 + h) = m := ⟨_, rfl⟩
  obtain ⟨m1, g1⟩ : ∃ m, IntKind.i64.wrap (a1 + v) = m := ⟨_, rfl⟩
  obtain ⟨m2, g2⟩ : ∃ m, IntKind.i64.wrap (a2 + h) = m := ⟨_, rfl⟩
  obtain ⟨m3, g3⟩ : ∃ m, IntKind.i64.wrap (a3 + v) = m := ⟨_, rfl⟩
  rw [g0, g1, g2, g3]
  go_enter Try.func19, Try.ntmps19
  go_wp2_with fail
  have hb := alloc2_new u (.cells #[.int .i64 a0, .int .i64 a1, .int .i64 a2, .int .i64 a3] 23) (.cells #[.int .i64 m0, .int .i64 m1, .int .i64 m2, .int .i64 m3] 23)
  have t0 := cell_blk hb 0
  have t1 := cell_blk hb 1
  have t2 := cell_blk hb 2
  have t3 := cell_blk hb 3
  have hf : Fr [] u ((u.alloc (.cells #[.int .i64 a0, .int .i64 a1, .int .i64 a2, .int .i64 a3] 23)).alloc (.cells #[.int .i64 m0, .int .i64 m1, .int .i64 m2, .int .i64 m3] 23)) := ((Fr.refl [] u).alloc _).alloc _
  refine bodyPost_ret (v := .agg #[.int .i64 m0, .int .i64 m1, .int .i64 m2, .int .i64 m3]) (by simp [results, Try.results19, go_sem, t0, t1, t2, t3]) rfl ⟨rfl, hf⟩
set_option maxRecDepth 100000 in
set_option maxHeartbeats 2000000 in
theorem turned_any (u : World) (a0 a1 a2 a3 : Int) : Calls Try.prog 20 #[.agg #[.int .i64 a0, .int .i64 a1, .int .i64 a2, .int .i64 a3]] u fun e w' => e = .returned (.agg #[.int .i64 a1, .int .i64 a0, .int .i64 a3, .int .i64 a2]) ∧ Fr [] u w' := by
  go_enter Try.func20, Try.ntmps20
  go_wp2_with fail
  have hb := alloc2_new u (.cells #[.int .i64 a0, .int .i64 a1, .int .i64 a2, .int .i64 a3] 23) (.cells #[.int .i64 a1, .int .i64 a0, .int .i64 a3, .int .i64 a2] 23)
  have t0 := cell_blk hb 0
  have t1 := cell_blk hb 1
  have t2 := cell_blk hb 2
  have t3 := cell_blk hb 3
  have hf : Fr [] u ((u.alloc (.cells #[.int .i64 a0, .int .i64 a1, .int .i64 a2, .int .i64 a3] 23)).alloc (.cells #[.int .i64 a1, .int .i64 a0, .int .i64 a3, .int .i64 a2] 23)) := ((Fr.refl [] u).alloc _).alloc _
  refine bodyPost_ret (v := .agg #[.int .i64 a1, .int .i64 a0, .int .i64 a3, .int .i64 a2]) (by simp [results, Try.results20, go_sem, t0, t1, t2, t3]) rfl ⟨rfl, hf⟩
theorem ov_moved (X0 X1 X2 X3 Y0 Y1 Y2 Y3 h v : Int) : BX.ov ⟨X0 + h, X1 + v, X2 + h, X3 + v⟩ ⟨Y0 + h, Y1 + v, Y2 + h, Y3 + v⟩ = BX.ov ⟨X0, X1, X2, X3⟩ ⟨Y0, Y1, Y2, Y3⟩ := by
  unfold BX.ov meetB
  rw [Bool.eq_iff_iff]
  simp only [Bool.and_eq_true, decide_eq_true_eq]
  omega
theorem ov_turned (X0 X1 X2 X3 Y0 Y1 Y2 Y3 : Int) : BX.ov ⟨X1, X0, X3, X2⟩ ⟨Y1, Y0, Y3, Y2⟩ = BX.ov ⟨X0, X1, X2, X3⟩ ⟨Y0, Y1, Y2, Y3⟩ := by
  unfold BX.ov
  simp only
  rw [Bool.and_comm]

set_option maxRecDepth 100000 in
set_option maxHeartbeats 16000000 in
theorem bsym_walk (w : World) (A B : BX) (ha : bounded A.x0 ∧ bounded A.y0 ∧ bounded A.x1 ∧ bounded A.y1) (hb : bounded B.x0 ∧ bounded B.y0 ∧ bounded B.x1 ∧ bounded B.y1) (dx dy : Int) (hdx : bounded dx) (hdy : bounded dy) :
    Calls Try.prog 5 #[bxV A, bxV B, .int .i64 dx, .int .i64 dy] w fun e w' => e = .returned (.bool true) ∧ Fr [] w w' := by
  obtain ⟨a0, a1, a2, a3⟩ := A
  obtain ⟨b0, b1, b2, b3⟩ := B
  obtain ⟨ha0, ha1, ha2, ha3⟩ := ha
  obtain ⟨hb0, hb1, hb2, hb3⟩ := hb
  have HA := Lib.hid (fun u => box04_any u a0 a1 a2 a3 ha0 ha1 ha2 ha3)
  have HB := Lib.hid (fun u => box04_any u b0 b1 b2 b3 hb0 hb1 hb2 hb3)
  have HDX := Lib.hid (fun u => (bound04_any u dx 1099511627776 hdx (by omega) : Calls Try.prog 18 #[.int .i64 dx, .int .i64 1099511627776] u fun e w' => (∃ y : Int, -1099511627776 ≤ y ∧ y ≤ 1099511627776 ∧ e = .returned (.int .i64 y)) ∧ w' = u))
  have HDY := Lib.hid (fun u => (bound04_any u dy 1099511627776 hdy (by omega) : Calls Try.prog 18 #[.int .i64 dy, .int .i64 1099511627776] u fun e w' => (∃ y : Int, -1099511627776 ≤ y ∧ y ≤ 1099511627776 ∧ e = .returned (.int .i64 y)) ∧ w' = u))
  unfold bxV
  simp only
  clear ha0 ha1 ha2 ha3 hb0 hb1 hb2 hb3 hdx hdy
  go_enter Try.func5, Try.ntmps5
  go_wp2_with fail
  refine (HA.out _).mono ?_
  rintro e w1 ⟨⟨X0, X1, X2, X3⟩, rfl, hxo, hxn, hf1⟩
  have HF1 := Lib.hid ((((Fr.refl [] w).alloc _).alloc _).trans hf1 (by simp [Ext]))
  have hbb := hf1.blk (alloc2_new w _ _) (by simp)
  have HBB := Lib.hid hbb
  have HXO := Lib.hid (And.intro hxo hxn)
  clear hxo hxn hf1 hbb HA
  unfold bxV
  simp only
  go_upto_region 2 with fail
  obtain ⟨bx, hbx⟩ : ∃ x, x = w1.heap.size := ⟨_, rfl⟩
  obtain ⟨w2, hw2⟩ : ∃ u, u = w1.alloc (.cells #[.int .i64 X0, .int .i64 X1, .int .i64 X2, .int .i64 X3] 23) := ⟨_, rfl⟩
  have hbx2 : box4 bx ⟨X0, X1, X2, X3⟩ w2 := by rw [hw2, hbx]; exact alloc_new w1 _
  have HF2 := Lib.hid (by rw [hw2]; exact HF1.out.alloc _ : Fr [] w w2)
  have hb2 := (by rw [hw2]; exact alloc_old HBB.out : w2.heap[w.heap.size + 1]? = some (.cells #[.int .i64 b0, .int .i64 b1, .int .i64 b2, .int .i64 b3] 23 (0, 0)))
  have k0 : w2.cell? ⟨w.heap.size + 1, 0, none⟩ = some (.int .i64 b0) := cell_blk hb2 0
  have k1 : w2.cell? ⟨w.heap.size + 1, 1, none⟩ = some (.int .i64 b1) := cell_blk hb2 1
  have k2 : w2.cell? ⟨w.heap.size + 1, 2, none⟩ = some (.int .i64 b2) := cell_blk hb2 2
  have k3 : w2.cell? ⟨w.heap.size + 1, 3, none⟩ = some (.int .i64 b3) := cell_blk hb2 3
  have HBX2 := Lib.hid hbx2
  rw [← hbx, ← hw2]
  clear hbx hw2 hbx2 hb2 HF1 HBB
  go_wp2_with fail
  refine (HB.out _).mono ?_
  rintro e w3 ⟨⟨Y0, Y1, Y2, Y3⟩, rfl, hyo, hyn, hf3⟩
  have HYO := Lib.hid (And.intro hyo hyn)
  have HF3 := Lib.hid (HF2.out.trans hf3 (by simp [Ext]))
  have HBX3 := Lib.hid (HBX2.out.fr hf3)
  clear hyo hyn hf3 k0 k1 k2 k3 HB HBX2
  unfold bxV
  simp only
  go_upto_region 3 with fail
  obtain ⟨yb, hyb⟩ : ∃ x, x = w3.heap.size := ⟨_, rfl⟩
  obtain ⟨wq, hwq⟩ : ∃ u, u = w3.alloc (.cells #[.int .i64 Y0, .int .i64 Y1, .int .i64 Y2, .int .i64 Y3] 23) := ⟨_, rfl⟩
  have hy4 : box4 yb ⟨Y0, Y1, Y2, Y3⟩ wq := by rw [hwq, hyb]; exact alloc_new w3 _
  have hx4 : box4 bx ⟨X0, X1, X2, X3⟩ wq := by rw [hwq]; exact alloc_old HBX3.out
  have HFQ := Lib.hid (by rw [hwq]; exact HF3.out.alloc _ : Fr [] w wq)
  have HSV := Lib.hid (fun v (hv : Fr [] wq v) => (⟨hv, cell_blk (hx4.fr hv) 0, cell_blk (hx4.fr hv) 1, cell_blk (hx4.fr hv) 2, cell_blk (hx4.fr hv) 3, cell_blk (hy4.fr hv) 0, cell_blk (hy4.fr hv) 1, cell_blk (hy4.fr hv) 2, cell_blk (hy4.fr hv) 3⟩ : Fr [] wq v ∧ v.cell? ⟨bx, 0, none⟩ = some (.int .i64 X0) ∧ v.cell? ⟨bx, 1, none⟩ = some (.int .i64 X1) ∧ v.cell? ⟨bx, 2, none⟩ = some (.int .i64 X2) ∧ v.cell? ⟨bx, 3, none⟩ = some (.int .i64 X3) ∧ v.cell? ⟨yb, 0, none⟩ = some (.int .i64 Y0) ∧ v.cell? ⟨yb, 1, none⟩ = some (.int .i64 Y1) ∧ v.cell? ⟨yb, 2, none⟩ = some (.int .i64 Y2) ∧ v.cell? ⟨yb, 3, none⟩ = some (.int .i64 Y3)))
  have HOV := Lib.hid ov8
  have HMV := Lib.hid moved_any
  have HTU := Lib.hid turned_any
  rw [← hyb, ← hwq]
  clear hyb hwq hy4 hx4
  go_wp2_with fail
  refine (HDX.out _).mono ?_
  rintro e w' ⟨⟨h, h1, h2, rfl⟩, hw⟩
  obtain rfl := hw.symm
  clear hw
  go_wp2_with fail
  refine (HDY.out _).mono ?_
  rintro e w' ⟨⟨v, h3, h4, rfl⟩, hw⟩
  obtain rfl := hw.symm
  clear hw
  obtain ⟨t1, g1⟩ : ∃ t, BX.ov ⟨X0, X1, X2, X3⟩ ⟨Y0, Y1, Y2, Y3⟩ = t := ⟨_, rfl⟩
  have HWR := Lib.hid (by
    have hx := HXO.out.2
    have hy := HYO.out.2
    unfold BX.near at hx hy
    simp only at hx hy
    refine ⟨IntWalk.i64_in _ ?_, IntWalk.i64_in _ ?_, IntWalk.i64_in _ ?_, IntWalk.i64_in _ ?_, IntWalk.i64_in _ ?_, IntWalk.i64_in _ ?_, IntWalk.i64_in _ ?_, IntWalk.i64_in _ ?_⟩ <;> omega : IntKind.i64.wrap (X0 + h) = X0 + h ∧ IntKind.i64.wrap (X1 + v) = X1 + v ∧ IntKind.i64.wrap (X2 + h) = X2 + h ∧ IntKind.i64.wrap (X3 + v) = X3 + v ∧ IntKind.i64.wrap (Y0 + h) = Y0 + h ∧ IntKind.i64.wrap (Y1 + v) = Y1 + v ∧ IntKind.i64.wrap (Y2 + h) = Y2 + h ∧ IntKind.i64.wrap (Y3 + v) = Y3 + v)
  have g3 : BX.ov ⟨IntKind.i64.wrap (X0 + h), IntKind.i64.wrap (X1 + v), IntKind.i64.wrap (X2 + h), IntKind.i64.wrap (X3 + v)⟩ ⟨IntKind.i64.wrap (Y0 + h), IntKind.i64.wrap (Y1 + v), IntKind.i64.wrap (Y2 + h), IntKind.i64.wrap (Y3 + v)⟩ = t1 := by
    obtain ⟨q0, q1, q2, q3, q4, q5, q6, q7⟩ := HWR.out
    rw [q0, q1, q2, q3, q4, q5, q6, q7, ov_moved]; exact g1
  have g4 : BX.ov ⟨X1, X0, X3, X2⟩ ⟨Y1, Y0, Y3, Y2⟩ = t1 := by rw [ov_turned]; exact g1
  have g5 : BX.ov ⟨X0, X1, X2, X3⟩ ⟨X0, X1, X2, X3⟩ = true := ov_refl HXO.out.1
  have g6 : BX.ov ⟨Y0, Y1, Y2, Y3⟩ ⟨X0, X1, X2, X3⟩ = t1 := by rw [ov_comm]; exact g1
  have g7 : (t1 != t1) = false := by simp
  have g8 : (t1 == t1) = true := by simp
  clear h1 h2 h3 h4 HDX HDY HWR
  obtain ⟨-, c0, c1, c2, c3, c4, c5, c6, c7⟩ := HSV.out wq (Fr.refl _ _)
  go_upto_region 6 with (go_at_call 11; refine (HOV.out _ _ _ _ _ _ _ _ _).mono ?_; rintro e wX ⟨rfl, fX⟩; have FX := Lib.hid fX; clear fX)
  clear c0 c1 c2 c3 c4 c5 c6 c7
  have FX := Lib.hid (FX.out.drew)
  go_region_held3 (fun v => Fr [] wq v ∧ v.cell? ⟨bx, 0, none⟩ = some (.int .i64 X0) ∧ v.cell? ⟨bx, 1, none⟩ = some (.int .i64 X1) ∧ v.cell? ⟨bx, 2, none⟩ = some (.int .i64 X2) ∧ v.cell? ⟨bx, 3, none⟩ = some (.int .i64 X3) ∧ v.cell? ⟨yb, 0, none⟩ = some (.int .i64 Y0) ∧ v.cell? ⟨yb, 1, none⟩ = some (.int .i64 Y1) ∧ v.cell? ⟨yb, 2, none⟩ = some (.int .i64 Y2) ∧ v.cell? ⟨yb, 3, none⟩ = some (.int .i64 Y3)) (exact HSV.out _ FX.out)
    (first
    | (go_at_call 19; refine (HMV.out _ _ _ _ _ _ _).mono ?_; rintro e wX ⟨rfl, fX⟩; have FX := Lib.hid (FX.out.trans fX (by simp [Ext])); clear fX)
    | (go_at_call 11; refine (HOV.out _ _ _ _ _ _ _ _ _).mono ?_; rintro e wX ⟨rfl, fX⟩; have FX := Lib.hid (FX.out.trans fX (by simp [Ext])); clear fX))
  all_goals
    go_wp2_with fail
    have FX := Lib.hid (FX.out.drew)
    go_region_held3 (fun v => Fr [] wq v ∧ v.cell? ⟨bx, 0, none⟩ = some (.int .i64 X0) ∧ v.cell? ⟨bx, 1, none⟩ = some (.int .i64 X1) ∧ v.cell? ⟨bx, 2, none⟩ = some (.int .i64 X2) ∧ v.cell? ⟨bx, 3, none⟩ = some (.int .i64 X3) ∧ v.cell? ⟨yb, 0, none⟩ = some (.int .i64 Y0) ∧ v.cell? ⟨yb, 1, none⟩ = some (.int .i64 Y1) ∧ v.cell? ⟨yb, 2, none⟩ = some (.int .i64 Y2) ∧ v.cell? ⟨yb, 3, none⟩ = some (.int .i64 Y3)) (exact HSV.out _ FX.out)
      (first
      | (go_at_call 13; refine (lives04_any _).mono ?_; rintro e wX ⟨rfl, fX⟩; have FX := Lib.hid (FX.out.trans fX (by simp [Ext])); clear fX)
      | (go_at_call 20; refine (HTU.out _ _ _ _ _).mono ?_; rintro e wX ⟨rfl, fX⟩; have FX := Lib.hid (FX.out.trans fX (by simp [Ext])); clear fX)
      | (go_at_call 11; refine (HOV.out _ _ _ _ _ _ _ _ _).mono ?_; rintro e wX ⟨rfl, fX⟩; have FX := Lib.hid (FX.out.trans fX (by simp [Ext])); clear fX))
    all_goals
      go_wp2_with fail
      go_ret
      exact ⟨rfl, HFQ.out.trans FX.out (by simp [Ext])⟩
end Go.Proofs.Ytoplpmkcfgadlaa
