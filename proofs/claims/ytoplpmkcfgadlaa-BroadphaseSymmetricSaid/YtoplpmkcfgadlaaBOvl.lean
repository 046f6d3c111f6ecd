/- BroadphaseOverlaps and BroadphaseSymmetric return true: the walks. -/
import Derived.Deep.RegionHeld3
import Derived.Test.YtoplpmkcfgadlaaBContP
import Derived.Test.YtoplpmkcfgadlaaBroadL
namespace Go.Proofs.Ytoplpmkcfgadlaa
open Go.RowKit

def box4 (b : Nat) (B : BX) (u : World) : Prop := u.heap[b]? = some (.cells (BX.cl B).toArray 23 (0, 0))
theorem box4.fr {b : Nat} {B : BX} {u v : World} (h : box4 b B u) (hf : Fr [] u v) : box4 b B v := hf.blk h (by simp)
theorem rov8 (u : World) (a0 a1 a2 a3 b0 b1 b2 b3 : Int) (ha : a0 ≤ a2 ∧ a1 ≤ a3) (hb : b0 ≤ b2 ∧ b1 ≤ b3) : Calls Try.prog 12 #[.agg #[.int .i64 a0, .int .i64 a1, .int .i64 a2, .int .i64 a3], .agg #[.int .i64 b0, .int .i64 b1, .int .i64 b2, .int .i64 b3]] u fun e w' => e = .returned (.bool (BX.ov ⟨a0, a1, a2, a3⟩ ⟨b0, b1, b2, b3⟩)) ∧ Fr [] u w' := rov_any u ⟨a0, a1, a2, a3⟩ ⟨b0, b1, b2, b3⟩ ha hb

set_option maxRecDepth 100000 in
set_option maxHeartbeats 16000000 in
theorem bovl_walk (w : World) (A B : BX) (ha : bounded A.x0 ∧ bounded A.y0 ∧ bounded A.x1 ∧ bounded A.y1) (hb : bounded B.x0 ∧ bounded B.y0 ∧ bounded B.x1 ∧ bounded B.y1) :
    Calls Try.prog 3 #[bxV A, bxV B] w fun e w' => e = .returned (.bool true) ∧ Fr [] w w' := by
  obtain ⟨a0, a1, a2, a3⟩ := A
  obtain ⟨b0, b1, b2, b3⟩ := B
  obtain ⟨ha0, ha1, ha2, ha3⟩ := ha
  obtain ⟨hb0, hb1, hb2, hb3⟩ := hb
  have HA := Lib.hid (fun u => box04_any u a0 a1 a2 a3 ha0 ha1 ha2 ha3)
  have HB := Lib.hid (fun u => box04_any u b0 b1 b2 b3 hb0 hb1 hb2 hb3)
  unfold bxV
  simp only
  clear ha0 ha1 ha2 ha3 hb0 hb1 hb2 hb3
  go_enter Try.func3, Try.ntmps3
  go_wp2_with fail
  refine (HA.out _).mono ?_
  rintro e w1 ⟨⟨X0, X1, X2, X3⟩, rfl, hxo, -, hf1⟩
  have HF1 := Lib.hid ((((Fr.refl [] w).alloc _).alloc _).trans hf1 (by simp [Ext]))
  have hbb := hf1.blk (alloc2_new w _ _) (by simp)
  have HBB := Lib.hid hbb
  have HXO := Lib.hid hxo
  clear hxo hf1 hbb HA
  unfold bxV
  simp only
  go_upto_region 2 with fail
  obtain ⟨bx, hbx⟩ : ∃ x, x = w1.heap.size := ⟨_, rfl⟩
  obtain ⟨w2, hw2⟩ : ∃ u, u = w1.alloc (.cells #[.int .i64 X0, .int .i64 X1, .int .i64 X2, .int .i64 X3] 23) := ⟨_, rfl⟩
  have hbx2 : box4 bx ⟨X0, X1, X2, X3⟩ w2 := by rw [hw2, hbx]; exact alloc_new w1 _
  have HF2 := Lib.hid (by rw [hw2]; exact HF1.out.alloc _ : Fr [] w w2)
  have hb2 := (by rw [hw2]; exact alloc_old HBB.out : w2.heap[w.heap.size + 1]? = some (.cells #[.int .i64 b0, .int .i64 b1, .int .i64 b2, .int .i64 b3] 23 (0, 0)))
  have k0 : w2.cell? ⟨w.heap.size + 1, 0, none⟩ = some (.int .i64 b0) := cell_blk hb2 0
  have k1 : w2.cell? ⟨w.heap.size + 1, 1, none⟩ = some (.int .i64 b1) := cell_blk hb2 1
  have k2 : w2.cell? ⟨w.heap.size + 1, 2, none⟩ = some (.int .i64 b2) := cell_blk hb2 2
  have k3 : w2.cell? ⟨w.heap.size + 1, 3, none⟩ = some (.int .i64 b3) := cell_blk hb2 3
  have HBX2 := Lib.hid hbx2
  rw [← hbx, ← hw2]
  clear hbx hw2 hbx2 hb2 HF1 HBB
  go_wp2_with fail
  refine (HB.out _).mono ?_
  rintro e w3 ⟨⟨Y0, Y1, Y2, Y3⟩, rfl, hyo, -, hf3⟩
  have HYO := Lib.hid hyo
  have HF3 := Lib.hid (HF2.out.trans hf3 (by simp [Ext]))
  have HBX3 := Lib.hid (HBX2.out.fr hf3)
  have hszx := lt_of_blk HBX3.out
  have c2 : w3.cell? ⟨bx, 2, none⟩ = some (.int .i64 X2) := cell_blk HBX3.out 2
  obtain ⟨M, g0⟩ : ∃ M, min X2 Y2 = M := ⟨_, rfl⟩
  have HMY := Lib.hid (by have := hyo; unfold BX.ok at this; simp only at this; omega : M ≤ Y2)
  clear hyo hf3 k0 k1 k2 k3 HB HBX2
  unfold bxV
  simp only
  go_upto_region 5 with fail
  obtain ⟨yb, hyb⟩ : ∃ x, x = w3.heap.size := ⟨_, rfl⟩
  obtain ⟨zb, hzb⟩ : ∃ x, x = w3.heap.size + 1 := ⟨_, rfl⟩
  obtain ⟨wq, hwq⟩ : ∃ u, u = (w3.alloc (.cells #[.int .i64 Y0, .int .i64 Y1, .int .i64 Y2, .int .i64 Y3] 23)).alloc (.cells #[.int .i64 M, .int .i64 Y1, .int .i64 Y2, .int .i64 Y3] 23) := ⟨_, rfl⟩
  have hy4 : box4 yb ⟨Y0, Y1, Y2, Y3⟩ wq := by rw [hwq, hyb]; exact alloc_old (alloc_new w3 _)
  have hz4 : box4 zb ⟨M, Y1, Y2, Y3⟩ wq := by rw [hwq, hzb]; exact alloc2_new w3 _ _
  have hx4 : box4 bx ⟨X0, X1, X2, X3⟩ wq := by rw [hwq]; exact alloc_old (alloc_old HBX3.out)
  have HFQ := Lib.hid (by rw [hwq]; exact (HF3.out.alloc _).alloc _ : Fr [] w wq)
  have HSV := Lib.hid (fun v (hv : Fr [] wq v) => (⟨hv, cell_blk (hx4.fr hv) 0, cell_blk (hx4.fr hv) 1, cell_blk (hx4.fr hv) 2, cell_blk (hx4.fr hv) 3, cell_blk (hy4.fr hv) 0, cell_blk (hy4.fr hv) 1, cell_blk (hy4.fr hv) 2, cell_blk (hy4.fr hv) 3, cell_blk (hz4.fr hv) 0, cell_blk (hz4.fr hv) 1, cell_blk (hz4.fr hv) 2, cell_blk (hz4.fr hv) 3⟩ : Fr [] wq v ∧ v.cell? ⟨bx, 0, none⟩ = some (.int .i64 X0) ∧ v.cell? ⟨bx, 1, none⟩ = some (.int .i64 X1) ∧ v.cell? ⟨bx, 2, none⟩ = some (.int .i64 X2) ∧ v.cell? ⟨bx, 3, none⟩ = some (.int .i64 X3) ∧ v.cell? ⟨yb, 0, none⟩ = some (.int .i64 Y0) ∧ v.cell? ⟨yb, 1, none⟩ = some (.int .i64 Y1) ∧ v.cell? ⟨yb, 2, none⟩ = some (.int .i64 Y2) ∧ v.cell? ⟨yb, 3, none⟩ = some (.int .i64 Y3) ∧ v.cell? ⟨zb, 0, none⟩ = some (.int .i64 M) ∧ v.cell? ⟨zb, 1, none⟩ = some (.int .i64 Y1) ∧ v.cell? ⟨zb, 2, none⟩ = some (.int .i64 Y2) ∧ v.cell? ⟨zb, 3, none⟩ = some (.int .i64 Y3)))
  have HOV := Lib.hid ov8
  have HROV := Lib.hid rov8
  have HZO := Lib.hid (And.intro HMY.out HYO.out.2)
  obtain ⟨t1, g1⟩ : ∃ t, BX.ov ⟨X0, X1, X2, X3⟩ ⟨Y0, Y1, Y2, Y3⟩ = t := ⟨_, rfl⟩
  obtain ⟨t2, g2⟩ : ∃ t, BX.ov ⟨X0, X1, X2, X3⟩ ⟨M, Y1, Y2, Y3⟩ = t := ⟨_, rfl⟩
  rw [← hzb, ← hyb, ← hwq]
  clear hyb hzb hwq hy4 hz4 hx4 c2 hszx g0
  have FX := Lib.hid ((Fr.refl [] wq).drew)
  go_region_held3 (fun v => Fr [] wq v ∧ v.cell? ⟨bx, 0, none⟩ = some (.int .i64 X0) ∧ v.cell? ⟨bx, 1, none⟩ = some (.int .i64 X1) ∧ v.cell? ⟨bx, 2, none⟩ = some (.int .i64 X2) ∧ v.cell? ⟨bx, 3, none⟩ = some (.int .i64 X3) ∧ v.cell? ⟨yb, 0, none⟩ = some (.int .i64 Y0) ∧ v.cell? ⟨yb, 1, none⟩ = some (.int .i64 Y1) ∧ v.cell? ⟨yb, 2, none⟩ = some (.int .i64 Y2) ∧ v.cell? ⟨yb, 3, none⟩ = some (.int .i64 Y3) ∧ v.cell? ⟨zb, 0, none⟩ = some (.int .i64 M) ∧ v.cell? ⟨zb, 1, none⟩ = some (.int .i64 Y1) ∧ v.cell? ⟨zb, 2, none⟩ = some (.int .i64 Y2) ∧ v.cell? ⟨zb, 3, none⟩ = some (.int .i64 Y3)) (exact HSV.out _ FX.out)
    (first
    | (go_at_call 13; refine (lives04_any _).mono ?_; rintro e wX ⟨rfl, fX⟩; have FX := Lib.hid (FX.out.trans fX (by simp [Ext])); clear fX)
    | (go_at_call 11; refine (HOV.out _ _ _ _ _ _ _ _ _).mono ?_; rintro e wX ⟨rfl, fX⟩; have FX := Lib.hid (FX.out.trans fX (by simp [Ext])); clear fX)
    | (go_at_call 12; refine (HROV.out _ _ _ _ _ _ _ _ _ (by exact HXO.out) (by first | exact HYO.out | exact HZO.out)).mono ?_; rintro e wX ⟨rfl, fX⟩; have FX := Lib.hid (FX.out.trans fX (by simp [Ext])); clear fX))
  all_goals
    go_wp2_with fail
    go_ret
    exact ⟨rfl, HFQ.out.trans FX.out (by simp [Ext])⟩
end Go.Proofs.Ytoplpmkcfgadlaa
