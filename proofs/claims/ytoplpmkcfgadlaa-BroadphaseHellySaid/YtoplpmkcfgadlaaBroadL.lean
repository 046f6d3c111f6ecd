/- Package broadphase: lives. -/
import Derived.Deep.RegionHeld3
import Derived.Test.YtoplpmkcfgadlaaBroadR
namespace Go.Proofs.Ytoplpmkcfgadlaa
open Go.RowKit

def lB0 : BX := ⟨0, 0, 2, 2⟩
def lB1 : BX := ⟨2, 2, 3, 3⟩
def lB2 : BX := ⟨4, 0, 5, 1⟩
def lBs : List BX := [lB0, lB1, lB2]
theorem lB_pairs : pairsB lBs = [(0, 1)] := by decide
theorem ov8 (u : World) (a0 a1 a2 a3 b0 b1 b2 b3 : Int) : Calls Try.prog 11 #[.agg #[.int .i64 a0, .int .i64 a1, .int .i64 a2, .int .i64 a3], .agg #[.int .i64 b0, .int .i64 b1, .int .i64 b2, .int .i64 b3]] u fun e w' => e = .returned (.bool (BX.ov ⟨a0, a1, a2, a3⟩ ⟨b0, b1, b2, b3⟩)) ∧ Fr [] u w' := ov_any u ⟨a0, a1, a2, a3⟩ ⟨b0, b1, b2, b3⟩
def lCells : Array Value := #[.int .i64 0, .int .i64 0, .int .i64 2, .int .i64 2, .int .i64 2, .int .i64 2, .int .i64 3, .int .i64 3, .int .i64 4, .int .i64 0, .int .i64 5, .int .i64 1]
def lS (b : Nat) (u : World) : Prop := u.cell? ⟨b, 0, none⟩ = some (.int .i64 0) ∧ u.cell? ⟨b, 1, none⟩ = some (.int .i64 0) ∧ u.cell? ⟨b, 2, none⟩ = some (.int .i64 2) ∧ u.cell? ⟨b, 3, none⟩ = some (.int .i64 2) ∧
  u.cell? ⟨b, 4, none⟩ = some (.int .i64 2) ∧ u.cell? ⟨b, 5, none⟩ = some (.int .i64 2) ∧ u.cell? ⟨b, 6, none⟩ = some (.int .i64 3) ∧ u.cell? ⟨b, 7, none⟩ = some (.int .i64 3) ∧
  u.cell? ⟨b, 8, none⟩ = some (.int .i64 4) ∧ u.cell? ⟨b, 9, none⟩ = some (.int .i64 0) ∧ u.cell? ⟨b, 10, none⟩ = some (.int .i64 5) ∧ u.cell? ⟨b, 11, none⟩ = some (.int .i64 1)
theorem lS_of {b : Nat} {u : World} (h : u.heap[b]? = some (.cells lCells 23 (0, 0))) : lS b u :=
  ⟨cell_blk h 0, cell_blk h 1, cell_blk h 2, cell_blk h 3, cell_blk h 4, cell_blk h 5, cell_blk h 6, cell_blk h 7, cell_blk h 8, cell_blk h 9, cell_blk h 10, cell_blk h 11⟩

set_option maxRecDepth 100000 in
set_option maxHeartbeats 8000000 in
theorem lives04_any (w : World) : Calls Try.prog 13 #[] w fun e w' => e = .returned (.bool true) ∧ Fr [] w w' := by
  obtain ⟨b, hb⟩ : ∃ b, b = w.heap.size := ⟨_, rfl⟩
  obtain ⟨w1, hw1⟩ : ∃ u, u = w.alloc (.cells lCells 23) := ⟨_, rfl⟩
  have HB1 := Lib.hid (by rw [hw1, hb]; exact alloc_new _ _ : w1.heap[b]? = some (.cells lCells 23 (0, 0)))
  have HF1 := Lib.hid (by rw [hw1]; exact (Fr.refl [] w).alloc _ : Fr [] w w1)
  have HB := Lib.hid hb
  have HW1 := Lib.hid hw1
  have hob : Hid (∀ x ∈ lBs, x.ok) := Lib.hid (by unfold lBs lB0 lB1 lB2 BX.ok; simp)
  have HPA := Lib.hid (fun u (hu : u.heap[b]? = some (.cells lCells 23 (0, 0))) => (by
    have hs := Seg.one b lCells 23 4 3 hu rfl (by unfold maxLen; omega)
    have h := pairs_any u (some ⟨b, 0, none⟩) 3 lBs hs.rd hs.lt (by decide) hob.out
    unfold PairsTo at h
    rw [lB_pairs] at h
    exact h : Calls Try.prog 16 #[.slice (some ⟨b, 0, none⟩) 3 3] u fun e w' => ∃ po pc, e = .returned (.slice po 1 pc) ∧ Seg w' 39 2 po 1 pc [.int .i64 0, .int .i64 1] ∧ (∀ q ∈ blk po, u.heap.size ≤ q) ∧ Fr [] u w'))
  have HSA := Lib.hid (fun u (po qo : Option Addr) (pc qc : Nat) (h1 : Rd u 2 po 1 [.int .i64 0, .int .i64 1]) (h2 : Rd u 2 qo 1 [.int .i64 0, .int .i64 1]) => (samep_any u po qo pc qc [(0, 1)] [(0, 1)] h1 h2 : Calls Try.prog 15 #[.slice po 1 pc, .slice qo 1 qc] u fun e w' => e = .returned (.bool true) ∧ Fr [] u w'))
  have HOV := Lib.hid ov8
  have g1 : BX.ov ⟨0, 0, 2, 2⟩ ⟨2, 2, 3, 3⟩ = true := by decide
  have g2 : BX.ov ⟨2, 2, 3, 3⟩ ⟨4, 0, 5, 1⟩ = false := by decide
  clear hb hw1
  go_enter Try.func13, Try.ntmps13
  go_upto_region 2 with fail
  have hw : w.alloc (.cells #[.int .i64 0, .int .i64 0, .int .i64 2, .int .i64 2, .int .i64 2, .int .i64 2, .int .i64 3, .int .i64 3, .int .i64 4, .int .i64 0, .int .i64 5, .int .i64 1] 23) = w1 := HW1.out.symm
  rw [← HB.out, hw]
  clear hw
  have c0 := lS_of HB1.out
  unfold lS at c0
  have HC0 := Lib.hid c0
  clear c0
  go_region_held3 (fun u => u.cell? ⟨b, 0, none⟩ = some (.int .i64 0) ∧ u.cell? ⟨b, 1, none⟩ = some (.int .i64 0) ∧ u.cell? ⟨b, 2, none⟩ = some (.int .i64 2) ∧ u.cell? ⟨b, 3, none⟩ = some (.int .i64 2) ∧ u.cell? ⟨b, 4, none⟩ = some (.int .i64 2) ∧ u.cell? ⟨b, 5, none⟩ = some (.int .i64 2) ∧ u.cell? ⟨b, 6, none⟩ = some (.int .i64 3) ∧ u.cell? ⟨b, 7, none⟩ = some (.int .i64 3) ∧ u.cell? ⟨b, 8, none⟩ = some (.int .i64 4) ∧ u.cell? ⟨b, 9, none⟩ = some (.int .i64 0) ∧ u.cell? ⟨b, 10, none⟩ = some (.int .i64 5) ∧ u.cell? ⟨b, 11, none⟩ = some (.int .i64 1)) (first | exact HC0.out | exact lS_of (alloc_old HBB.out) | exact lS_of (alloc_old HBC.out) | exact cA.out | exact cB.out | exact cC.out | exact cD.out)
    (first
    | (go_at_call 15; refine (HSA.out _ _ _ _ _ (by first | exact HSC.out.rd | exact (HSC.out.fr ((Fr.refl [] wC).alloc _) (by simp)).rd) (by first | exact (Seg.one wB.heap.size #[.int .i64 0, .int .i64 1] 39 2 1 HN2.out rfl (by unfold maxLen; omega)).rd | exact (Seg.one wC.heap.size #[.int .i64 0, .int .i64 1] 39 2 1 (alloc_new wC _) rfl (by unfold maxLen; omega)).rd)).mono ?_; rintro e wD ⟨rfl, fD⟩; have hb5 := fD.blk (by first | exact HBC.out | exact alloc_old HBC.out) (by simp); have HFD := Lib.hid (by first | exact HFC.out.trans fD (by simp [Ext]) | exact (HFC.out.alloc _).trans fD (by simp [Ext]) : Fr [] w wD); have cD := Lib.hid (lS_of hb5); clear fD hb5)
    | (go_at_call 16; refine (HPA.out _ (by first | exact HBB.out | exact alloc_old HBB.out)).mono ?_; rintro e wC ⟨po, pc, rfl, hs, -, fC⟩; have HSC := Lib.hid hs; have HBC := Lib.hid (fC.blk (by first | exact HBB.out | exact alloc_old HBB.out) (by simp) : wC.heap[b]? = some (.cells lCells 23 (0, 0))); (first | (have HN2 := Lib.hid (fC.blk (alloc_new wB (.cells #[.int .i64 0, .int .i64 1] 39)) (by simp))) | skip); have HFC := Lib.hid (by first | exact HFB.out.trans fC (by simp [Ext]) | exact (HFB.out.alloc _).trans fC (by simp [Ext]) : Fr [] w wC); have cC := Lib.hid (lS_of HBC.out); clear hs fC)
    | (go_at_call 11; refine (HOV.out _ _ _ _ _ _ _ _ _).mono ?_; rintro e wB ⟨rfl, fB⟩; have HBB := Lib.hid (fB.blk HBA.out (by simp)); have HFB := Lib.hid (HFA.out.trans fB (by simp [Ext])); have cB := Lib.hid (lS_of HBB.out); clear fB)
    | (go_at_call 11; refine (HOV.out _ _ _ _ _ _ _ _ _).mono ?_; rintro e wA ⟨rfl, fA⟩; have HBA := Lib.hid (fA.blk HB1.out (by simp)); have HFA := Lib.hid ((HF1.out.drewN 1).trans fA (by simp [Ext])); have cA := Lib.hid (lS_of HBA.out); clear fA))
  all_goals
    go_wp2_with fail
    go_ret
    exact ⟨rfl, HFD.out⟩
end Go.Proofs.Ytoplpmkcfgadlaa
