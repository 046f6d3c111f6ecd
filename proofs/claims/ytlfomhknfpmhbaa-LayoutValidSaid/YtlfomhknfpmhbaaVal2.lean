/- Package layout: validNumbers, validBody. -/
import Derived.Test.YtlfomhknfpmhbaaVal
namespace Go.Proofs.Ytlfomhknfpmhbaa
open Go.RowKit

def stCells (s : St) : Array Value := #[.int .i64 s.players, .slice s.bo s.nb s.bc, .int .i64 s.x0, .int .i64 s.y0, .int .i64 s.x1, .int .i64 s.y1, .slice s.ro s.rn s.rc, .slice s.dO s.dn s.dc, .int .i64 s.fog, .int .i64 s.gx, .int .i64 s.gy, .int .i64 s.push, .int .i64 s.drag, .int .i64 s.rest, .int .i64 s.rounds, .int .i64 s.fuel]

/-- a body -/
structure Bd where
  rad : Int
  po : Option Addr
  pn : Nat
  pc : Nat
  px : Int
  py : Int
  vx : Int
  vy : Int
  im : Int
  a : Int
  b : Int
def Bd.cells (d : Bd) : List Value := [.int .i64 d.rad, .slice d.po d.pn d.pc, .int .i64 d.px, .int .i64 d.py, .int .i64 d.vx, .int .i64 d.vy, .int .i64 d.im, .int .i64 d.a, .int .i64 d.b]
def Bd.shape (d : Bd) : Value := .agg #[.int .i64 d.rad, .slice d.po d.pn d.pc]
def Bd.motion (d : Bd) : Value := .agg #[.int .i64 d.px, .int .i64 d.py, .int .i64 d.vx, .int .i64 d.vy, .int .i64 d.im]
def Bd.val (d : Bd) : Value := .agg #[.int .i64 d.rad, .slice d.po d.pn d.pc, .int .i64 d.px, .int .i64 d.py, .int .i64 d.vx, .int .i64 d.vy, .int .i64 d.im, .int .i64 d.a, .int .i64 d.b]

def n1 (s : St) : Bool := inB (1) (8) s.players
def n2 (s : St) : Bool := inB (s.players) (24) (s.nb : Int)
def n3 (s : St) : Bool := inB (0) (4194304) s.fog
def n4 (s : St) : Bool := inB (-16384) (16384) s.gx && inB (-16384) (16384) s.gy
def n5 (s : St) : Bool := inB (0) (16384) s.push
def n6 (s : St) : Bool := inB (0) (1024) s.drag && inB (0) (1024) s.rest
def n7 (s : St) : Bool := inB (1) (4) s.rounds
def n8 (s : St) : Bool := inB (0) (1000) s.fuel
def numsB (s : St) : Bool := n1 s && n2 s && n3 s && n4 s && n5 s && n6 s && n7 s && n8 s
theorem St.bnd (s : St) : 0 ≤ (s.nb : Int) := by omega
set_option maxRecDepth 100000 in
set_option maxHeartbeats 4000000 in
theorem nums_any (w : World) (s : St) : Calls Try.prog 38 #[s.val] w fun e w' => e = .returned (.bool (numsB s)) ∧ Fr [] w w' := by
  obtain ⟨t1, ht1⟩ : ∃ t, t = n1 s := ⟨_, rfl⟩
  have HW1 := Lib.hid (fun (u : World) (b : Nat) h => (by rw [ht1]; exact within1 u b (1) (8) (s.players) h : Calls Try.prog 53 #[.int .i64 (1), .int .i64 (8), .slice (some ⟨b, 0, none⟩) 1 1] u fun e w' => e = .returned (.bool t1) ∧ Fr [] u w'))
  have HT1 := Lib.hid ht1
  obtain ⟨t2, ht2⟩ : ∃ t, t = n2 s := ⟨_, rfl⟩
  have HW2 := Lib.hid (fun (u : World) (b : Nat) h => (by rw [ht2]; exact within1 u b (s.players) (24) ((s.nb : Int)) h : Calls Try.prog 53 #[.int .i64 (s.players), .int .i64 (24), .slice (some ⟨b, 0, none⟩) 1 1] u fun e w' => e = .returned (.bool t2) ∧ Fr [] u w'))
  have HT2 := Lib.hid ht2
  obtain ⟨t3, ht3⟩ : ∃ t, t = n3 s := ⟨_, rfl⟩
  have HW3 := Lib.hid (fun (u : World) (b : Nat) h => (by rw [ht3]; exact within1 u b (0) (4194304) (s.fog) h : Calls Try.prog 53 #[.int .i64 (0), .int .i64 (4194304), .slice (some ⟨b, 0, none⟩) 1 1] u fun e w' => e = .returned (.bool t3) ∧ Fr [] u w'))
  have HT3 := Lib.hid ht3
  obtain ⟨t4, ht4⟩ : ∃ t, t = n4 s := ⟨_, rfl⟩
  have HW4 := Lib.hid (fun (u : World) (b : Nat) h => (by rw [ht4]; exact within2 u b (-16384) (16384) (s.gx) (s.gy) h : Calls Try.prog 53 #[.int .i64 (-16384), .int .i64 (16384), .slice (some ⟨b, 0, none⟩) 2 2] u fun e w' => e = .returned (.bool t4) ∧ Fr [] u w'))
  have HT4 := Lib.hid ht4
  obtain ⟨t5, ht5⟩ : ∃ t, t = n5 s := ⟨_, rfl⟩
  have HW5 := Lib.hid (fun (u : World) (b : Nat) h => (by rw [ht5]; exact within1 u b (0) (16384) (s.push) h : Calls Try.prog 53 #[.int .i64 (0), .int .i64 (16384), .slice (some ⟨b, 0, none⟩) 1 1] u fun e w' => e = .returned (.bool t5) ∧ Fr [] u w'))
  have HT5 := Lib.hid ht5
  obtain ⟨t6, ht6⟩ : ∃ t, t = n6 s := ⟨_, rfl⟩
  have HW6 := Lib.hid (fun (u : World) (b : Nat) h => (by rw [ht6]; exact within2 u b (0) (1024) (s.drag) (s.rest) h : Calls Try.prog 53 #[.int .i64 (0), .int .i64 (1024), .slice (some ⟨b, 0, none⟩) 2 2] u fun e w' => e = .returned (.bool t6) ∧ Fr [] u w'))
  have HT6 := Lib.hid ht6
  obtain ⟨t7, ht7⟩ : ∃ t, t = n7 s := ⟨_, rfl⟩
  have HW7 := Lib.hid (fun (u : World) (b : Nat) h => (by rw [ht7]; exact within1 u b (1) (4) (s.rounds) h : Calls Try.prog 53 #[.int .i64 (1), .int .i64 (4), .slice (some ⟨b, 0, none⟩) 1 1] u fun e w' => e = .returned (.bool t7) ∧ Fr [] u w'))
  have HT7 := Lib.hid ht7
  obtain ⟨t8, ht8⟩ : ∃ t, t = n8 s := ⟨_, rfl⟩
  have HW8 := Lib.hid (fun (u : World) (b : Nat) h => (by rw [ht8]; exact within1 u b (0) (1000) (s.fuel) h : Calls Try.prog 53 #[.int .i64 (0), .int .i64 (1000), .slice (some ⟨b, 0, none⟩) 1 1] u fun e w' => e = .returned (.bool t8) ∧ Fr [] u w'))
  have HT8 := Lib.hid ht8
  clear ht1 ht2 ht3 ht4 ht5 ht6 ht7 ht8
  unfold St.val
  go_enter Try.func38, Try.ntmps38
  go_wp2_with fail
  refine (HW1.out _ _ (alloc_new2 w _ _)).mono ?_
  rintro e w1 ⟨rfl, f1⟩
  have F1 := Lib.hid ((((Fr.refl [] w).alloc _).alloc _).trans f1 (by simp [Ext]))
  have B10 := Lib.hid (f1.blk (alloc_old (alloc_new w _)) (by simp))
  clear f1
  cases t1
  · go_wp2_with fail
    go_ret
    exact ⟨ret_bool (by unfold numsB; rw [← HT1.out]; simp), F1.out⟩
  have c1_0_0 : w1.cell? ⟨w.heap.size, 0, none⟩ = some (.int .i64 s.players) := cell_blk B10.out 0
  have c1_0_1 : w1.cell? ⟨w.heap.size, 1, none⟩ = some (.slice s.bo s.nb s.bc) := cell_blk B10.out 1
  go_wp2_with fail
  refine (HW2.out _ _ (alloc_new _ _)).mono ?_
  rintro e w2 ⟨rfl, f2⟩
  have F2 := Lib.hid ((F1.out.alloc _).trans f2 (by simp [Ext]))
  have B20 := Lib.hid (f2.blk (alloc_old B10.out) (by simp))
  clear f2
  clear F1 B10
  cases t2
  · go_wp2_with fail
    go_ret
    exact ⟨ret_bool (by unfold numsB; rw [← HT1.out, ← HT2.out]; rfl), F2.out⟩
  have c2_0_8 : w2.cell? ⟨w.heap.size, 8, none⟩ = some (.int .i64 s.fog) := cell_blk B20.out 8
  go_wp2_with fail
  refine (HW3.out _ _ (alloc_new _ _)).mono ?_
  rintro e w3 ⟨rfl, f3⟩
  have F3 := Lib.hid ((F2.out.alloc _).trans f3 (by simp [Ext]))
  have B30 := Lib.hid (f3.blk (alloc_old B20.out) (by simp))
  clear f3
  clear F2 B20
  cases t3
  · go_wp2_with fail
    go_ret
    exact ⟨ret_bool (by unfold numsB; rw [← HT1.out, ← HT2.out, ← HT3.out]; rfl), F3.out⟩
  have c3_0_9 : w3.cell? ⟨w.heap.size, 9, none⟩ = some (.int .i64 s.gx) := cell_blk B30.out 9
  have c3_0_10 : w3.cell? ⟨w.heap.size, 10, none⟩ = some (.int .i64 s.gy) := cell_blk B30.out 10
  go_wp2_with fail
  refine (HW4.out _ _ (alloc_new _ _)).mono ?_
  rintro e w4 ⟨rfl, f4⟩
  have F4 := Lib.hid ((F3.out.alloc _).trans f4 (by simp [Ext]))
  have B40 := Lib.hid (f4.blk (alloc_old B30.out) (by simp))
  clear f4
  clear F3 B30
  cases t4
  · go_wp2_with fail
    go_ret
    exact ⟨ret_bool (by unfold numsB; rw [← HT1.out, ← HT2.out, ← HT3.out, ← HT4.out]; rfl), F4.out⟩
  have c4_0_11 : w4.cell? ⟨w.heap.size, 11, none⟩ = some (.int .i64 s.push) := cell_blk B40.out 11
  go_wp2_with fail
  refine (HW5.out _ _ (alloc_new _ _)).mono ?_
  rintro e w5 ⟨rfl, f5⟩
  have F5 := Lib.hid ((F4.out.alloc _).trans f5 (by simp [Ext]))
  have B50 := Lib.hid (f5.blk (alloc_old B40.out) (by simp))
  clear f5
  clear F4 B40
  cases t5
  · go_wp2_with fail
    go_ret
    exact ⟨ret_bool (by unfold numsB; rw [← HT1.out, ← HT2.out, ← HT3.out, ← HT4.out, ← HT5.out]; rfl), F5.out⟩
  have c5_0_12 : w5.cell? ⟨w.heap.size, 12, none⟩ = some (.int .i64 s.drag) := cell_blk B50.out 12
  have c5_0_13 : w5.cell? ⟨w.heap.size, 13, none⟩ = some (.int .i64 s.rest) := cell_blk B50.out 13
  go_wp2_with fail
  refine (HW6.out _ _ (alloc_new _ _)).mono ?_
  rintro e w6 ⟨rfl, f6⟩
  have F6 := Lib.hid ((F5.out.alloc _).trans f6 (by simp [Ext]))
  have B60 := Lib.hid (f6.blk (alloc_old B50.out) (by simp))
  clear f6
  clear F5 B50
  cases t6
  · go_wp2_with fail
    go_ret
    exact ⟨ret_bool (by unfold numsB; rw [← HT1.out, ← HT2.out, ← HT3.out, ← HT4.out, ← HT5.out, ← HT6.out]; rfl), F6.out⟩
  have c6_0_14 : w6.cell? ⟨w.heap.size, 14, none⟩ = some (.int .i64 s.rounds) := cell_blk B60.out 14
  go_wp2_with fail
  refine (HW7.out _ _ (alloc_new _ _)).mono ?_
  rintro e w7 ⟨rfl, f7⟩
  have F7 := Lib.hid ((F6.out.alloc _).trans f7 (by simp [Ext]))
  have B70 := Lib.hid (f7.blk (alloc_old B60.out) (by simp))
  clear f7
  clear F6 B60
  cases t7
  · go_wp2_with fail
    go_ret
    exact ⟨ret_bool (by unfold numsB; rw [← HT1.out, ← HT2.out, ← HT3.out, ← HT4.out, ← HT5.out, ← HT6.out, ← HT7.out]; rfl), F7.out⟩
  have c7_0_15 : w7.cell? ⟨w.heap.size, 15, none⟩ = some (.int .i64 s.fuel) := cell_blk B70.out 15
  go_wp2_with fail
  refine (HW8.out _ _ (alloc_new _ _)).mono ?_
  rintro e w8 ⟨rfl, f8⟩
  have F8 := Lib.hid ((F7.out.alloc _).trans f8 (by simp [Ext]))
  have B80 := Lib.hid (f8.blk (alloc_old B70.out) (by simp))
  clear f8
  clear F7 B70
  cases t8
  · go_wp2_with fail
    go_ret
    exact ⟨ret_bool (by unfold numsB; rw [← HT1.out, ← HT2.out, ← HT3.out, ← HT4.out, ← HT5.out, ← HT6.out, ← HT7.out, ← HT8.out]; rfl), F8.out⟩
  · go_wp2_with fail
    go_ret
    exact ⟨ret_bool (by unfold numsB; rw [← HT1.out, ← HT2.out, ← HT3.out, ← HT4.out, ← HT5.out, ← HT6.out, ← HT7.out, ← HT8.out]; rfl), F8.out⟩

def d1 (d : Bd) (x0 y0 x1 y1 : Int) : Bool := inB (0) (4096) d.im
def d2 (d : Bd) (x0 y0 x1 y1 : Int) : Bool := inB (-16384) (16384) d.vx && inB (-16384) (16384) d.vy
def d3 (d : Bd) (x0 y0 x1 y1 : Int) : Bool := inB (x0) (x1) d.px
def d4 (d : Bd) (x0 y0 x1 y1 : Int) : Bool := inB (y0) (y1) d.py
def d5 (d : Bd) (x0 y0 x1 y1 : Int) : Bool := inB (-2147483647) (2147483647) d.a && inB (-2147483647) (2147483647) d.b
def bodyB (d : Bd) (x0 y0 x1 y1 : Int) : Bool := d1 d x0 y0 x1 y1 && d2 d x0 y0 x1 y1 && d3 d x0 y0 x1 y1 && d4 d x0 y0 x1 y1 && d5 d x0 y0 x1 y1
theorem alloc_new3 (w : World) (a b o' : Obj) : (((w.alloc a).alloc b).alloc o').heap[w.heap.size + 1 + 1]? = some o' := by
  have := alloc_new ((w.alloc a).alloc b) o'
  rwa [World.size_alloc, World.size_alloc] at this
theorem alloc_new4 (w : World) (a b c o' : Obj) : ((((w.alloc a).alloc b).alloc c).alloc o').heap[w.heap.size + 1 + 1 + 1]? = some o' := by
  have := alloc_new (((w.alloc a).alloc b).alloc c) o'
  rwa [World.size_alloc, World.size_alloc, World.size_alloc] at this
set_option maxRecDepth 100000 in
set_option maxHeartbeats 4000000 in
theorem vbody_any (w : World) (d : Bd) (x0 y0 x1 y1 : Int) : Calls Try.prog 41 #[d.val, BX x0 y0 x1 y1] w fun e w' => e = .returned (.bool (bodyB d x0 y0 x1 y1)) ∧ Fr [] w w' := by
  obtain ⟨t1, ht1⟩ : ∃ t, t = d1 d x0 y0 x1 y1 := ⟨_, rfl⟩
  have HW1 := Lib.hid (fun (u : World) (b : Nat) h => (by rw [ht1]; exact within1 u b (0) (4096) (d.im) h : Calls Try.prog 53 #[.int .i64 (0), .int .i64 (4096), .slice (some ⟨b, 0, none⟩) 1 1] u fun e w' => e = .returned (.bool t1) ∧ Fr [] u w'))
  have HT1 := Lib.hid ht1
  obtain ⟨t2, ht2⟩ : ∃ t, t = d2 d x0 y0 x1 y1 := ⟨_, rfl⟩
  have HW2 := Lib.hid (fun (u : World) (b : Nat) h => (by rw [ht2]; exact within2 u b (-16384) (16384) (d.vx) (d.vy) h : Calls Try.prog 53 #[.int .i64 (-16384), .int .i64 (16384), .slice (some ⟨b, 0, none⟩) 2 2] u fun e w' => e = .returned (.bool t2) ∧ Fr [] u w'))
  have HT2 := Lib.hid ht2
  obtain ⟨t3, ht3⟩ : ∃ t, t = d3 d x0 y0 x1 y1 := ⟨_, rfl⟩
  have HW3 := Lib.hid (fun (u : World) (b : Nat) h => (by rw [ht3]; exact within1 u b (x0) (x1) (d.px) h : Calls Try.prog 53 #[.int .i64 (x0), .int .i64 (x1), .slice (some ⟨b, 0, none⟩) 1 1] u fun e w' => e = .returned (.bool t3) ∧ Fr [] u w'))
  have HT3 := Lib.hid ht3
  obtain ⟨t4, ht4⟩ : ∃ t, t = d4 d x0 y0 x1 y1 := ⟨_, rfl⟩
  have HW4 := Lib.hid (fun (u : World) (b : Nat) h => (by rw [ht4]; exact within1 u b (y0) (y1) (d.py) h : Calls Try.prog 53 #[.int .i64 (y0), .int .i64 (y1), .slice (some ⟨b, 0, none⟩) 1 1] u fun e w' => e = .returned (.bool t4) ∧ Fr [] u w'))
  have HT4 := Lib.hid ht4
  obtain ⟨t5, ht5⟩ : ∃ t, t = d5 d x0 y0 x1 y1 := ⟨_, rfl⟩
  have HW5 := Lib.hid (fun (u : World) (b : Nat) h => (by rw [ht5]; exact within2 u b (-2147483647) (2147483647) (d.a) (d.b) h : Calls Try.prog 53 #[.int .i64 (-2147483647), .int .i64 (2147483647), .slice (some ⟨b, 0, none⟩) 2 2] u fun e w' => e = .returned (.bool t5) ∧ Fr [] u w'))
  have HT5 := Lib.hid ht5
  clear ht1 ht2 ht3 ht4 ht5
  unfold Bd.val BX
  go_enter Try.func41, Try.ntmps41
  go_wp2_with fail
  refine (HW1.out _ _ (alloc_new4 w _ _ _ _)).mono ?_
  rintro e w1 ⟨rfl, f1⟩
  have F1 := Lib.hid ((((((Fr.refl [] w).alloc _).alloc _).alloc _).alloc _).trans f1 (by simp [Ext]))
  have B10 := Lib.hid (f1.blk (alloc_old (alloc_old (alloc_old (alloc_new w _)))) (by simp))
  have B11 := Lib.hid (f1.blk (alloc_old (alloc_old (alloc_new2 w _ _))) (by simp))
  have B12 := Lib.hid (f1.blk (alloc_old (alloc_new3 w _ _ _)) (by simp))
  clear f1
  cases t1
  · go_wp2_with fail
    go_ret
    exact ⟨ret_bool (by unfold bodyB; rw [← HT1.out]; simp), F1.out⟩
  have c1_2_2 : w1.cell? ⟨w.heap.size + 1 + 1, 2, none⟩ = some (.int .i64 d.vx) := cell_blk B12.out 2
  have c1_2_3 : w1.cell? ⟨w.heap.size + 1 + 1, 3, none⟩ = some (.int .i64 d.vy) := cell_blk B12.out 3
  go_wp2_with fail
  refine (HW2.out _ _ (alloc_new _ _)).mono ?_
  rintro e w2 ⟨rfl, f2⟩
  have F2 := Lib.hid ((F1.out.alloc _).trans f2 (by simp [Ext]))
  have B20 := Lib.hid (f2.blk (alloc_old B10.out) (by simp))
  have B21 := Lib.hid (f2.blk (alloc_old B11.out) (by simp))
  have B22 := Lib.hid (f2.blk (alloc_old B12.out) (by simp))
  clear f2
  clear F1 B10 B11 B12
  cases t2
  · go_wp2_with fail
    go_ret
    exact ⟨ret_bool (by unfold bodyB; rw [← HT1.out, ← HT2.out]; rfl), F2.out⟩
  have c2_1_0 : w2.cell? ⟨w.heap.size + 1, 0, none⟩ = some (.int .i64 x0) := cell_blk B21.out 0
  have c2_1_2 : w2.cell? ⟨w.heap.size + 1, 2, none⟩ = some (.int .i64 x1) := cell_blk B21.out 2
  have c2_2_0 : w2.cell? ⟨w.heap.size + 1 + 1, 0, none⟩ = some (.int .i64 d.px) := cell_blk B22.out 0
  go_wp2_with fail
  refine (HW3.out _ _ (alloc_new _ _)).mono ?_
  rintro e w3 ⟨rfl, f3⟩
  have F3 := Lib.hid ((F2.out.alloc _).trans f3 (by simp [Ext]))
  have B30 := Lib.hid (f3.blk (alloc_old B20.out) (by simp))
  have B31 := Lib.hid (f3.blk (alloc_old B21.out) (by simp))
  have B32 := Lib.hid (f3.blk (alloc_old B22.out) (by simp))
  clear f3
  clear F2 B20 B21 B22
  cases t3
  · go_wp2_with fail
    go_ret
    exact ⟨ret_bool (by unfold bodyB; rw [← HT1.out, ← HT2.out, ← HT3.out]; rfl), F3.out⟩
  have c3_1_1 : w3.cell? ⟨w.heap.size + 1, 1, none⟩ = some (.int .i64 y0) := cell_blk B31.out 1
  have c3_1_3 : w3.cell? ⟨w.heap.size + 1, 3, none⟩ = some (.int .i64 y1) := cell_blk B31.out 3
  have c3_2_1 : w3.cell? ⟨w.heap.size + 1 + 1, 1, none⟩ = some (.int .i64 d.py) := cell_blk B32.out 1
  go_wp2_with fail
  refine (HW4.out _ _ (alloc_new _ _)).mono ?_
  rintro e w4 ⟨rfl, f4⟩
  have F4 := Lib.hid ((F3.out.alloc _).trans f4 (by simp [Ext]))
  have B40 := Lib.hid (f4.blk (alloc_old B30.out) (by simp))
  have B41 := Lib.hid (f4.blk (alloc_old B31.out) (by simp))
  have B42 := Lib.hid (f4.blk (alloc_old B32.out) (by simp))
  clear f4
  clear F3 B30 B31 B32
  cases t4
  · go_wp2_with fail
    go_ret
    exact ⟨ret_bool (by unfold bodyB; rw [← HT1.out, ← HT2.out, ← HT3.out, ← HT4.out]; rfl), F4.out⟩
  have c4_0_7 : w4.cell? ⟨w.heap.size, 7, none⟩ = some (.int .i64 d.a) := cell_blk B40.out 7
  have c4_0_8 : w4.cell? ⟨w.heap.size, 8, none⟩ = some (.int .i64 d.b) := cell_blk B40.out 8
  go_wp2_with fail
  refine (HW5.out _ _ (alloc_new _ _)).mono ?_
  rintro e w5 ⟨rfl, f5⟩
  have F5 := Lib.hid ((F4.out.alloc _).trans f5 (by simp [Ext]))
  have B50 := Lib.hid (f5.blk (alloc_old B40.out) (by simp))
  have B51 := Lib.hid (f5.blk (alloc_old B41.out) (by simp))
  have B52 := Lib.hid (f5.blk (alloc_old B42.out) (by simp))
  clear f5
  clear F4 B40 B41 B42
  cases t5
  · go_wp2_with fail
    go_ret
    exact ⟨ret_bool (by unfold bodyB; rw [← HT1.out, ← HT2.out, ← HT3.out, ← HT4.out, ← HT5.out]; rfl), F5.out⟩
  · go_wp2_with fail
    go_ret
    exact ⟨ret_bool (by unfold bodyB; rw [← HT1.out, ← HT2.out, ← HT3.out, ← HT4.out, ← HT5.out]; rfl), F5.out⟩

end Go.Proofs.Ytlfomhknfpmhbaa