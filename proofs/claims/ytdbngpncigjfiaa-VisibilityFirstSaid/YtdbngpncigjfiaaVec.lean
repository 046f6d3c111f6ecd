/- Package vec: Sub, Len; the reference's. -/
import Derived.Test.YtdbngpncigjfiaaIsq
import Derived.Test.YtdbngpncigjfiaaMem
import Derived.Test.YtdbngpncigjfiaaRound
import Derived.Test.YtdbngpncigjfiaaBlk
import Derived.StillTailTactics
import Derived.Deep.RegionHeld3
import Derived.Deep.CutBlock
import Derived.Deep.DeepCutAuto
namespace Go.Proofs.Ytdbngpncigjfiaa
open Go.RowKit

/-- a pair of coordinates -/
def V2 (x y : Int) : Value := .agg #[.int .i64 x, .int .i64 y]
def inC (x : Int) : Prop := -1048576 ≤ x ∧ x ≤ 1048576
def inD (x : Int) : Prop := -2097152 ≤ x ∧ x ≤ 2097152

/-- a root's function that made memory -/
def RootFr (n : Nat) (w : World) (e : Ending) (w' : World) : Prop := ∃ r : Nat, e = .returned (.int .i64 r) ∧ IsRoot n r ∧ r < 2147483648 ∧ Fr [] w w'
theorem mul_self_nn (x : Int) : 0 ≤ x * x := by
  rcases Int.le_total 0 x with h | h
  · exact Int.mul_nonneg h h
  · have := Int.mul_nonneg (show 0 ≤ -x by omega) (show 0 ≤ -x by omega); rwa [Int.neg_mul_neg] at this

set_option maxRecDepth 100000 in
set_option maxHeartbeats 1000000 in
theorem minus_any (w : World) (x y : Int) (hx : inC x) (hy : inC y) :
    Calls Try.prog 48 #[.int .i64 x, .int .i64 y] w fun e w' => e = .returned (.int .i64 (x - y)) ∧ w = w' := by
  obtain ⟨x0, x1⟩ := hx
  obtain ⟨y0, y1⟩ := hy
  go_enter Try.func48, Try.ntmps48
  go_wp2_with fail
  go_ret
  exact ⟨rfl, rfl⟩

set_option maxRecDepth 100000 in
set_option maxHeartbeats 4000000 in
theorem combine_any (w : World) (x y x2 y2 : Int) (hx : inC x) (hy : inC y) (hx2 : inC x2) (hy2 : inC y2) :
    Calls Try.prog 47 #[.agg #[.int .i64 x, .int .i64 y], .agg #[.int .i64 x2, .int .i64 y2], .func (.func 48) #[] #[]] w
      fun e w' => e = .returned (.agg #[.int .i64 (x - x2), .int .i64 (y - y2)]) ∧ Fr [] w w' := by
  go_enter Try.func47, Try.ntmps47
  go_upto_region 1 with (fail)
  have HA := Lib.hid fun u => (minus_any u x x2 hx hx2).mono fun _ _ h => (⟨h.1, h.2.symm⟩ : _ ∧ _ = u)
  have HB := Lib.hid fun u => (minus_any u y y2 hy hy2).mono fun _ _ h => (⟨h.1, h.2.symm⟩ : _ ∧ _ = u)
  refine wp_still_tail 13 (by kernel_rfl) (by kernel_rfl) ?_
  simp only [List.take_succ_cons, List.take_zero]
  repeat still_step
  still_call (HA.out _)
  repeat still_step
  still_call (HB.out _)
  repeat still_step
  refine wpStill_nil ?_
  go_wp2_with fail
  refine bodyPost_ret (v := .agg #[.int .i64 (x - x2), .int .i64 (y - y2)]) (by simp [results, Try.results47, go_sem]) rfl ⟨rfl, ?_⟩
  exact (((Fr.refl [] w).alloc _).alloc _).alloc _ |>.drew

set_option maxRecDepth 100000 in
set_option maxHeartbeats 4000000 in
theorem sub_any (w : World) (x y x2 y2 : Int) (hx : inC x) (hy : inC y) (hx2 : inC x2) (hy2 : inC y2) :
    Calls Try.prog 29 #[.agg #[.int .i64 x, .int .i64 y], .agg #[.int .i64 x2, .int .i64 y2]] w
      fun e w' => e = .returned (.agg #[.int .i64 (x - x2), .int .i64 (y - y2)]) ∧ Fr [] w w' := by
  have HC := Lib.hid fun u => combine_any u x y x2 y2 hx hy hx2 hy2
  go_enter Try.func29, Try.ntmps29
  go_upto_region 1 with (fail)
  obtain ⟨b, hb⟩ : ∃ b, b = w.heap.size + 1 + 1 := ⟨_, rfl⟩
  obtain ⟨wb, hwb⟩ : ∃ wb, wb = ((w.alloc (.cells #[.int .i64 x, .int .i64 y] 29)).alloc (.cells #[.int .i64 x2, .int .i64 y2] 29)).alloc (.cells #[.int .i64 0, .int .i64 0] 29) := ⟨_, rfl⟩
  have HB := Lib.hid (by rw [hwb, hb]; exact (show w.heap.size + 1 + 1 = ((w.alloc (.cells #[.int .i64 x, .int .i64 y] 29)).alloc (.cells #[.int .i64 x2, .int .i64 y2] 29)).heap.size by simp) ▸ alloc_new _ _ : wb.heap[b]? = some (.cells #[.int .i64 0, .int .i64 0] 29 (0, 0)))
  have HWB := Lib.hid (by rw [hwb]; exact (((Fr.refl [] w).alloc _).alloc _).alloc _ : Fr [] w wb)
  have hbw : w.heap.size ≤ b := by omega
  have HBE := Lib.hid hb
  have HWE := Lib.hid hwb
  clear hb hwb
  go_wp2_with (first | (go_at_call 47; refine (HC.out _).mono ?_; rintro e w1 ⟨rfl, hf1⟩; rw [← HWE.out] at hf1; rw [← HBE.out]; have HB1 := Lib.hid (hf1.blk HB.out (by simp)); have HF1 := Lib.hid hf1; clear hf1) | (refine wpList_storeB rfl 29 (Operand.tmp 4) (Operand.tmp 7) rfl b 2 #[.int .i64 (x - x2), .int .i64 (y - y2)] rfl rfl #[.int .i64 0, .int .i64 0] 29 HB1.out rfl rfl (by kernel_rfl) (by simp [Value.oneCell']) ?_; intro w5 hb5 hf5; have HB5 := Lib.hid hb5; have HF5 := Lib.hid hf5; clear hb5 hf5))
  have t0 := cell_blk HB5.out 0
  have t1 := cell_blk HB5.out 1
  refine bodyPost_ret (v := .agg #[.int .i64 (x - x2), .int .i64 (y - y2)]) (by simp [results, Try.results29, go_sem, t0, t1]) rfl ⟨rfl, ?_⟩
  exact (HWB.out.trans HF1.out (by simp [Ext])).trans HF5.out (by simp [Ext]; omega)

theorem dd_bound {x y : Int} (hx : inC x) (hy : inC y) : inD (x - y) := by unfold inC at hx hy; unfold inD; omega
theorem sq_bound {x : Int} (h : inD x) : 0 ≤ x * x ∧ x * x ≤ 4398046511104 := by
  obtain ⟨h0, h1⟩ := h
  constructor
  · exact mul_self_nn x
  · rcases Int.le_total 0 x with h | h
    · exact Int.le_trans (Int.mul_le_mul h1 h1 h (by omega)) (by omega)
    · have : x * x = (-x) * (-x) := by rw [Int.neg_mul_neg]
      rw [this]
      exact Int.le_trans (Int.mul_le_mul (by omega : -x ≤ 2097152) (by omega : -x ≤ 2097152) (by omega) (by omega)) (by omega)

set_option maxRecDepth 100000 in
set_option maxHeartbeats 4000000 in
theorem vlen_any (w : World) (x y : Int) (hx : inD x) (hy : inD y) :
    Calls Try.prog 42 #[.agg #[.int .i64 x, .int .i64 y]] w fun e w' => RootFr (x * x + y * y).toNat w e w' := by
  obtain ⟨a0, a1⟩ := sq_bound hx
  obtain ⟨b0, b1⟩ := sq_bound hy
  obtain ⟨n, hn⟩ : ∃ n, n = (x * x + y * y).toNat := ⟨_, rfl⟩
  have hn2 : n < 4611686018427387904 := by omega
  have HN := Lib.hid hn
  have HNI := Lib.hid (by omega : x * x + y * y = (n : Int))
  have HQ := Lib.hid fun u => sqrt_any n u hn2
  rw [← hn]
  clear hn hx hy
  go_enter Try.func42, Try.ntmps42
  go_wp2_with (go_at_call 50; rw [HNI.out]; refine (HQ.out _).mono ?_; rintro e w1 ⟨r, rfl, hr, hrs, rfl⟩; have HR := Lib.hid hr; clear hr)
  go_ret
  exact ⟨r, rfl, HR.out, hrs, (Fr.refl [] w).alloc _⟩

set_option maxRecDepth 100000 in
set_option maxHeartbeats 4000000 in
theorem rlen_any (w : World) (x y : Int) (hx : inD x) (hy : inD y) :
    Calls Try.prog 44 #[.agg #[.int .i64 x, .int .i64 y]] w fun e w' => RootFr (x * x + y * y).toNat w e w' := by
  obtain ⟨a0, a1⟩ := sq_bound hx
  obtain ⟨b0, b1⟩ := sq_bound hy
  obtain ⟨n, hn⟩ : ∃ n, n = (x * x + y * y).toNat := ⟨_, rfl⟩
  have hn2 : n < 4611686018427387904 := by omega
  have HN := Lib.hid hn
  have HNI := Lib.hid (by omega : x * x + y * y = (n : Int))
  have HQ := Lib.hid fun u => rsqrt_any n u hn2
  rw [← hn]
  clear hn hx hy
  go_enter Try.func44, Try.ntmps44
  go_wp2_with (go_at_call 51; rw [HNI.out]; refine (HQ.out _).mono ?_; rintro e w1 ⟨r, rfl, hr, hrs, rfl⟩; have HR := Lib.hid hr; clear hr)
  go_ret
  exact ⟨r, rfl, HR.out, hrs, (Fr.refl [] w).alloc _⟩

set_option maxRecDepth 100000 in
set_option maxHeartbeats 4000000 in
theorem rsub_any (w : World) (x y x2 y2 : Int) (hx : inC x) (hy : inC y) (hx2 : inC x2) (hy2 : inC y2) :
    Calls Try.prog 45 #[.agg #[.int .i64 x, .int .i64 y], .agg #[.int .i64 x2, .int .i64 y2]] w
      fun e w' => e = .returned (.agg #[.int .i64 (x - x2), .int .i64 (y - y2)]) ∧ Fr [] w w' := by
  obtain ⟨x0, x1⟩ := hx
  obtain ⟨y0, y1⟩ := hy
  obtain ⟨x20, x21⟩ := hx2
  obtain ⟨y20, y21⟩ := hy2
  go_enter Try.func45, Try.ntmps45
  go_wp2_with fail
  refine bodyPost_ret (v := .agg #[.int .i64 (x - x2), .int .i64 (y - y2)]) (by simp [results, Try.results45, go_sem]) rfl ⟨rfl, ?_⟩
  exact (((Fr.refl [] w).alloc _).alloc _).alloc _
end Go.Proofs.Ytdbngpncigjfiaa
