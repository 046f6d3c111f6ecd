/- Package layout: Motion where there is none, and the reference's. -/
import Derived.Test.YtdbngpncigjfiaaMotion2
namespace Go.Proofs.Ytdbngpncigjfiaa
open Go.RowKit

theorem bdOf_cases (s : St) (cells : List Int) (hp0 : 0 ≤ s.players) (i : Int) (hi : ¬ motIn s cells i) : bdOf s i = -1 ∨ (∃ b : Nat, bdOf s i = (b : Int) ∧ (cells.length : Int) < (b : Int) + 8) := by
  unfold motIn at hi
  unfold bdOf
  by_cases h : i < 0 ∨ (s.nb : Int) ≤ i
  · rw [if_pos h]; exact .inl rfl
  · rw [if_neg h]
    right
    refine ⟨(48 + 4 * s.players + 8 * i).toNat, by omega, ?_⟩
    omega

set_option maxRecDepth 100000 in
set_option maxHeartbeats 8000000 in
theorem motion_out (w : World) (s : St) (co : Option Addr) (cc : Nat) (cells : List Int) (hok : s.Ok) (hp0 : 0 ≤ s.players) (hcl : cells.length ≤ 4611686018427387904) (i : Int) (hi : ¬ motIn s cells i) :
    Calls Try.prog 41 #[s.val, .slice co cells.length cc, .int .i64 i] w fun e w' => e = .returned (.agg mot0.toArray) ∧ Fr [] w w' := by
  have hcs := bdOf_cases s cells hp0 i hi
  have HB := Lib.hid (fun (u : World) => body_any u s hok i)
  have HN := Lib.hid (alloc_new2 w (.cells #[.int .i64 s.players, .slice s.bo s.nb s.bc, .int .i64 s.x0, .int .i64 s.y0, .int .i64 s.x1, .int .i64 s.y1, .slice s.ro s.rn s.rc, .slice s.dO s.dn s.dc, .int .i64 s.fog, .int .i64 s.gx, .int .i64 s.gy, .int .i64 s.push, .int .i64 s.drag, .int .i64 s.rest, .int .i64 s.rounds, .int .i64 s.fuel] 31) (.cells #[.int .i64 0, .int .i64 0, .int .i64 0, .int .i64 0, .int .i64 0] 66))
  have hbl : bdOf s i ≤ 4611686018427387904 ∨ True := .inr trivial
  have HP := Lib.hid (show s.players ≤ 1048576 from hok.p1)
  have HNB := Lib.hid (show s.nb ≤ 1048576 from hok.b1)
  clear hi hbl
  rcases hcs with hneg | ⟨b, hbe, hlt⟩
  · rw [hneg] at HB
    clear hneg hok hp0
    unfold St.val at HB ⊢
    go_enter Try.func41, Try.ntmps41
    go_wp2_with fail
    refine (HB.out _).mono ?_
    rintro e w1 ⟨rfl, f1⟩
    have HB1 := Lib.hid (f1.blk HN.out (by simp))
    have F1 := Lib.hid ((((Fr.refl [] w).alloc _).alloc _).trans f1 (by simp [Ext]))
    clear f1
    go_wp2_with (refine wpList_storeB rfl 66 (Operand.tmp 6) (Operand.tmp 21) rfl (w.heap.size + 1) 5 #[.int .i64 0, .int .i64 0, .int .i64 0, .int .i64 0, .int .i64 0] rfl rfl #[.int .i64 0, .int .i64 0, .int .i64 0, .int .i64 0, .int .i64 0] 66 (by exact HB1.out) rfl rfl infoMotion (by simp [Value.oneCell']) ?_; intro wf hbf hff; have HBF := Lib.hid hbf; have HFF := Lib.hid hff; clear hbf hff)
    have t0 : wf.cell? ⟨w.heap.size + 1, 0, none⟩ = some (.int .i64 0) := cell_blk HBF.out 0
    have t1 : wf.cell? ⟨w.heap.size + 1, 1, none⟩ = some (.int .i64 0) := cell_blk HBF.out 1
    have t2 : wf.cell? ⟨w.heap.size + 1, 2, none⟩ = some (.int .i64 0) := cell_blk HBF.out 2
    have t3 : wf.cell? ⟨w.heap.size + 1, 3, none⟩ = some (.int .i64 0) := cell_blk HBF.out 3
    have t4 : wf.cell? ⟨w.heap.size + 1, 4, none⟩ = some (.int .i64 0) := cell_blk HBF.out 4
    refine bodyPost_ret (by simp [results, Try.results41, go_sem, t0, t1, t2, t3, t4]; rfl) rfl ?_
    refine ⟨rfl, F1.out.trans HFF.out (fun k hk => .inr (by simp at hk; omega))⟩
  · rw [hbe] at HB
    have hbb : (b : Int) ≤ 100000000 := by
      have h1 := HP.out; have h2 := HNB.out
      unfold bdOf at hbe
      split at hbe <;> omega
    clear hok hp0 hbe
    have q0 : decide ((b : Int) < 0) = false := decide_eq_false (by omega)
    have q1 : decide ((cells.length : Int) - (b : Int) < 8) = true := decide_eq_true (by omega)
    have q2 : IntKind.i64.wrap ((cells.length : Int) - (b : Int)) = (cells.length : Int) - (b : Int) := IntWalk.i64_in _ (by omega)
    have q3 : (cells.length : Int) - (b : Int) < 8 := by omega
    have q4 : -9223372036854775808 ≤ (cells.length : Int) - (b : Int) := by omega
    clear hlt hcl
    unfold St.val at HB ⊢
    go_enter Try.func41, Try.ntmps41
    go_wp2_with fail
    refine (HB.out _).mono ?_
    rintro e w1 ⟨rfl, f1⟩
    have HB1 := Lib.hid (f1.blk HN.out (by simp))
    have F1 := Lib.hid ((((Fr.refl [] w).alloc _).alloc _).trans f1 (by simp [Ext]))
    clear f1
    go_wp2_with (refine wpList_storeB rfl 66 (Operand.tmp 6) (Operand.tmp 21) rfl (w.heap.size + 1) 5 #[.int .i64 0, .int .i64 0, .int .i64 0, .int .i64 0, .int .i64 0] rfl rfl #[.int .i64 0, .int .i64 0, .int .i64 0, .int .i64 0, .int .i64 0] 66 (by exact HB1.out) rfl rfl infoMotion (by simp [Value.oneCell']) ?_; intro wf hbf hff; have HBF := Lib.hid hbf; have HFF := Lib.hid hff; clear hbf hff)
    have t0 : wf.cell? ⟨w.heap.size + 1, 0, none⟩ = some (.int .i64 0) := cell_blk HBF.out 0
    have t1 : wf.cell? ⟨w.heap.size + 1, 1, none⟩ = some (.int .i64 0) := cell_blk HBF.out 1
    have t2 : wf.cell? ⟨w.heap.size + 1, 2, none⟩ = some (.int .i64 0) := cell_blk HBF.out 2
    have t3 : wf.cell? ⟨w.heap.size + 1, 3, none⟩ = some (.int .i64 0) := cell_blk HBF.out 3
    have t4 : wf.cell? ⟨w.heap.size + 1, 4, none⟩ = some (.int .i64 0) := cell_blk HBF.out 4
    refine bodyPost_ret (by simp [results, Try.results41, go_sem, t0, t1, t2, t3, t4]; rfl) rfl ?_
    refine ⟨rfl, F1.out.trans HFF.out (fun k hk => .inr (by simp at hk; omega))⟩


end Go.Proofs.Ytdbngpncigjfiaa
