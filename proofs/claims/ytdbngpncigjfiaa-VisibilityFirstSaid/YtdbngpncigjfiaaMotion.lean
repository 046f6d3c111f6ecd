/- Package layout: Motion, and the reference's. -/
import Derived.Test.YtdbngpncigjfiaaDisjoint
namespace Go.Proofs.Ytdbngpncigjfiaa
open Go.RowKit

/-- the motion read from the cells -/
def motL (s : St) (bodies : List Bd) (cells : List Int) (i : Nat) : List Value :=
  let b := (48 + 4 * s.players + 8 * (i : Int)).toNat
  [.int .i64 (cells.getD b 0), .int .i64 (cells.getD (b + 1) 0), .int .i64 (cells.getD (b + 2) 0), .int .i64 (cells.getD (b + 3) 0), .int .i64 ((bodies.map (·.im)).getD i 0)]
def mot0 : List Value := [.int .i64 0, .int .i64 0, .int .i64 0, .int .i64 0, .int .i64 0]
def motIn (s : St) (cells : List Int) (i : Int) : Prop := 0 ≤ i ∧ i < (s.nb : Int) ∧ 48 + 4 * s.players + 8 * i + 8 ≤ (cells.length : Int)
instance (s : St) (cells : List Int) (i : Int) : Decidable (motIn s cells i) := by unfold motIn; infer_instance
def motOf (s : St) (bodies : List Bd) (cells : List Int) (i : Int) : Value := .agg (if motIn s cells i then motL s bodies cells i.toNat else mot0).toArray

theorem Bd.flat_im (bodies : List Bd) (k : Nat) (hk : k < bodies.length) : (bodies.flatMap Bd.cells)[k * 9 + 6]? = some (.int .i64 (bodies[k]).im) := by
  induction bodies generalizing k with
  | nil => simp at hk
  | cons d l ih =>
    rw [List.flatMap_cons]
    cases k with
    | zero => rfl
    | succ k =>
      rw [List.getElem?_append_right (by simp [Bd.cells]; omega)]
      have h := ih k (by simpa using hk)
      rw [show (k + 1) * 9 + 6 - d.cells.length = k * 9 + 6 by simp [Bd.cells]; omega]
      simpa using h

structure MotPre (w : World) (s : St) (bodies : List Bd) (co : Option Addr) (cc : Nat) (cells : List Int) : Prop where
  ok : s.Ok
  p0 : 0 ≤ s.players
  bd : BodiesAt w s bodies
  rd : Rd w 1 co cells.length (ints cells)
  fit : cells.length ≤ cc
  cap : cc ≤ maxLen

set_option maxRecDepth 100000 in
set_option maxHeartbeats 8000000 in
theorem motion_in (w : World) (s : St) (bodies : List Bd) (co : Option Addr) (cc : Nat) (cells : List Int) (h : MotPre w s bodies co cc cells) (i : Nat) (hi : motIn s cells i) :
    Calls Try.prog 41 #[s.val, .slice co cells.length cc, .int .i64 (i : Int)] w fun e w' => e = .returned (.agg (motL s bodies cells i).toArray) ∧ Fr [] w w' := by
  obtain ⟨hok, hp0, hbd, hrd, hfit, hcap⟩ := h
  obtain ⟨h1, h2, h3⟩ := hi
  unfold maxLen at hcap
  obtain ⟨b, hb⟩ := Int.eq_ofNat_of_zero_le (show 0 ≤ 48 + 4 * s.players + 8 * (i : Int) by omega)
  have hbn : (48 + 4 * s.players + 8 * (i : Int)).toNat = b := by omega
  have HB := Lib.hid (fun (u : World) => (by have h := body_any u s hok (i : Int); rw [show bdOf s (i : Int) = (b : Int) by unfold bdOf; rw [if_neg (by omega)]; exact hb] at h; exact h : Calls Try.prog 25 #[s.val, .int .i64 (i : Int)] u fun e w' => e = .returned (.int .i64 (b : Int)) ∧ Fr [] u w'))
  obtain ⟨m, hm⟩ : ∃ m, m = cells.length - b := ⟨_, rfl⟩
  have hm8 : 8 ≤ m := by omega
  obtain ⟨g, off, rfl, hg, hc⟩ := hrd.at (by omega)
  have hcx : ∀ j, j < 4 → w.cell? ⟨g, off + b + j, none⟩ = some (.int .i64 (cells.getD (b + j) 0)) := fun j hj => by
    rw [Nat.add_assoc, hc _ (by omega), ints_get, List.getElem?_eq_getElem (by omega), List.getD_eq_getElem?_getD, List.getElem?_eq_getElem (by omega)]; rfl
  have hnb : i < bodies.length := by have := hbd.nb; omega
  have hrb := hbd.rd
  obtain ⟨bg, boff, hbo, hbg, hbc⟩ := hrb.at (by omega)
  have him : w.cell? ⟨bg, boff + i * 9 + 6, none⟩ = some (.int .i64 ((bodies.map (·.im)).getD i 0)) := by
    rw [Nat.add_assoc, hbc _ (by omega), Bd.flat_im bodies i hnb, List.getD_eq_getElem?_getD, List.getElem?_map, List.getElem?_eq_getElem hnb]; rfl
  have hsl := run_slice_from (P := Try.prog) 22 3 Try.underlying22 1 (by kernel_rfl) (some ⟨g, off, none⟩) cells.length cc b (by omega)
  rw [cutA_ne (by omega), Nat.mul_one, ← hm] at hsl
  have e0 := hcx 0 (by omega)
  have e1 := hcx 1 (by omega)
  have e2 := hcx 2 (by omega)
  have e3 := hcx 3 (by omega)
  obtain ⟨v0, hv0⟩ : ∃ v, cells.getD (b + 0) 0 = v := ⟨_, rfl⟩
  obtain ⟨v1, hv1⟩ : ∃ v, cells.getD (b + 1) 0 = v := ⟨_, rfl⟩
  obtain ⟨v2, hv2⟩ : ∃ v, cells.getD (b + 2) 0 = v := ⟨_, rfl⟩
  obtain ⟨v3, hv3⟩ : ∃ v, cells.getD (b + 3) 0 = v := ⟨_, rfl⟩
  obtain ⟨vm, hvm⟩ : ∃ v, (bodies.map (·.im)).getD i 0 = v := ⟨_, rfl⟩
  have HE := Lib.hid (by unfold motL; simp only [hbn]; rw [show cells.getD b 0 = v0 from hv0, hv1, hv2, hv3, hvm] : motL s bodies cells i = [.int .i64 v0, .int .i64 v1, .int .i64 v2, .int .i64 v3, .int .i64 vm])
  rw [hv0, Nat.add_zero] at e0
  rw [hv1] at e1
  rw [hv2] at e2
  rw [hv3] at e3
  rw [hvm] at him
  have hbl : (b : Int) < 9223372036854775807 := by omega
  have hmm : (cells.length : Int) - (b : Int) = (m : Int) := by omega
  have HMM := Lib.hid hmm
  have HBO := Lib.hid hbo
  have hnbi : (i : Int) < (s.nb : Int) := h2
  have hcl : (cells.length : Int) ≤ 9223372036854775807 := by omega
  have hm8' : (8 : Int) ≤ (m : Int) := by omega
  have HW := Lib.hid ((Fr.refl [] w).alloc (.cells (stCells s) 31))
  rw [HE.out]
  clear hb hbn hm hrd hc hcx hbd hrb hbc hv0 hv1 hv2 hv3 hvm hmm
  unfold St.val at HB ⊢
  rw [hbo] at HB ⊢
  clear hbo
  go_enter Try.func41, Try.ntmps41
  go_wp2_with fail
  refine (HB.out _).mono ?_
  rintro e w1 ⟨rfl, f1⟩
  have hb0 := f1.blk (alloc_old (o' := .cells #[.int .i64 0, .int .i64 0, .int .i64 0, .int .i64 0, .int .i64 0] 66) (alloc_new w (.cells #[.int .i64 s.players, .slice (some ⟨bg, boff, none⟩) s.nb s.bc, .int .i64 s.x0, .int .i64 s.y0, .int .i64 s.x1, .int .i64 s.y1, .slice s.ro s.rn s.rc, .slice s.dO s.dn s.dc, .int .i64 s.fog, .int .i64 s.gx, .int .i64 s.gy, .int .i64 s.push, .int .i64 s.drag, .int .i64 s.rest, .int .i64 s.rounds, .int .i64 s.fuel] 31))) (by simp)
  have hb1 := f1.blk (alloc_new2 w (.cells #[.int .i64 s.players, .slice (some ⟨bg, boff, none⟩) s.nb s.bc, .int .i64 s.x0, .int .i64 s.y0, .int .i64 s.x1, .int .i64 s.y1, .slice s.ro s.rn s.rc, .slice s.dO s.dn s.dc, .int .i64 s.fog, .int .i64 s.gx, .int .i64 s.gy, .int .i64 s.push, .int .i64 s.drag, .int .i64 s.rest, .int .i64 s.rounds, .int .i64 s.fuel] 31) (.cells #[.int .i64 0, .int .i64 0, .int .i64 0, .int .i64 0, .int .i64 0] 66)) (by simp)
  have q1 : w1.cell? ⟨w.heap.size, 1, none⟩ = some (.slice (some ⟨bg, boff, none⟩) s.nb s.bc) := cell_blk hb0 1
  have F1 := Lib.hid ((((Fr.refl [] w).alloc _).alloc _).trans f1 (by simp [Ext]))
  have d0 : w1.cell? ⟨g, off + b, none⟩ = some (.int .i64 v0) := (World.cell?_of_block (a := ⟨g, off + b, none⟩) (F1.out.block g hg (by simp))).trans e0
  have d1 : w1.cell? ⟨g, off + b + 1, none⟩ = some (.int .i64 v1) := (World.cell?_of_block (a := ⟨g, off + b + 1, none⟩) (F1.out.block g hg (by simp))).trans e1
  have d2 : w1.cell? ⟨g, off + b + 2, none⟩ = some (.int .i64 v2) := (World.cell?_of_block (a := ⟨g, off + b + 2, none⟩) (F1.out.block g hg (by simp))).trans e2
  have d3 : w1.cell? ⟨g, off + b + 3, none⟩ = some (.int .i64 v3) := (World.cell?_of_block (a := ⟨g, off + b + 3, none⟩) (F1.out.block g hg (by simp))).trans e3
  have dm : w1.cell? ⟨bg, boff + i * 9 + 6, none⟩ = some (.int .i64 vm) := (World.cell?_of_block (a := ⟨bg, boff + i * 9 + 6, none⟩) (F1.out.block bg hbg (by simp))).trans him
  have HB1 := Lib.hid hb1
  have hx8 : decide ((cells.length : Int) - (b : Int) < 8) = false := decide_eq_false (by have := HMM.out; omega)
  have hx9 : IntKind.i64.wrap ((cells.length : Int) - (b : Int)) = (cells.length : Int) - (b : Int) := IntWalk.i64_in _ (by have := HMM.out; omega)
  have hx7 : decide ((b : Int) < 0) = false := decide_eq_false (by omega)
  have HM8 := Lib.hid hm8'
  clear hb0 hb1 f1 e0 e1 e2 e3 him hcap hm8 hm8' h1 h2 h3 hcl hbl hfit hok hp0 hnb
  go_wp2_with fail
  clear hx7 hx8 hx9
  have n0 : 0 < m := by have := HM8.out; omega
  have n1 : 1 < m := by have := HM8.out; omega
  have n2 : 2 < m := by have := HM8.out; omega
  have n3 : 3 < m := by have := HM8.out; omega
  have m0 : (0 : Int) < (m : Int) := by have := HM8.out; omega
  have m1 : (1 : Int) < (m : Int) := by have := HM8.out; omega
  have m2 : (2 : Int) < (m : Int) := by have := HM8.out; omega
  have m3 : (3 : Int) < (m : Int) := by have := HM8.out; omega
  refine wp_still_tail 22 (by kernel_rfl) (by kernel_rfl) ?_
  simp only [List.take_succ_cons, List.take_zero, List.drop_succ_cons, List.drop_zero]
  repeat still_step
  refine wpStill_nil ?_
  go_wp2_with (refine wpList_storeB rfl 66 (Operand.tmp 6) (Operand.tmp 46) rfl (w.heap.size + 1) 5 #[.int .i64 v0, .int .i64 v1, .int .i64 v2, .int .i64 v3, .int .i64 vm] rfl rfl #[.int .i64 0, .int .i64 0, .int .i64 0, .int .i64 0, .int .i64 0] 66 (by exact HB1.out) rfl rfl infoMotion (by simp [Value.oneCell']) ?_; intro wf hbf hff; have HBF := Lib.hid hbf; have HFF := Lib.hid hff; clear hbf hff)
  have t0 : wf.cell? ⟨w.heap.size + 1, 0, none⟩ = some (.int .i64 v0) := cell_blk HBF.out 0
  have t1 : wf.cell? ⟨w.heap.size + 1, 1, none⟩ = some (.int .i64 v1) := cell_blk HBF.out 1
  have t2 : wf.cell? ⟨w.heap.size + 1, 2, none⟩ = some (.int .i64 v2) := cell_blk HBF.out 2
  have t3 : wf.cell? ⟨w.heap.size + 1, 3, none⟩ = some (.int .i64 v3) := cell_blk HBF.out 3
  have t4 : wf.cell? ⟨w.heap.size + 1, 4, none⟩ = some (.int .i64 vm) := cell_blk HBF.out 4
  refine bodyPost_ret (by simp [results, Try.results41, go_sem, t0, t1, t2, t3, t4]; rfl) rfl ?_
  refine ⟨rfl, F1.out.trans (show Fr [w.heap.size + 1] w1 wf from ⟨HFF.out.os, HFF.out.tape, HFF.out.output, HFF.out.size, HFF.out.block⟩) (fun k hk => .inr (by simp at hk; omega))⟩
end Go.Proofs.Ytdbngpncigjfiaa
