/- Indices, Disjoint, Motion, Motion2, Motion3, Motion4, SeesP, Sees (merged by merge.py). -/
import Derived.Laws.Closers25b
import Derived.Deep.RegionHeld3
import Derived.Test.YtcgndeggemceaaaZ284
import Derived.Test.YtcgndeggemceaaaZ282
import Derived.Laws.StructEq
import Derived.Test.YtcgndeggemceaaaZ283
/- LayoutIndices returns true. -/
namespace Go.Proofs.Ytcgndeggemceaaa
open Go.RowKit

theorem range_blk {w : World} {b : Nat} {c : Array Value} {T : TypeId} {f : Nat × Nat} (h : w.heap[b]? = some (.cells c T f)) : w.rangeAt b 0 c.toList := fun j v hv => by
  rw [Nat.zero_add, cell_blk h, ← Array.getElem?_toList]; exact hv

theorem SetupAt.ok {w w' : World} {s : St} {bodies : List Bd} {doors : List (Int × Int)} (h : SetupAt w w' s bodies doors) : s.Ok := by
  have h1 := h.num.1
  have h2 := h.nb
  have h3 := h.b5
  exact ⟨by omega, by omega, by omega, by omega⟩

end Go.Proofs.Ytcgndeggemceaaa
/- LayoutDisjoint returns true. -/
namespace Go.Proofs.Ytcgndeggemceaaa
open Go.RowKit

/-- ones from 48 on -/
def usedL (n c : Nat) : List Int := List.replicate 48 0 ++ (List.replicate c 1 ++ List.replicate (n - 48 - c) 0)
theorem usedL_len (n c : Nat) (h : 48 + c ≤ n) : (usedL n c).length = n := by simp [usedL]; omega
theorem usedL_zero (n : Nat) (h : 48 ≤ n) : usedL n 0 = List.replicate n 0 := by
  unfold usedL
  simp only [List.replicate_zero, List.nil_append, Nat.sub_zero]
  rw [List.replicate_append_replicate]
  congr 1
  omega
theorem usedL_at (n c : Nat) (h : 48 + c < n) : (usedL n c)[48 + c]? = some 0 := by
  unfold usedL
  rw [List.getElem?_append_right (by simp), List.length_replicate, show 48 + c - 48 = c by omega, List.getElem?_append_right (by simp), List.length_replicate, Nat.sub_self, List.getElem?_replicate]
  rw [if_pos (by omega)]
theorem usedL_set (n c : Nat) (h : 48 + c < n) : (usedL n c).set (48 + c) 1 = usedL n (c + 1) := by
  unfold usedL
  rw [List.set_append_right _ _ (by simp), List.length_replicate, show 48 + c - 48 = c by omega, List.set_append_right _ _ (by simp), List.length_replicate, Nat.sub_self, show n - 48 - c = (n - 48 - (c + 1)) + 1 by omega, show List.replicate (n - 48 - (c + 1) + 1) (0 : Int) = 0 :: List.replicate (n - 48 - (c + 1)) 0 from rfl, List.set_cons_zero, List.replicate_succ' (n := c)]
  simp
theorem usedL_end (n i : Nat) (hn : 48 ≤ n) (hi : i < n) : (usedL n (n - 48))[i]? = some (if 48 ≤ i then 1 else 0) := by
  unfold usedL
  by_cases h : 48 ≤ i
  · rw [if_pos h, List.getElem?_append_right (by simpa using h), List.length_replicate, List.getElem?_append_left (by simp; omega), List.getElem?_replicate, if_pos (by omega)]
  · rw [if_neg h, List.getElem?_append_left (by simp; omega), List.getElem?_replicate, if_pos (by omega)]

/-- the counters as far as c; the setup in its block -/
def DisQ (w : World) (bu b3 : Nat) (C : Array Value) (n c : Nat) (wr : World) : Prop :=
  wr.heap[bu]? = some (row (usedL n c)) ∧ wr.heap[b3]? = some (.cells C 49 (0, 0)) ∧ Fr [] w wr

theorem DisQ.fr {w : World} {bu b3 : Nat} {C : Array Value} {n c : Nat} {wr w' : World} (h : DisQ w bu b3 C n c wr) (hf : Fr [] wr w') : DisQ w bu b3 C n c w' :=
  ⟨hf.blk h.1 (by simp), hf.blk h.2.1 (by simp), h.2.2.trans hf (by simp [Ext])⟩
theorem DisQ.step {w : World} {bu b3 : Nat} {C : Array Value} {n c : Nat} {wr : World} (h : DisQ w bu b3 C n c wr) (hne : b3 ≠ bu) (hbu : w.heap.size ≤ bu) (hc : 48 + c < n) :
    DisQ w bu b3 C n (c + 1) (wr.setCell ⟨bu, 48 + c, none⟩ (.int .i64 1)) := by
  refine ⟨?_, (setCell_ne (by simpa using hne)).trans h.2.1, h.2.2.setCell (p := ⟨bu, 48 + c, none⟩) (.inr hbu) _⟩
  have := row_set h.1 (48 + c) 1
  rw [usedL_set n c hc] at this
  exact this
theorem DisQ.at {w : World} {bu b3 : Nat} {C : Array Value} {n c : Nat} {wr : World} (h : DisQ w bu b3 C n c wr) (hc : 48 + c < n) :
    wr.cell? ⟨bu, 48 + c, none⟩ = some (.int .i64 0) ∧ wr.frozen? ⟨bu, 48 + c, none⟩ = false := by
  have hl := usedL_len n c (by omega)
  have h1 := row_cell h.1 (k := 48 + c) (by omega)
  have h2 := usedL_at n c hc
  rw [List.getElem?_eq_getElem (by omega)] at h2
  injection h2 with h2
  rw [h2] at h1
  exact ⟨h1, row_frozen h.1 _⟩

end Go.Proofs.Ytcgndeggemceaaa
/- Package layout: Motion, and the reference's. -/
namespace Go.Proofs.Ytcgndeggemceaaa
open Go.RowKit

/-- the motion read from the cells -/
def motL (s : St) (bodies : List Bd) (cells : List Int) (i : Nat) : List Value :=
  let b := (48 + 4 * s.players + 8 * (i : Int)).toNat
  [.int .i64 (cells.getD b 0), .int .i64 (cells.getD (b + 1) 0), .int .i64 (cells.getD (b + 2) 0), .int .i64 (cells.getD (b + 3) 0), .int .i64 ((bodies.map (·.im)).getD i 0)]
def mot0 : List Value := [.int .i64 0, .int .i64 0, .int .i64 0, .int .i64 0, .int .i64 0]
def motIn (s : St) (cells : List Int) (i : Int) : Prop := 0 ≤ i ∧ i < (s.nb : Int) ∧ 48 + 4 * s.players + 8 * i + 8 ≤ (cells.length : Int)
instance (s : St) (cells : List Int) (i : Int) : Decidable (motIn s cells i) := by unfold motIn; infer_instance
def motOf (s : St) (bodies : List Bd) (cells : List Int) (i : Int) : Value := .agg (if motIn s cells i then motL s bodies cells i.toNat else mot0).toArray

theorem Bd.flat_im (bodies : List Bd) (k : Nat) (hk : k < bodies.length) : (bodies.flatMap Bd.cells)[k * 9 + 6]? = some (.int .i64 (bodies[k]).im) := by
  induction bodies generalizing k with
  | nil => simp at hk
  | cons d l ih =>
    rw [List.flatMap_cons]
    cases k with
    | zero => rfl
    | succ k =>
      rw [List.getElem?_append_right (by simp [Bd.cells]; omega)]
      have h := ih k (by simpa using hk)
      rw [show (k + 1) * 9 + 6 - d.cells.length = k * 9 + 6 by simp [Bd.cells]; omega]
      simpa using h

structure MotPre (w : World) (s : St) (bodies : List Bd) (co : Option Addr) (cc : Nat) (cells : List Int) : Prop where
  ok : s.Ok
  p0 : 0 ≤ s.players
  bd : BodiesAt w s bodies
  rd : Rd w 1 co cells.length (ints cells)
  fit : cells.length ≤ cc
  cap : cc ≤ maxLen

set_option maxRecDepth 100000 in
set_option maxHeartbeats 8000000 in
theorem motion_in (w : World) (s : St) (bodies : List Bd) (co : Option Addr) (cc : Nat) (cells : List Int) (h : MotPre w s bodies co cc cells) (i : Nat) (hi : motIn s cells i) :
    Calls Try.prog 57 #[s.val, .slice co cells.length cc, .int .i64 (i : Int)] w fun e w' => e = .returned (.agg (motL s bodies cells i).toArray) ∧ Fr [] w w' := by
  obtain ⟨hok, hp0, hbd, hrd, hfit, hcap⟩ := h
  obtain ⟨h1, h2, h3⟩ := hi
  unfold maxLen at hcap
  obtain ⟨b, hb⟩ := Int.eq_ofNat_of_zero_le (show 0 ≤ 48 + 4 * s.players + 8 * (i : Int) by omega)
  have hbn : (48 + 4 * s.players + 8 * (i : Int)).toNat = b := by omega
  have HB := Lib.hid (fun (u : World) => (by have h := body_any u s hok (i : Int); rw [show bdOf s (i : Int) = (b : Int) by unfold bdOf; rw [if_neg (by omega)]; exact hb] at h; exact h : Calls Try.prog 27 #[s.val, .int .i64 (i : Int)] u fun e w' => e = .returned (.int .i64 (b : Int)) ∧ Fr [] u w'))
  obtain ⟨m, hm⟩ : ∃ m, m = cells.length - b := ⟨_, rfl⟩
  have hm8 : 8 ≤ m := by omega
  obtain ⟨g, off, rfl, hg, hc⟩ := hrd.at (by omega)
  have hcx : ∀ j, j < 4 → w.cell? ⟨g, off + b + j, none⟩ = some (.int .i64 (cells.getD (b + j) 0)) := fun j hj => by
    rw [Nat.add_assoc, hc _ (by omega), ints_get, List.getElem?_eq_getElem (by omega), List.getD_eq_getElem?_getD, List.getElem?_eq_getElem (by omega)]; rfl
  have hnb : i < bodies.length := by have := hbd.nb; omega
  have hrb := hbd.rd
  obtain ⟨bg, boff, hbo, hbg, hbc⟩ := hrb.at (by omega)
  have him : w.cell? ⟨bg, boff + i * 9 + 6, none⟩ = some (.int .i64 ((bodies.map (·.im)).getD i 0)) := by
    rw [Nat.add_assoc, hbc _ (by omega), Bd.flat_im bodies i hnb, List.getD_eq_getElem?_getD, List.getElem?_map, List.getElem?_eq_getElem hnb]; rfl
  have hsl := run_slice_from (P := Try.prog) 22 3 Try.underlying22 1 (by kernel_rfl) (some ⟨g, off, none⟩) cells.length cc b (by omega)
  rw [cutA_ne (by omega), Nat.mul_one, ← hm] at hsl
  have e0 := hcx 0 (by omega)
  have e1 := hcx 1 (by omega)
  have e2 := hcx 2 (by omega)
  have e3 := hcx 3 (by omega)
  obtain ⟨v0, hv0⟩ : ∃ v, cells.getD (b + 0) 0 = v := ⟨_, rfl⟩
  obtain ⟨v1, hv1⟩ : ∃ v, cells.getD (b + 1) 0 = v := ⟨_, rfl⟩
  obtain ⟨v2, hv2⟩ : ∃ v, cells.getD (b + 2) 0 = v := ⟨_, rfl⟩
  obtain ⟨v3, hv3⟩ : ∃ v, cells.getD (b + 3) 0 = v := ⟨_, rfl⟩
  obtain ⟨vm, hvm⟩ : ∃ v, (bodies.map (·.im)).getD i 0 = v := ⟨_, rfl⟩
  have HE := Lib.hid (by unfold motL; simp only [hbn]; rw [show cells.getD b 0 = v0 from hv0, hv1, hv2, hv3, hvm] : motL s bodies cells i = [.int .i64 v0, .int .i64 v1, .int .i64 v2, .int .i64 v3, .int .i64 vm])
  rw [hv0, Nat.add_zero] at e0
  rw [hv1] at e1
  rw [hv2] at e2
  rw [hv3] at e3
  rw [hvm] at him
  have hbl : (b : Int) < 9223372036854775807 := by omega
  have hmm : (cells.length : Int) - (b : Int) = (m : Int) := by omega
  have HMM := Lib.hid hmm
  have HBO := Lib.hid hbo
  have hnbi : (i : Int) < (s.nb : Int) := h2
  have hcl : (cells.length : Int) ≤ 9223372036854775807 := by omega
  have hm8' : (8 : Int) ≤ (m : Int) := by omega
  have HW := Lib.hid ((Fr.refl [] w).alloc (.cells (stCells s) 49))
  rw [HE.out]
  clear hb hbn hm hrd hc hcx hbd hrb hbc hv0 hv1 hv2 hv3 hvm hmm
  unfold St.val at HB ⊢
  rw [hbo] at HB ⊢
  clear hbo
  go_enter Try.func57, Try.ntmps57
  go_wp2_with fail
  refine (HB.out _).mono ?_
  rintro e w1 ⟨rfl, f1⟩
  have hb0 := f1.blk (alloc_old (o' := .cells #[.int .i64 0, .int .i64 0, .int .i64 0, .int .i64 0, .int .i64 0] 90) (alloc_new w (.cells #[.int .i64 s.players, .slice (some ⟨bg, boff, none⟩) s.nb s.bc, .int .i64 s.x0, .int .i64 s.y0, .int .i64 s.x1, .int .i64 s.y1, .slice s.ro s.rn s.rc, .slice s.dO s.dn s.dc, .int .i64 s.fog, .int .i64 s.gx, .int .i64 s.gy, .int .i64 s.push, .int .i64 s.drag, .int .i64 s.rest, .int .i64 s.rounds, .int .i64 s.fuel] 49))) (by simp)
  have hb1 := f1.blk (alloc_new2 w (.cells #[.int .i64 s.players, .slice (some ⟨bg, boff, none⟩) s.nb s.bc, .int .i64 s.x0, .int .i64 s.y0, .int .i64 s.x1, .int .i64 s.y1, .slice s.ro s.rn s.rc, .slice s.dO s.dn s.dc, .int .i64 s.fog, .int .i64 s.gx, .int .i64 s.gy, .int .i64 s.push, .int .i64 s.drag, .int .i64 s.rest, .int .i64 s.rounds, .int .i64 s.fuel] 49) (.cells #[.int .i64 0, .int .i64 0, .int .i64 0, .int .i64 0, .int .i64 0] 90)) (by simp)
  have q1 : w1.cell? ⟨w.heap.size, 1, none⟩ = some (.slice (some ⟨bg, boff, none⟩) s.nb s.bc) := cell_blk hb0 1
  have F1 := Lib.hid ((((Fr.refl [] w).alloc _).alloc _).trans f1 (by simp [Ext]))
  have d0 : w1.cell? ⟨g, off + b, none⟩ = some (.int .i64 v0) := (World.cell?_of_block (a := ⟨g, off + b, none⟩) (F1.out.block g hg (by simp))).trans e0
  have d1 : w1.cell? ⟨g, off + b + 1, none⟩ = some (.int .i64 v1) := (World.cell?_of_block (a := ⟨g, off + b + 1, none⟩) (F1.out.block g hg (by simp))).trans e1
  have d2 : w1.cell? ⟨g, off + b + 2, none⟩ = some (.int .i64 v2) := (World.cell?_of_block (a := ⟨g, off + b + 2, none⟩) (F1.out.block g hg (by simp))).trans e2
  have d3 : w1.cell? ⟨g, off + b + 3, none⟩ = some (.int .i64 v3) := (World.cell?_of_block (a := ⟨g, off + b + 3, none⟩) (F1.out.block g hg (by simp))).trans e3
  have dm : w1.cell? ⟨bg, boff + i * 9 + 6, none⟩ = some (.int .i64 vm) := (World.cell?_of_block (a := ⟨bg, boff + i * 9 + 6, none⟩) (F1.out.block bg hbg (by simp))).trans him
  have HB1 := Lib.hid hb1
  have hx8 : decide ((cells.length : Int) - (b : Int) < 8) = false := decide_eq_false (by have := HMM.out; omega)
  have hx9 : IntKind.i64.wrap ((cells.length : Int) - (b : Int)) = (cells.length : Int) - (b : Int) := IntWalk.i64_in _ (by have := HMM.out; omega)
  have hx7 : decide ((b : Int) < 0) = false := decide_eq_false (by omega)
  have HM8 := Lib.hid hm8'
  clear hb0 hb1 f1 e0 e1 e2 e3 him hcap hm8 hm8' h1 h2 h3 hcl hbl hfit hok hp0 hnb
  go_wp2_with fail
  clear hx7 hx8 hx9
  have n0 : 0 < m := by have := HM8.out; omega
  have n1 : 1 < m := by have := HM8.out; omega
  have n2 : 2 < m := by have := HM8.out; omega
  have n3 : 3 < m := by have := HM8.out; omega
  have m0 : (0 : Int) < (m : Int) := by have := HM8.out; omega
  have m1 : (1 : Int) < (m : Int) := by have := HM8.out; omega
  have m2 : (2 : Int) < (m : Int) := by have := HM8.out; omega
  have m3 : (3 : Int) < (m : Int) := by have := HM8.out; omega
  refine wp_still_tail 22 (by kernel_rfl) (by kernel_rfl) ?_
  simp only [List.take_succ_cons, List.take_zero, List.drop_succ_cons, List.drop_zero]
  repeat still_step
  refine wpStill_nil ?_
  go_wp2_with (refine wpList_storeB rfl 90 (Operand.tmp 6) (Operand.tmp 46) rfl (w.heap.size + 1) 5 #[.int .i64 v0, .int .i64 v1, .int .i64 v2, .int .i64 v3, .int .i64 vm] rfl rfl #[.int .i64 0, .int .i64 0, .int .i64 0, .int .i64 0, .int .i64 0] 90 (by exact HB1.out) rfl rfl infoMotion (by simp [Value.oneCell']) ?_; intro wf hbf hff; have HBF := Lib.hid hbf; have HFF := Lib.hid hff; clear hbf hff)
  have t0 : wf.cell? ⟨w.heap.size + 1, 0, none⟩ = some (.int .i64 v0) := cell_blk HBF.out 0
  have t1 : wf.cell? ⟨w.heap.size + 1, 1, none⟩ = some (.int .i64 v1) := cell_blk HBF.out 1
  have t2 : wf.cell? ⟨w.heap.size + 1, 2, none⟩ = some (.int .i64 v2) := cell_blk HBF.out 2
  have t3 : wf.cell? ⟨w.heap.size + 1, 3, none⟩ = some (.int .i64 v3) := cell_blk HBF.out 3
  have t4 : wf.cell? ⟨w.heap.size + 1, 4, none⟩ = some (.int .i64 vm) := cell_blk HBF.out 4
  refine bodyPost_ret (by simp [results, Try.results57, go_sem, t0, t1, t2, t3, t4]; rfl) rfl ?_
  refine ⟨rfl, F1.out.trans (show Fr [w.heap.size + 1] w1 wf from ⟨HFF.out.os, HFF.out.tape, HFF.out.output, HFF.out.size, HFF.out.block⟩) (fun k hk => .inr (by simp at hk; omega))⟩
end Go.Proofs.Ytcgndeggemceaaa
/- The reference's Motion. -/
namespace Go.Proofs.Ytcgndeggemceaaa
open Go.RowKit

end Go.Proofs.Ytcgndeggemceaaa
/- Package layout: Motion where there is none, and the reference's. -/
namespace Go.Proofs.Ytcgndeggemceaaa
open Go.RowKit

theorem bdOf_cases (s : St) (cells : List Int) (hp0 : 0 ≤ s.players) (i : Int) (hi : ¬ motIn s cells i) : bdOf s i = -1 ∨ (∃ b : Nat, bdOf s i = (b : Int) ∧ (cells.length : Int) < (b : Int) + 8) := by
  unfold motIn at hi
  unfold bdOf
  by_cases h : i < 0 ∨ (s.nb : Int) ≤ i
  · rw [if_pos h]; exact .inl rfl
  · rw [if_neg h]
    right
    refine ⟨(48 + 4 * s.players + 8 * i).toNat, by omega, ?_⟩
    omega

set_option maxRecDepth 100000 in
set_option maxHeartbeats 8000000 in
theorem motion_out (w : World) (s : St) (co : Option Addr) (cc : Nat) (cells : List Int) (hok : s.Ok) (hp0 : 0 ≤ s.players) (hcl : cells.length ≤ 4611686018427387904) (i : Int) (hi : ¬ motIn s cells i) :
    Calls Try.prog 57 #[s.val, .slice co cells.length cc, .int .i64 i] w fun e w' => e = .returned (.agg mot0.toArray) ∧ Fr [] w w' := by
  have hcs := bdOf_cases s cells hp0 i hi
  have HB := Lib.hid (fun (u : World) => body_any u s hok i)
  have HN := Lib.hid (alloc_new2 w (.cells #[.int .i64 s.players, .slice s.bo s.nb s.bc, .int .i64 s.x0, .int .i64 s.y0, .int .i64 s.x1, .int .i64 s.y1, .slice s.ro s.rn s.rc, .slice s.dO s.dn s.dc, .int .i64 s.fog, .int .i64 s.gx, .int .i64 s.gy, .int .i64 s.push, .int .i64 s.drag, .int .i64 s.rest, .int .i64 s.rounds, .int .i64 s.fuel] 49) (.cells #[.int .i64 0, .int .i64 0, .int .i64 0, .int .i64 0, .int .i64 0] 90))
  have hbl : bdOf s i ≤ 4611686018427387904 ∨ True := .inr trivial
  have HP := Lib.hid (show s.players ≤ 1048576 from hok.p1)
  have HNB := Lib.hid (show s.nb ≤ 1048576 from hok.b1)
  clear hi hbl
  rcases hcs with hneg | ⟨b, hbe, hlt⟩
  · rw [hneg] at HB
    clear hneg hok hp0
    unfold St.val at HB ⊢
    go_enter Try.func57, Try.ntmps57
    go_wp2_with fail
    refine (HB.out _).mono ?_
    rintro e w1 ⟨rfl, f1⟩
    have HB1 := Lib.hid (f1.blk HN.out (by simp))
    have F1 := Lib.hid ((((Fr.refl [] w).alloc _).alloc _).trans f1 (by simp [Ext]))
    clear f1
    go_wp2_with (refine wpList_storeB rfl 90 (Operand.tmp 6) (Operand.tmp 21) rfl (w.heap.size + 1) 5 #[.int .i64 0, .int .i64 0, .int .i64 0, .int .i64 0, .int .i64 0] rfl rfl #[.int .i64 0, .int .i64 0, .int .i64 0, .int .i64 0, .int .i64 0] 90 (by exact HB1.out) rfl rfl infoMotion (by simp [Value.oneCell']) ?_; intro wf hbf hff; have HBF := Lib.hid hbf; have HFF := Lib.hid hff; clear hbf hff)
    have t0 : wf.cell? ⟨w.heap.size + 1, 0, none⟩ = some (.int .i64 0) := cell_blk HBF.out 0
    have t1 : wf.cell? ⟨w.heap.size + 1, 1, none⟩ = some (.int .i64 0) := cell_blk HBF.out 1
    have t2 : wf.cell? ⟨w.heap.size + 1, 2, none⟩ = some (.int .i64 0) := cell_blk HBF.out 2
    have t3 : wf.cell? ⟨w.heap.size + 1, 3, none⟩ = some (.int .i64 0) := cell_blk HBF.out 3
    have t4 : wf.cell? ⟨w.heap.size + 1, 4, none⟩ = some (.int .i64 0) := cell_blk HBF.out 4
    refine bodyPost_ret (by simp [results, Try.results57, go_sem, t0, t1, t2, t3, t4]; rfl) rfl ?_
    refine ⟨rfl, F1.out.trans HFF.out (fun k hk => .inr (by simp at hk; omega))⟩
  · rw [hbe] at HB
    have hbb : (b : Int) ≤ 100000000 := by
      have h1 := HP.out; have h2 := HNB.out
      unfold bdOf at hbe
      split at hbe <;> omega
    clear hok hp0 hbe
    have q0 : decide ((b : Int) < 0) = false := decide_eq_false (by omega)
    have q1 : decide ((cells.length : Int) - (b : Int) < 8) = true := decide_eq_true (by omega)
    have q2 : IntKind.i64.wrap ((cells.length : Int) - (b : Int)) = (cells.length : Int) - (b : Int) := IntWalk.i64_in _ (by omega)
    have q3 : (cells.length : Int) - (b : Int) < 8 := by omega
    have q4 : -9223372036854775808 ≤ (cells.length : Int) - (b : Int) := by omega
    clear hlt hcl
    unfold St.val at HB ⊢
    go_enter Try.func57, Try.ntmps57
    go_wp2_with fail
    refine (HB.out _).mono ?_
    rintro e w1 ⟨rfl, f1⟩
    have HB1 := Lib.hid (f1.blk HN.out (by simp))
    have F1 := Lib.hid ((((Fr.refl [] w).alloc _).alloc _).trans f1 (by simp [Ext]))
    clear f1
    go_wp2_with (refine wpList_storeB rfl 90 (Operand.tmp 6) (Operand.tmp 21) rfl (w.heap.size + 1) 5 #[.int .i64 0, .int .i64 0, .int .i64 0, .int .i64 0, .int .i64 0] rfl rfl #[.int .i64 0, .int .i64 0, .int .i64 0, .int .i64 0, .int .i64 0] 90 (by exact HB1.out) rfl rfl infoMotion (by simp [Value.oneCell']) ?_; intro wf hbf hff; have HBF := Lib.hid hbf; have HFF := Lib.hid hff; clear hbf hff)
    have t0 : wf.cell? ⟨w.heap.size + 1, 0, none⟩ = some (.int .i64 0) := cell_blk HBF.out 0
    have t1 : wf.cell? ⟨w.heap.size + 1, 1, none⟩ = some (.int .i64 0) := cell_blk HBF.out 1
    have t2 : wf.cell? ⟨w.heap.size + 1, 2, none⟩ = some (.int .i64 0) := cell_blk HBF.out 2
    have t3 : wf.cell? ⟨w.heap.size + 1, 3, none⟩ = some (.int .i64 0) := cell_blk HBF.out 3
    have t4 : wf.cell? ⟨w.heap.size + 1, 4, none⟩ = some (.int .i64 0) := cell_blk HBF.out 4
    refine bodyPost_ret (by simp [results, Try.results57, go_sem, t0, t1, t2, t3, t4]; rfl) rfl ?_
    refine ⟨rfl, F1.out.trans HFF.out (fun k hk => .inr (by simp at hk; omega))⟩


end Go.Proofs.Ytcgndeggemceaaa
/- Package layout: Motion at any index; comparing motions. -/
namespace Go.Proofs.Ytcgndeggemceaaa
open Go.RowKit

theorem motion_any (w : World) (s : St) (bodies : List Bd) (co : Option Addr) (cc : Nat) (cells : List Int) (h : MotPre w s bodies co cc cells) (hcl : cells.length ≤ 4611686018427387904) (i : Int) :
    Calls Try.prog 57 #[s.val, .slice co cells.length cc, .int .i64 i] w fun e w' => e = .returned (motOf s bodies cells i) ∧ Fr [] w w' := by
  by_cases hi : motIn s cells i
  · obtain ⟨k, rfl⟩ := Int.eq_ofNat_of_zero_le hi.1
    unfold motOf
    rw [if_pos hi, Int.toNat_natCast]
    exact motion_in w s bodies co cc cells h k hi
  · unfold motOf
    rw [if_neg hi]
    exact motion_out w s co cc cells h.ok h.p0 hcl i hi


theorem eq_vec (u : World) (d : Nat) (a b c e : Int) : (Op.equalIn (d + 1 + 1) 47 (.agg #[.int .i64 a, .int .i64 b]) (.agg #[.int .i64 c, .int .i64 e])).run Try.prog u = .ok ((a == c) && (b == e)) u := by
  have hf : Try.prog.underlying 47 = some (.struct (Try.prog.fieldsOf 47)) := by unfold Program.fieldsOf; rw [Try.underlying47]
  have hp : Try.prog.stoodInHeld 47 = false := by kernel_rfl
  rw [run_equalIn_struct u _ _ _ _ hf hp]
  simp only [Program.fieldsOf, Try.underlying47]
  cases h1 : (a == c) <;> cases h2 : (b == e) <;> simp [Op.eqFields, part, run_equalIn_int u _ _ _ _ _ _ Try.underlying3, h1, h2]

theorem ne_motion (u : World) (a0 a1 a2 a3 a4 b0 b1 b2 b3 b4 : Int) : (binOp .neq 90 (.agg #[.int .i64 a0, .int .i64 a1, .int .i64 a2, .int .i64 a3, .int .i64 a4]) (.agg #[.int .i64 b0, .int .i64 b1, .int .i64 b2, .int .i64 b3, .int .i64 b4])).run Try.prog u = .ok (.bool (!((((a0 == b0) && (a1 == b1)) && ((a2 == b2) && (a3 == b3))) && (a4 == b4)))) u := by
  have hf : Try.prog.underlying 90 = some (.struct (Try.prog.fieldsOf 90)) := by unfold Program.fieldsOf; rw [Try.underlying90]
  have hp : Try.prog.stoodInHeld 90 = false := by kernel_rfl
  rw [run_neq_struct, run_equalIn_struct u _ _ _ _ hf hp]
  simp only [Program.fieldsOf, Try.underlying90]
  have hv : ∀ a b c e : Int, (Op.equalIn 9999 47 (.agg #[.int .i64 a, .int .i64 b]) (.agg #[.int .i64 c, .int .i64 e])).run Try.prog u = .ok ((a == c) && (b == e)) u := fun a b c e => eq_vec u 9997 a b c e
  have hi : ∀ a c : Int, (Op.equalIn 9999 3 (.int .i64 a) (.int .i64 c)).run Try.prog u = .ok (a == c) u := fun a c => run_equalIn_int u 9998 _ _ _ a c Try.underlying3
  have p0 : ∀ x0 x1 x2 x3 x4 : Value, (part 47 #[x0, x1, x2, x3, x4] 0).run Try.prog u = .ok (.agg #[x0, x1]) u := fun x0 x1 x2 x3 x4 => by
    simp [part, Try.isAgg47, Try.sizeOf47]
  have p2 : ∀ x0 x1 x2 x3 x4 : Value, (part 47 #[x0, x1, x2, x3, x4] 2).run Try.prog u = .ok (.agg #[x2, x3]) u := fun x0 x1 x2 x3 x4 => by
    simp [part, Try.isAgg47, Try.sizeOf47]
  have p4 : ∀ x0 x1 x2 x3 x4 : Value, (part 3 #[x0, x1, x2, x3, x4] 4).run Try.prog u = .ok x4 u := fun x0 x1 x2 x3 x4 => by
    simp [part, Try.isAgg3, Try.sizeOf3]
  cases h1 : ((a0 == b0) && (a1 == b1)) <;> cases h2 : ((a2 == b2) && (a3 == b3)) <;> cases h3 : (a4 == b4) <;> simp [Op.eqFields, p0, p2, p4, hv, hi, h1, h2, h3]
end Go.Proofs.Ytcgndeggemceaaa
/- Chapter 27: the frame of Sees; the reference's position. -/
namespace Go.Proofs.Ytcgndeggemceaaa
open Go.RowKit

def posX (s : St) (cells : List Int) (i : Int) : Int := cells.getD (48 + 4 * s.players + 8 * i).toNat 0
def posY (s : St) (cells : List Int) (i : Int) : Int := cells.getD ((48 + 4 * s.players + 8 * i).toNat + 1) 0
structure VPre (w : World) (s : St) (bodies : List Bd) (rooms : List Bx) (doors : List (Int × Int)) (co : Option Addr) (cc : Nat) (cells : List Int) : Prop where
  mp : MotPre w s bodies co cc cells
  map : MapAt w s rooms doors
  few : Few rooms doors
  pn : s.players ≤ (s.nb : Int)
  len : 48 + 4 * s.players + 8 * (s.nb : Int) ≤ (cells.length : Int)
  pos : ∀ i : Int, 0 ≤ i → i < (s.nb : Int) → inC (posX s cells i) ∧ inC (posY s cells i)
  f0 : 0 ≤ s.fog
  f1 : s.fog ≤ 4194304
theorem VPre.old {w w' : World} {s : St} {bodies : List Bd} {rooms : List Bx} {doors : List (Int × Int)} {co : Option Addr} {cc : Nat} {cells : List Int} (h : VPre w s bodies rooms doors co cc cells) (hf : Fr [] w w') : VPre w' s bodies rooms doors co cc cells :=
  ⟨⟨h.mp.ok, h.mp.p0, h.mp.bd.old hf, h.mp.rd.fr hf (by simp), h.mp.fit, h.mp.cap⟩, h.map.old hf, h.few, h.pn, h.len, h.pos, h.f0, h.f1⟩

/-- the cells of a setup, as one letter -/
structure CAt (s : St) (C : Array Value) : Prop where
  val : s.val = .agg C
  size : C.size = 16
  c0 : C[0]? = some (.int .i64 s.players)
  c1 : C[1]? = some (.slice s.bo s.nb s.bc)
  c6 : C[6]? = some (.slice s.ro s.rn s.rc)
  c7 : C[7]? = some (.slice s.dO s.dn s.dc)
  c8 : C[8]? = some (.int .i64 s.fog)
theorem cAt (s : St) : ∃ C, CAt s C := ⟨_, ⟨rfl, rfl, rfl, rfl, rfl, rfl, rfl⟩⟩

section
variable {w : World} {s : St} {bodies : List Bd} {rooms : List Bx} {doors : List (Int × Int)} {co : Option Addr} {cc : Nat} {cells : List Int}

set_option maxRecDepth 100000 in
set_option maxHeartbeats 4000000 in
theorem position_any (h : VPre w s bodies rooms doors co cc cells) (i : Int) (h0 : 0 ≤ i) (h1 : i < (s.nb : Int)) :
    Calls Try.prog 63 #[s.val, .slice co cells.length cc, .int .i64 i] w fun e w' => e = .returned (.agg #[.int .i64 (posX s cells i), .int .i64 (posY s cells i)]) ∧ Fr [] w w' := by
  have hp := h.mp.p0
  have hok := h.mp.ok
  have hln := h.len
  have hcap := h.mp.cap
  unfold maxLen at hcap
  have hfit := h.mp.fit
  obtain ⟨b, hb⟩ := Int.eq_ofNat_of_zero_le (show 0 ≤ 48 + 4 * s.players + 8 * i by omega)
  have hbn : (48 + 4 * s.players + 8 * i).toNat = b := by omega
  obtain ⟨X, hX⟩ : ∃ X, X = posX s cells i := ⟨_, rfl⟩
  obtain ⟨Y, hY⟩ : ∃ Y, Y = posY s cells i := ⟨_, rfl⟩
  have hbl : b + 1 < cells.length := by omega
  obtain ⟨g, off, rfl, hg, hc⟩ := h.mp.rd.at (by omega)
  have e0 : w.cell? ⟨g, off + b, none⟩ = some (.int .i64 X) := by
    rw [hX, posX, hbn, hc _ (by omega), ints_get, List.getElem?_eq_getElem (by omega), List.getD_eq_getElem?_getD, List.getElem?_eq_getElem (by omega)]; rfl
  have e1 : w.cell? ⟨g, off + (b + 1), none⟩ = some (.int .i64 Y) := by
    rw [hY, posY, hbn, hc _ (by omega), ints_get, List.getElem?_eq_getElem (by omega), List.getD_eq_getElem?_getD, List.getElem?_eq_getElem (by omega)]; rfl
  obtain ⟨C, hC⟩ := cAt s
  have HBD := Lib.hid fun (u : World) => (by have h := rbody_any u s hok i; rw [show bdOf s i = (b : Int) by unfold bdOf; rw [if_neg (by omega)]; omega, hC.val] at h; exact h : Calls Try.prog 42 #[.agg C, .int .i64 i] u fun e w' => e = .returned (.int .i64 (b : Int)) ∧ Fr [] u w')
  have HCS := Lib.hid hC.size
  rw [hC.val, ← hX, ← hY]
  have E0 := Lib.hid e0
  have E1 := Lib.hid e1
  have HG := Lib.hid hg
  have hbb : b + 1 < cells.length := hbl
  obtain ⟨N, hN⟩ : ∃ N, N = cells.length := ⟨_, rfl⟩
  rw [← hN] at hbb ⊢
  have hNb : N ≤ 9223372036854775807 := by omega
  have hbi : (b : Int) + 1 < (N : Int) := by omega
  have w1' : IntKind.i64.wrap ((b : Int) + 1) = (b : Int) + 1 := IntWalk.i64_in _ (by omega)
  have x1' : (0 : Int) ≤ (b : Int) + 1 := by omega
  have y1' : ((b : Int) + 1).toNat = b + 1 := by omega
  clear h hp hok hln hfit hb hbn hX hY hc hbl hC e0 e1 hg h0 h1 hN hcap
  obtain ⟨bx, hbx⟩ : ∃ bx, bx = w.heap.size := ⟨_, rfl⟩
  obtain ⟨wb, hwb⟩ : ∃ wb, wb = (w.alloc (.cells C 49)).alloc (.cells #[.int .i64 0, .int .i64 0] 47) := ⟨_, rfl⟩
  have HB := Lib.hid (by rw [hwb, hbx]; exact alloc_old (alloc_new w _) : wb.heap[bx]? = some (.cells C 49 (0, 0)))
  have HR := Lib.hid (by rw [hwb, hbx]; exact alloc_new2 w _ _ : wb.heap[bx + 1]? = some (.cells #[.int .i64 0, .int .i64 0] 47 (0, 0)))
  have HWB := Lib.hid (by rw [hwb]; exact ((Fr.refl [] w).alloc _).alloc _ : Fr [] w wb)
  have HBX := Lib.hid hbx
  have HWE := Lib.hid hwb
  clear hbx hwb w1' x1' y1'
  go_enter Try.func63, Try.ntmps63
  go_upto_region 1 with (fail)
  rw [← HBX.out, ← HWE.out]
  go_upto_region 2 with (first | (refine wpList_loadB rfl 49 (Operand.tmp 3) rfl bx 16 rfl C 49 (0, 0) HB.out _ Try.underlying49 rfl HCS.out infoSetup ?_) | (go_at_call 42; refine (HBD.out _).mono ?_; rintro e w1 ⟨rfl, hf1⟩; have d0 := (World.cell?_of_block ((HWB.out.trans hf1 (by simp [Ext])).block g HG.out (by simp))).trans E0.out; have d1 := (World.cell?_of_block ((HWB.out.trans hf1 (by simp [Ext])).block g HG.out (by simp))).trans E1.out; have HF1 := Lib.hid hf1; have HR1 := Lib.hid (hf1.blk HR.out (by simp)); clear hf1))
  have o0 : b < N := by omega
  have o1 : b + 1 < N := by omega
  have p0 : (b : Int) < (N : Int) := by omega
  have p1 : (b : Int) + 1 < (N : Int) := by omega
  have w1' : IntKind.i64.wrap ((b : Int) + 1) = (b : Int) + 1 := IntWalk.i64_in _ (by omega)
  have x1' : (0 : Int) ≤ (b : Int) + 1 := by omega
  have y1' : ((b : Int) + 1).toNat = b + 1 := by omega
  refine wp_still_tail 10 (by kernel_rfl) (by kernel_rfl) ?_
  simp only [List.take_succ_cons, List.take_zero, List.drop_succ_cons, List.drop_zero]
  repeat still_step
  refine wpStill_nil ?_
  go_wp2_with (refine wpList_storeB rfl 47 (Operand.tmp 6) (Operand.tmp 20) rfl (bx + 1) 2 #[.int .i64 X, .int .i64 Y] rfl rfl #[.int .i64 0, .int .i64 0] 47 (by exact HR1.out) rfl rfl (by kernel_rfl) (by simp [Value.oneCell']) ?_; intro w5 hb5 hf5; have HB5 := Lib.hid hb5; have HF5 := Lib.hid hf5; clear hb5 hf5)
  have t0 := cell_blk HB5.out 0
  have t1 := cell_blk HB5.out 1
  have hbw := HBX.out
  refine bodyPost_ret (v := .agg #[.int .i64 X, .int .i64 Y]) (by simp [results, Try.results63, go_sem, t0, t1]) rfl ⟨rfl, ?_⟩
  exact (HWB.out.trans HF1.out (by simp [Ext])).trans (show Fr [bx + 1] w1 w5 from ⟨HF5.out.os, HF5.out.tape, HF5.out.output, HF5.out.size, HF5.out.block⟩) (fun k hk => .inr (by simp at hk; omega))
end
end Go.Proofs.Ytcgndeggemceaaa
/- Package visibility: Sees. -/
namespace Go.Proofs.Ytcgndeggemceaaa
open Go.RowKit

/-- a room sees another one -/
def roomsSee (rooms : List Bx) (doors : List (Int × Int)) (a b : Int) : Bool := decide (0 ≤ a) && decide (0 ≤ b) && connB doors a b
/-- a player's body sees another one -/
def farB (s : St) (rooms : List Bx) (doors : List (Int × Int)) (px py qx qy : Int) : Bool :=
  roomsSee rooms doors (roomOf rooms px py) (roomOf rooms qx qy) && decide ((qx - px) * (qx - px) + (qy - py) * (qy - py) < (s.fog + 1) * (s.fog + 1))
def seesB (s : St) (rooms : List Bx) (doors : List (Int × Int)) (cells : List Int) (p b : Int) : Bool :=
  if p < 0 ∨ s.players ≤ p ∨ b < 0 ∨ (s.nb : Int) ≤ b then false
  else if b = p then true
  else farB s rooms doors (posX s cells p) (posY s cells p) (posX s cells b) (posY s cells b)

theorem root_fog {n : Nat} {r : Nat} {f m : Int} (h : IsRoot n r) (hf : 0 ≤ f) (hm : m = (n : Int)) : decide ((r : Int) ≤ f) = decide (m < (f + 1) * (f + 1)) := by
  obtain ⟨k, rfl⟩ := Int.eq_ofNat_of_zero_le hf
  have h1 := h.le_iff k
  rw [hm]
  have h2 : ((k : Int) + 1) * ((k : Int) + 1) = (((k + 1) * (k + 1) : Nat) : Int) := by simp
  rw [h2]
  apply decide_eq_decide.2
  rw [Int.ofNat_le, Int.ofNat_lt]
  exact h1

section
variable {w : World} {s : St} {bodies : List Bd} {rooms : List Bx} {doors : List (Int × Int)} {co : Option Addr} {cc : Nat} {cells : List Int}

theorem VPre.motion (h : VPre w s bodies rooms doors co cc cells) (i : Int) (h0 : 0 ≤ i) (h1 : i < (s.nb : Int)) : ∃ vx vy im : Int, ∀ u, Fr [] w u →
    Calls Try.prog 57 #[s.val, .slice co cells.length cc, .int .i64 i] u fun e w' => e = .returned (.agg #[.int .i64 (posX s cells i), .int .i64 (posY s cells i), .int .i64 vx, .int .i64 vy, .int .i64 im]) ∧ Fr [] u w' := by
  obtain ⟨k, rfl⟩ := Int.eq_ofNat_of_zero_le h0
  refine ⟨cells.getD ((48 + 4 * s.players + 8 * (k : Int)).toNat + 2) 0, cells.getD ((48 + 4 * s.players + 8 * (k : Int)).toNat + 3) 0, (bodies.map (·.im)).getD k 0, fun u hu => ?_⟩
  have hm := (h.old hu).mp
  have hln := h.len
  exact motion_in u s bodies co cc cells hm k ⟨h0, h1, by omega⟩

set_option maxRecDepth 100000 in
set_option maxHeartbeats 8000000 in
theorem sees_any (h : VPre w s bodies rooms doors co cc cells) (p b : Int) :
    Calls Try.prog 48 #[s.val, .slice co cells.length cc, .int .i64 p, .int .i64 b] w fun e w' => e = .returned (.bool (seesB s rooms doors cells p b)) ∧ Fr [] w w' := by
  have hok := h.mp.ok
  have hp0 := h.mp.p0
  have hpn := h.pn
  obtain ⟨C, hC⟩ := cAt s
  have HPL := Lib.hid fun u => (by rw [← hC.val]; exact player_any u s hok p : Calls Try.prog 26 #[.agg C, .int .i64 p] u fun e w' => e = .returned (.int .i64 (plOf s p)) ∧ Fr [] u w')
  have HBO := Lib.hid fun u => (by rw [← hC.val]; exact body_any u s hok b : Calls Try.prog 27 #[.agg C, .int .i64 b] u fun e w' => e = .returned (.int .i64 (bdOf s b)) ∧ Fr [] u w')
  have HRO := Lib.hid fun u (hu : Fr [] w u) x y => (by rw [← hC.val]; exact room_any u s rooms doors (h.map.old hu) x y : Calls Try.prog 58 #[.agg C, .agg #[.int .i64 x, .int .i64 y]] u fun e w' => e = .returned (.int .i64 (roomOf rooms x y)) ∧ Fr [] u w')
  have HVI := Lib.hid fun u (hu : Fr [] w u) r => (by rw [← hC.val]; exact vis_any u s rooms doors (h.map.old hu) h.few r : Calls Try.prog 59 #[.agg C, .int .i64 r] u (VisAny rooms doors r u))
  have hu := Try.underlying49
  have huv := Try.underlying47
  have hCl : (Try.prog.info? 49).map (·.size) = some C.toList.length := by rw [Array.length_toList, hC.size]; exact infoSetup
  have hVl : (Try.prog.info? 47).map (·.size) = some 2 := by kernel_rfl
  have HCS := Lib.hid hC.size
  have HC8 := Lib.hid hC.c8
  have HPRE := Lib.hid h
  obtain ⟨bx, hbx⟩ : ∃ bx, bx = w.heap.size := ⟨_, rfl⟩
  obtain ⟨wb, hwb⟩ : ∃ wb, wb = w.alloc (.cells C 49) := ⟨_, rfl⟩
  have HB := Lib.hid (by rw [hwb, hbx]; exact alloc_new w _ : wb.heap[bx]? = some (.cells C 49 (0, 0)))
  have HWB := Lib.hid (by rw [hwb]; exact (Fr.refl [] w).alloc _ : Fr [] w wb)
  have HBX := Lib.hid hbx
  have HWE := Lib.hid hwb
  clear hbx hwb h
  by_cases hpv : p < 0 ∨ s.players ≤ p
  · have HR := Lib.hid (by unfold seesB; rw [if_pos (by omega)] : seesB s rooms doors cells p b = false)
    have HPL1 := Lib.hid fun u => (by have := HPL.out u; rw [show plOf s p = -1 by unfold plOf; rw [if_pos hpv]] at this; exact this : Calls Try.prog 26 #[.agg C, .int .i64 p] u fun e w' => e = .returned (.int .i64 (-1)) ∧ Fr [] u w')
    rw [hC.val]
    clear hpv HPL hu huv hCl hVl hC hok hp0 hpn
    go_enter Try.func48, Try.ntmps48
    go_upto_region 1 with (fail)
    rw [← HBX.out, ← HWE.out]
    go_wp2_with (first | (refine wpList_loadB rfl 49 (Operand.tmp 4) rfl bx 16 rfl C 49 (0, 0) HB.out _ Try.underlying49 rfl HCS.out infoSetup ?_) | (go_at_call 26; refine (HPL1.out _).mono ?_; rintro e w1 ⟨rfl, hf1⟩; have HF1 := Lib.hid hf1; clear hf1))
    go_ret
    exact ⟨ret_bool HR.out.symm, HWB.out.trans HF1.out (by simp [Ext])⟩
  · obtain ⟨PB, hPB⟩ : ∃ PB, PB = plOf s p := ⟨_, rfl⟩
    have hPB0 : 0 ≤ PB := by rw [hPB]; unfold plOf; rw [if_neg hpv]; omega
    have hPBd : decide (PB < 0) = false := decide_eq_false (by omega)
    have HPL1 := Lib.hid fun u => (by have := HPL.out u; rw [← hPB] at this; exact this : Calls Try.prog 26 #[.agg C, .int .i64 p] u fun e w' => e = .returned (.int .i64 PB) ∧ Fr [] u w')
    clear HPL hPB
    by_cases hbv : b < 0 ∨ (s.nb : Int) ≤ b
    · have HR := Lib.hid (by unfold seesB; rw [if_pos (by omega)] : seesB s rooms doors cells p b = false)
      have HBO1 := Lib.hid fun u => (by have := HBO.out u; rw [show bdOf s b = -1 by unfold bdOf; rw [if_pos hbv]] at this; exact this : Calls Try.prog 27 #[.agg C, .int .i64 b] u fun e w' => e = .returned (.int .i64 (-1)) ∧ Fr [] u w')
      rw [hC.val]
      clear hpv hbv HBO hu huv hCl hVl hC hok hp0 hpn
      go_enter Try.func48, Try.ntmps48
      go_upto_region 1 with (fail)
      rw [← HBX.out, ← HWE.out]
      go_wp2_with (first | (refine wpList_loadB rfl 49 (Operand.tmp 4) rfl bx 16 rfl C 49 (0, 0) HB.out _ Try.underlying49 rfl HCS.out infoSetup ?_) | (refine wpList_loadG (by rfl) 49 (Operand.tmp 4) rfl bx 16 rfl C 49 (0, 0) HB1.out _ Try.underlying49 rfl HCS.out infoSetup ?_) | (go_at_call 26; refine (HPL1.out _).mono ?_; rintro e w1 ⟨rfl, hf1⟩; have HF1 := Lib.hid hf1; have HB1 := Lib.hid (hf1.blk HB.out (by simp)); clear hf1) | (go_at_call 27; refine (HBO1.out _).mono ?_; rintro e w2 ⟨rfl, hf2⟩; have HF2 := Lib.hid hf2; clear hf2))
      go_ret
      exact ⟨ret_bool HR.out.symm, (HWB.out.trans HF1.out (by simp [Ext])).trans HF2.out (by simp [Ext])⟩
    · have hbv' : 0 ≤ b ∧ b < (s.nb : Int) := by omega
      have hpv' : 0 ≤ p ∧ p < (s.nb : Int) := by omega
      obtain ⟨BV, hBV⟩ : ∃ BV, BV = bdOf s b := ⟨_, rfl⟩
      have hBV0 : 0 ≤ BV := by rw [hBV]; unfold bdOf; rw [if_neg hbv]; omega
      have hBVd : decide (BV < 0) = false := decide_eq_false (by omega)
      have HBO1 := Lib.hid fun u => (by have := HBO.out u; rw [← hBV] at this; exact this : Calls Try.prog 27 #[.agg C, .int .i64 b] u fun e w' => e = .returned (.int .i64 BV) ∧ Fr [] u w')
      have HNV := Lib.hid (by omega : ¬ (p < 0 ∨ s.players ≤ p ∨ b < 0 ∨ (s.nb : Int) ≤ b))
      obtain ⟨pvx, pvy, pim, hmp⟩ := HPRE.out.motion p hpv'.1 hpv'.2
      obtain ⟨qvx, qvy, qim, hmq⟩ := HPRE.out.motion b hbv'.1 hbv'.2
      obtain ⟨hcp1, hcp2⟩ := HPRE.out.pos p hpv'.1 hpv'.2
      obtain ⟨hcq1, hcq2⟩ := HPRE.out.pos b hbv'.1 hbv'.2
      have hf0 := HPRE.out.f0
      have h8 := HPRE.out.few.1
      obtain ⟨px, hpx⟩ : ∃ px, px = posX s cells p := ⟨_, rfl⟩
      obtain ⟨py, hpy⟩ : ∃ py, py = posY s cells p := ⟨_, rfl⟩
      obtain ⟨qx, hqx⟩ : ∃ qx, qx = posX s cells b := ⟨_, rfl⟩
      obtain ⟨qy, hqy⟩ : ∃ qy, qy = posY s cells b := ⟨_, rfl⟩
      have HFAR := Lib.hid (fun (hne : ¬ b = p) => (by unfold seesB; rw [if_neg HNV.out, if_neg hne, hpx, hpy, hqx, hqy] : seesB s rooms doors cells p b = farB s rooms doors px py qx qy))
      rw [← hpx, ← hpy] at hmp
      rw [← hqx, ← hqy] at hmq
      rw [← hpx] at hcp1
      rw [← hpy] at hcp2
      rw [← hqx] at hcq1
      rw [← hqy] at hcq2
      simp only [hC.val] at hmp hmq
      have HMP := Lib.hid hmp
      have HMQ := Lib.hid hmq
      have HC1 := Lib.hid hcp1
      have HC2 := Lib.hid hcp2
      have HC3 := Lib.hid hcq1
      have HC4 := Lib.hid hcq2
      rw [hC.val]
      clear hpv hbv HBO hBV hC hok hp0 hpn hbv' hpv' hmp hmq hcp1 hcp2 hcq1 hcq2 hpx hpy hqx hqy
      by_cases hbp : b = p
      · have HEQ := Lib.hid hbp
        have hbe : (b == p) = true := beq_iff_eq.2 hbp
        clear hbp hu huv hCl hVl
        go_enter Try.func48, Try.ntmps48
        go_upto_region 1 with (fail)
        rw [← HBX.out, ← HWE.out]
        go_wp2_with (first | (refine wpList_loadB rfl 49 (Operand.tmp 4) rfl bx 16 rfl C 49 (0, 0) HB.out _ Try.underlying49 rfl HCS.out infoSetup ?_) | (refine wpList_loadG (by rfl) 49 (Operand.tmp 4) rfl bx 16 rfl C 49 (0, 0) HB1.out _ Try.underlying49 rfl HCS.out infoSetup ?_) | (go_at_call 26; refine (HPL1.out _).mono ?_; rintro e w1 ⟨rfl, hf1⟩; have HF1 := Lib.hid hf1; have HB1 := Lib.hid (hf1.blk HB.out (by simp)); clear hf1) | (go_at_call 27; refine (HBO1.out _).mono ?_; rintro e w2 ⟨rfl, hf2⟩; have HF2 := Lib.hid hf2; clear hf2))
        go_ret
        exact ⟨ret_bool (by unfold seesB; rw [if_neg HNV.out, if_pos HEQ.out]), (HWB.out.trans HF1.out (by simp [Ext])).trans HF2.out (by simp [Ext])⟩
      · have HR := Lib.hid (HFAR.out hbp)
        have hbe : (b == p) = false := beq_eq_false_iff_ne.2 hbp
        have HUV := Lib.hid huv
        have HVL := Lib.hid hVl
        have HU := Lib.hid hu
        have HCL := Lib.hid hCl
        clear hbp hu huv hCl hVl HFAR
        have hfp : ∀ u, (Instr.field 90 (.agg #[.int .i64 px, .int .i64 py, .int .i64 pvx, .int .i64 pvy, .int .i64 pim]) 0).run Try.prog u = .ok (.agg #[.int .i64 px, .int .i64 py]) u := fun _ => by kernel_rfl
        have hfq : ∀ u, (Instr.field 90 (.agg #[.int .i64 qx, .int .i64 qy, .int .i64 qvx, .int .i64 qvy, .int .i64 qim]) 0).run Try.prog u = .ok (.agg #[.int .i64 qx, .int .i64 qy]) u := fun _ => by kernel_rfl
        go_enter Try.func48, Try.ntmps48
        go_upto_region 1 with (fail)
        rw [← HBX.out, ← HWE.out]
        go_upto_region 5 with (first | (refine wpList_loadB rfl 49 (Operand.tmp 4) rfl bx 16 rfl C 49 (0, 0) HB.out _ Try.underlying49 rfl HCS.out infoSetup ?_) | (refine wpList_loadG (by rfl) 49 (Operand.tmp 4) rfl bx 16 rfl C 49 (0, 0) HB1.out _ Try.underlying49 rfl HCS.out infoSetup ?_) | (go_at_call 26; refine (HPL1.out _).mono ?_; rintro e w1 ⟨rfl, hf1⟩; have HF1 := Lib.hid hf1; have HB1 := Lib.hid (hf1.blk HB.out (by simp)); clear hf1) | (go_at_call 27; refine (HBO1.out _).mono ?_; rintro e w2 ⟨rfl, hf2⟩; have HW2 := Lib.hid ((HWB.out.trans HF1.out (by simp [Ext])).trans hf2 (by simp [Ext])); have HB2 := Lib.hid (hf2.blk HB1.out (by simp)); clear hf2))
        go_upto_region 6 with (first | (refine wpList_loadB rfl 49 (Operand.tmp 4) rfl bx 16 rfl C 49 (0, 0) HB2.out _ Try.underlying49 rfl HCS.out infoSetup ?_) | (go_at_call 57; refine (HMP.out w2 HW2.out).mono ?_; rintro e w3 ⟨rfl, hf3⟩; have HF3 := Lib.hid hf3; have HB3 := Lib.hid (hf3.blk HB2.out (by simp)); clear hf3))
        obtain ⟨W3, hW3⟩ : ∃ W3, W3 = w3.alloc (.cells #[.int .i64 px, .int .i64 py] 47) := ⟨_, rfl⟩
        obtain ⟨b9, hb9⟩ : ∃ b9, b9 = w3.heap.size := ⟨_, rfl⟩
        have HW3 := Lib.hid (by rw [hW3]; exact (HW2.out.trans HF3.out (by simp [Ext])).alloc _ : Fr [] w W3)
        have HBW3 := Lib.hid (by rw [hW3]; exact alloc_old HB3.out : W3.heap[bx]? = some (.cells C 49 (0, 0)))
        have H9 := Lib.hid (by rw [hW3, hb9]; exact alloc_new w3 _ : W3.heap[b9]? = some (.cells #[.int .i64 px, .int .i64 py] 47 (0, 0)))
        rw [← hW3, ← hb9]
        clear hW3 hb9
        go_upto_region 7 with (first | (refine wpList_loadB rfl 49 (Operand.tmp 4) rfl bx 16 rfl C 49 (0, 0) HBW3.out _ Try.underlying49 rfl HCS.out infoSetup ?_) | (go_at_call 57; refine (HMQ.out W3 HW3.out).mono ?_; rintro e w4 ⟨rfl, hf4⟩; have HF4 := Lib.hid hf4; have HB4 := Lib.hid (hf4.blk HBW3.out (by simp)); have H94 := Lib.hid (hf4.blk H9.out (by simp)); clear hf4))
        obtain ⟨W4, hW4⟩ : ∃ W4, W4 = w4.alloc (.cells #[.int .i64 qx, .int .i64 qy] 47) := ⟨_, rfl⟩
        obtain ⟨b10, hb10⟩ : ∃ b10, b10 = w4.heap.size := ⟨_, rfl⟩
        have HW4 := Lib.hid (by rw [hW4]; exact (HW3.out.trans HF4.out (by simp [Ext])).alloc _ : Fr [] w W4)
        have HBW4 := Lib.hid (by rw [hW4]; exact alloc_old HB4.out : W4.heap[bx]? = some (.cells C 49 (0, 0)))
        have H9W := Lib.hid (by rw [hW4]; exact alloc_old H94.out : W4.heap[b9]? = some (.cells #[.int .i64 px, .int .i64 py] 47 (0, 0)))
        have H10 := Lib.hid (by rw [hW4, hb10]; exact alloc_new w4 _ : W4.heap[b10]? = some (.cells #[.int .i64 qx, .int .i64 qy] 47 (0, 0)))
        rw [← hW4, ← hb10]
        clear hW4 hb10
        have q0 := cell_blk H10.out 0
        have q1 := cell_blk H10.out 1
        obtain ⟨rb, hrb⟩ : ∃ rb, rb = roomOf rooms qx qy := ⟨_, rfl⟩
        have HRB := Lib.hid hrb
        have hrbl := (roomOf_lt rooms qx qy).2
        rw [← hrb] at hrbl
        clear hrb
        go_upto_region 8 with (first | (refine wpList_loadB rfl 49 (Operand.tmp 4) rfl bx 16 rfl C 49 (0, 0) HBW4.out _ Try.underlying49 rfl HCS.out infoSetup ?_) | (go_at_call 58; refine (HRO.out W4 HW4.out qx qy).mono ?_; rintro e w5 ⟨rfl, hf5⟩; rw [← HRB.out]; have HF5 := Lib.hid hf5; clear hf5))
        have KEEP := Lib.hid (fun (u : World) (hu : Fr [] W4 u) => (⟨hu.blk HBW4.out (by simp), cell_blk (hu.blk H9W.out (by simp)) 0, cell_blk (hu.blk H9W.out (by simp)) 1, hu⟩ : (fun w' : World => w'.heap[bx]? = some (.cells C 49 (0, 0)) ∧ w'.cell? ⟨b9, 0, none⟩ = some (.int .i64 px) ∧ w'.cell? ⟨b9, 1, none⟩ = some (.int .i64 py) ∧ Fr [] W4 w') u))
        clear q0 q1
        have hu := HU.out
        have hCl := HCL.out
        by_cases hneg : rb < 0
        · have HNO := Lib.hid (by unfold farB roomsSee; rw [← HRB.out, decide_eq_false (by omega : ¬ 0 ≤ rb)]; simp : farB s rooms doors px py qx qy = false)
          have hnd : decide (rb < 0) = true := decide_eq_true hneg
          refine wp_region_held_drew (S := fun w' : World => w'.heap[bx]? = some (.cells C 49 (0, 0)) ∧ w'.cell? ⟨b9, 0, none⟩ = some (.int .i64 px) ∧ w'.cell? ⟨b9, 1, none⟩ = some (.int .i64 py) ∧ Fr [] W4 w') (by kernel_rfl) (KEEP.out _ (HF5.out.drew)) (fun hHeld => ?_)
          refine wpAnyH_takeL (i := 0) (v := _) rfl (by kernel_rfl) (by kernel_rfl) (by kernel_rfl) (fun _ _ _ h => h) (Or.inl ⟨by rfl, (by intro w' hSw; (try dsimp only at hSw); obtain ⟨-, g1, g2, -⟩ := hSw; go_simp; try with_reducible rfl)⟩) (by assumption) ?_
          try simp only [Act.put, List.setIfInBounds_toArray, List.set_cons_zero, List.set_cons_succ]
          refine wpAnyH_takeL (i := 1) (v := _) rfl (by kernel_rfl) (by kernel_rfl) (by kernel_rfl) (fun _ _ _ h => h) (Or.inl ⟨by rfl, (by intro w' hSw; (try dsimp only at hSw); obtain ⟨-, g1, g2, -⟩ := hSw; go_simp; try with_reducible rfl)⟩) (by assumption) ?_
          try simp only [Act.put, List.setIfInBounds_toArray, List.set_cons_zero, List.set_cons_succ]
          refine wpAnyH_takeL (i := 2) (v := _) rfl (by kernel_rfl) (by kernel_rfl) (by kernel_rfl) (fun _ _ _ h => h) (Or.inl ⟨by rfl, (by intro w' hSw; (try dsimp only at hSw); obtain ⟨-, g1, g2, -⟩ := hSw; go_simp; try with_reducible rfl)⟩) (by assumption) ?_
          try simp only [Act.put, List.setIfInBounds_toArray, List.set_cons_zero, List.set_cons_succ]
          refine wpAnyH_takeL (i := 3) (v := undef) rfl (by kernel_rfl) (by kernel_rfl) (by kernel_rfl) (fun _ _ _ h => h) (Or.inr ⟨by rfl, rfl⟩) (by assumption) ?_
          try simp only [Act.put, List.setIfInBounds_toArray, List.set_cons_zero, List.set_cons_succ]
          refine wpAnyH_takeL (i := 4) (v := undef) rfl (by kernel_rfl) (by kernel_rfl) (by kernel_rfl) (fun _ _ _ h => h) (Or.inr ⟨by rfl, rfl⟩) (by assumption) ?_
          try simp only [Act.put, List.setIfInBounds_toArray, List.set_cons_zero, List.set_cons_succ]
          refine wpAnyH_takeL (i := 5) (v := undef) rfl (by kernel_rfl) (by kernel_rfl) (by kernel_rfl) (fun _ _ _ h => h) (Or.inr ⟨by rfl, rfl⟩) (by assumption) ?_
          try simp only [Act.put, List.setIfInBounds_toArray, List.set_cons_zero, List.set_cons_succ]
          refine wpAnyH_takeL (i := 6) (v := undef) rfl (by kernel_rfl) (by kernel_rfl) (by kernel_rfl) (fun _ _ _ h => h) (Or.inr ⟨by rfl, rfl⟩) (by assumption) ?_
          try simp only [Act.put, List.setIfInBounds_toArray, List.set_cons_zero, List.set_cons_succ]
          refine wpAnyH_takeL (i := 7) (v := undef) rfl (by kernel_rfl) (by kernel_rfl) (by kernel_rfl) (fun _ _ _ h => h) (Or.inr ⟨by rfl, rfl⟩) (by assumption) ?_
          try simp only [Act.put, List.setIfInBounds_toArray, List.set_cons_zero, List.set_cons_succ]
          refine wpAnyH_takeL (i := 8) (v := undef) rfl (by kernel_rfl) (by kernel_rfl) (by kernel_rfl) (fun _ _ _ h => h) (Or.inr ⟨by rfl, rfl⟩) (by assumption) ?_
          try simp only [Act.put, List.setIfInBounds_toArray, List.set_cons_zero, List.set_cons_succ]
          refine wpAnyH_takeL (i := 9) (v := undef) rfl (by kernel_rfl) (by kernel_rfl) (by kernel_rfl) (fun _ _ _ h => h) (Or.inr ⟨by rfl, rfl⟩) (by assumption) ?_
          try simp only [Act.put, List.setIfInBounds_toArray, List.set_cons_zero, List.set_cons_succ]
          refine wpAnyH_takeL (i := 10) (v := undef) rfl (by kernel_rfl) (by kernel_rfl) (by kernel_rfl) (fun _ _ _ h => h) (Or.inr ⟨by rfl, rfl⟩) (by assumption) ?_
          try simp only [Act.put, List.setIfInBounds_toArray, List.set_cons_zero, List.set_cons_succ]
          refine wpAnyH_takeL (i := 11) (v := undef) rfl (by kernel_rfl) (by kernel_rfl) (by kernel_rfl) (fun _ _ _ h => h) (Or.inr ⟨by rfl, rfl⟩) (by assumption) ?_
          try simp only [Act.put, List.setIfInBounds_toArray, List.set_cons_zero, List.set_cons_succ]
          refine wpAnyH_takeL (i := 12) (v := _) rfl (by kernel_rfl) (by kernel_rfl) (by kernel_rfl) (fun _ _ _ h => h) (Or.inl ⟨by rfl, (by intro w' hSw; (try dsimp only at hSw); obtain ⟨-, g1, g2, -⟩ := hSw; go_simp; try with_reducible rfl)⟩) (by assumption) ?_
          try simp only [Act.put, List.setIfInBounds_toArray, List.set_cons_zero, List.set_cons_succ]
          refine wpAnyH_done (by kernel_rfl) ?_ _
          go_wp2_with fail
          go_ret
          exact ⟨ret_bool (by rw [HR.out, HNO.out]), (HW4.out.trans HF5.out (by simp [Ext])).drew⟩
        have hrb0 : 0 ≤ rb := by omega
        have hrb8 : rb < 8 := by omega
        have hrbb := bitN_lt hrb8
        have hnd : decide (rb < 0) = false := decide_eq_false hneg
        clear hneg
        refine wp_region_held_drew (S := fun w' : World => w'.heap[bx]? = some (.cells C 49 (0, 0)) ∧ w'.cell? ⟨b9, 0, none⟩ = some (.int .i64 px) ∧ w'.cell? ⟨b9, 1, none⟩ = some (.int .i64 py) ∧ Fr [] W4 w') (by kernel_rfl) (KEEP.out _ (HF5.out.drew)) (fun hHeld => ?_)
        refine wpAnyH_takeL (i := 0) (v := _) rfl (by kernel_rfl) (by kernel_rfl) (by kernel_rfl) (fun _ _ _ h => h) (Or.inl ⟨by rfl, (by intro w' hSw; (try dsimp only at hSw); obtain ⟨-, g1, g2, -⟩ := hSw; go_simp; try with_reducible rfl)⟩) (by assumption) ?_
        try simp only [Act.put, List.setIfInBounds_toArray, List.set_cons_zero, List.set_cons_succ]
        refine wpAnyH_takeL (i := 1) (v := _) rfl (by kernel_rfl) (by kernel_rfl) (by kernel_rfl) (fun _ _ _ h => h) (Or.inl ⟨by rfl, (by intro w' hSw; (try dsimp only at hSw); obtain ⟨-, g1, g2, -⟩ := hSw; go_simp; try with_reducible rfl)⟩) (by assumption) ?_
        try simp only [Act.put, List.setIfInBounds_toArray, List.set_cons_zero, List.set_cons_succ]
        refine wpAnyH_takeL (i := 2) (v := _) rfl (by kernel_rfl) (by kernel_rfl) (by kernel_rfl) (fun _ _ _ h => h) (Or.inl ⟨by rfl, (by intro w' hSw; (try dsimp only at hSw); obtain ⟨-, g1, g2, -⟩ := hSw; go_simp; try with_reducible rfl)⟩) (by assumption) ?_
        try simp only [Act.put, List.setIfInBounds_toArray, List.set_cons_zero, List.set_cons_succ]
        refine wpAnyH_takeL (i := 3) (v := (.agg C)) rfl (by kernel_rfl) (by kernel_rfl) (by kernel_rfl) (fun _ _ _ h => h) (yieldsIf_load_mid (by rfl) 49 (Operand.tmp 4) rfl bx 0 rfl C.toList _ (fun w' hw' => range_blk (c := C) hw'.1) hu rfl hCl) (by assumption) ?_
        try simp only [Act.put, List.setIfInBounds_toArray, List.set_cons_zero, List.set_cons_succ]
        refine wpAnyH_takeL (i := 4) (v := (.agg C)) rfl (by kernel_rfl) (by kernel_rfl) (by kernel_rfl) (fun _ _ _ h => h) (yieldsIf_load_mid (by rfl) 49 (Operand.tmp 4) rfl bx 0 rfl C.toList _ (fun w' hw' => range_blk (c := C) hw'.1) hu rfl hCl) (by assumption) ?_
        try simp only [Act.put, List.setIfInBounds_toArray, List.set_cons_zero, List.set_cons_succ]
        refine wpAnyH_takeL (i := 5) (v := _) rfl (by kernel_rfl) (by kernel_rfl) (by kernel_rfl) (fun _ _ _ h => h) (Or.inl ⟨by rfl, (by intro w' hSw; (try dsimp only at hSw); obtain ⟨-, g1, g2, -⟩ := hSw; go_simp; try with_reducible rfl)⟩) (by assumption) ?_
        try simp only [Act.put, List.setIfInBounds_toArray, List.set_cons_zero, List.set_cons_succ]
        refine wpAnyH_takeL (i := 8) (v := _) rfl (by kernel_rfl) (by kernel_rfl) (by kernel_rfl) (fun _ _ _ h => h) (Or.inl ⟨by rfl, (by intro w' hSw; (try dsimp only at hSw); obtain ⟨-, g1, g2, -⟩ := hSw; go_simp; try with_reducible rfl)⟩) (by assumption) ?_
        try simp only [Act.put, List.setIfInBounds_toArray, List.set_cons_zero, List.set_cons_succ]
        refine wpAnyH_ready (rs := [6]) (by kernel_rfl) (by simp) ?_
        refine AllReadyH.consL (i := 6) rfl (fun K hK => ?_) AllReadyH.nil
        go_simp
        (refine (HRO.out _ (HW4.out.trans HF5.out (by simp [Ext])).drew px py).mono ?_; rintro e wA ⟨rfl, hA⟩; have HA := Lib.hid (by exact HF5.out.drew.trans hA (by simp [Ext]) : Fr [] W4 wA); clear hA)
        refine hK.out _ _ (KEEP.out _ HA.out) (fun hHeld => ?_)
        clear hK K
        try simp only [Act.put, List.setIfInBounds_toArray, List.set_cons_zero, List.set_cons_succ]
        refine wpAnyH_ready (rs := [7]) (by kernel_rfl) (by simp) ?_
        refine AllReadyH.consL (i := 7) rfl (fun K hK => ?_) AllReadyH.nil
        go_simp
        (refine (HVI.out _ (HW4.out.trans HA.out (by simp [Ext])) _).mono ?_; rintro e wB ⟨V, rfl, hV, hB⟩; have HFB := Lib.hid (by exact HA.out.trans hB (by simp [Ext]) : Fr [] W4 wB); have hV8 := hV.1; have HVO := Lib.hid hV; clear hV hB; obtain ⟨X, hX⟩ : ∃ X, X = V &&& bitN rb := ⟨_, rfl⟩; have ha : bits .and .u64 (V : Int) ((bitN rb : Nat) : Int) = (X : Int) := (by rw [hX]; exact bits_and_u64 V _ hV8 hrbb); have HX := Lib.hid hX; clear hX)
        refine hK.out _ _ (KEEP.out _ HFB.out) (fun hHeld => ?_)
        clear hK K
        try simp only [Act.put, List.setIfInBounds_toArray, List.set_cons_zero, List.set_cons_succ]
        refine wpAnyH_ready (rs := [9]) (by kernel_rfl) (by simp) ?_
        refine AllReadyH.consL (i := 9) rfl (fun K hK => ?_) AllReadyH.nil
        go_simp
        (refine (bit_any _ _ hrb0 hrb8).mono ?_; rintro e wC ⟨rfl, rfl⟩)
        refine hK.out _ _ (KEEP.out _ HFB.out) (fun hHeld => ?_)
        clear hK K
        try simp only [Act.put, List.setIfInBounds_toArray, List.set_cons_zero, List.set_cons_succ]
        refine wpAnyH_takeL (i := 10) (v := _) rfl (by kernel_rfl) (by kernel_rfl) (by kernel_rfl) (fun _ _ _ h => h) (Or.inl ⟨by rfl, (by intro w' hSw; (try dsimp only at hSw); obtain ⟨-, g1, g2, -⟩ := hSw; go_simp; try with_reducible rfl)⟩) (by assumption) ?_
        try simp only [Act.put, List.setIfInBounds_toArray, List.set_cons_zero, List.set_cons_succ]
        refine wpAnyH_takeL (i := 11) (v := _) rfl (by kernel_rfl) (by kernel_rfl) (by kernel_rfl) (fun _ _ _ h => h) (Or.inl ⟨by rfl, (by intro w' hSw; (try dsimp only at hSw); obtain ⟨-, g1, g2, -⟩ := hSw; go_simp; try with_reducible rfl)⟩) (by assumption) ?_
        try simp only [Act.put, List.setIfInBounds_toArray, List.set_cons_zero, List.set_cons_succ]
        refine wpAnyH_takeL (i := 12) (v := _) rfl (by kernel_rfl) (by kernel_rfl) (by kernel_rfl) (fun _ _ _ h => h) (Or.inl ⟨by rfl, (by intro w' hSw; (try dsimp only at hSw); obtain ⟨-, g1, g2, -⟩ := hSw; go_simp; try with_reducible rfl)⟩) (by assumption) ?_
        try simp only [Act.put, List.setIfInBounds_toArray, List.set_cons_zero, List.set_cons_succ]
        refine wpAnyH_done (by kernel_rfl) ?_ _
        have HSEE := Lib.hid (by
          have h1 := HVO.out.2 rb.toNat (by omega)
          have h2 := (roomOf_lt rooms px py).2
          rw [Int.toNat_of_nonneg hrb0] at h1
          unfold roomsSee
          rw [h1, decide_eq_true hrb0, Bool.and_true]
          congr 1
          rw [decide_eq_decide]; constructor
          · intro h3; exact ⟨h3, h2⟩
          · intro h3; exact h3.1 : roomsSee rooms doors (roomOf rooms px py) rb = V.testBit rb.toNat)
        have HXV := Lib.hid (by have := and_bitN V hrb0; rw [← HX.out] at this; exact this : X = 0 ↔ V.testBit rb.toNat = false)
        have hWB := (HW4.out.trans HFB.out (by simp [Ext]))
        have HWBW := Lib.hid hWB
        clear hWB
        by_cases hX0 : X = 0
        · have HNO := Lib.hid (by unfold farB; rw [← HRB.out, HSEE.out, HXV.out.1 hX0]; rfl : farB s rooms doors px py qx qy = false)
          have hXd : ((X : Int) == 0) = true := by rw [hX0]; rfl
          have hXi : (X : Int) = 0 := by omega
          clear ha hX0
          go_wp2_with fail
          go_ret
          exact ⟨ret_bool (by rw [HR.out, HNO.out]), HWBW.out⟩
        · have HYES := Lib.hid (by
            have h1 : V.testBit rb.toNat = true := by cases e : V.testBit rb.toNat with | false => exact absurd (HXV.out.2 e) hX0 | true => rfl
            unfold farB; rw [← HRB.out, HSEE.out, h1, Bool.true_and] : farB s rooms doors px py qx qy = decide ((qx - px) * (qx - px) + (qy - py) * (qy - py) < (s.fog + 1) * (s.fog + 1)))
          have hXi : ¬ (X : Int) = 0 := by omega
          have hXd : ((X : Int) == 0) = false := beq_eq_false_iff_ne.2 hXi
          have HDX := Lib.hid (dd_bound HC3.out HC1.out)
          have HDY := Lib.hid (dd_bound HC4.out HC2.out)
          have HSU := Lib.hid fun u => sub_any u qx qy px py HC3.out HC4.out HC1.out HC2.out
          have HLE := Lib.hid fun u => vlen_any u (qx - px) (qy - py) HDX.out HDY.out
          have K10 := Lib.hid (fun (u : World) (hu : Fr [] wB u) => (⟨cell_blk ((HFB.out.trans hu (by simp [Ext])).blk H10.out (by simp)) 0, cell_blk ((HFB.out.trans hu (by simp [Ext])).blk H10.out (by simp)) 1, cell_blk ((HFB.out.trans hu (by simp [Ext])).blk H9W.out (by simp)) 0, cell_blk ((HFB.out.trans hu (by simp [Ext])).blk H9W.out (by simp)) 1, (cell_blk ((HFB.out.trans hu (by simp [Ext])).blk HBW4.out (by simp)) 8).trans HC8.out⟩ :
            u.cell? ⟨b10, 0, none⟩ = some (.int .i64 qx) ∧ u.cell? ⟨b10, 1, none⟩ = some (.int .i64 qy) ∧ u.cell? ⟨b9, 0, none⟩ = some (.int .i64 px) ∧ u.cell? ⟨b9, 1, none⟩ = some (.int .i64 py) ∧ u.cell? ⟨bx, 8, none⟩ = some (.int .i64 s.fog)))
          clear ha hX0
          go_upto_region 10 with fail
          go_region_held3 (fun u => u.cell? ⟨b10, 0, none⟩ = some (.int .i64 qx) ∧ u.cell? ⟨b10, 1, none⟩ = some (.int .i64 qy) ∧ u.cell? ⟨b9, 0, none⟩ = some (.int .i64 px) ∧ u.cell? ⟨b9, 1, none⟩ = some (.int .i64 py) ∧ u.cell? ⟨bx, 8, none⟩ = some (.int .i64 s.fog)) (first | exact K10.out _ ((Fr.refl _ _).drew) | exact K10.out _ HG1.out | exact K10.out _ HG2.out) (first | (go_at_call 62; refine (HSU.out _).mono ?_; rintro e w6 ⟨rfl, hg1⟩; have HG1 := Lib.hid (by exact ((Fr.refl [] wB).drew).trans hg1 (by simp [Ext]) : Fr [] wB w6); clear hg1) | (go_at_call 61; refine (HLE.out _).mono ?_; rintro e w7 ⟨r, rfl, hr, hrs, hg2⟩; have HG2 := Lib.hid (by exact HG1.out.trans hg2 (by simp [Ext]) : Fr [] wB w7); have HRT := Lib.hid hr; clear hr hg2))
          go_wp2_with fail
          go_ret
          have hnn : 0 ≤ (qx - px) * (qx - px) + (qy - py) * (qy - py) := by have := mul_self_nn (qx - px); have := mul_self_nn (qy - py); omega
          exact ⟨ret_bool (by rw [HR.out, HYES.out]; exact root_fog HRT.out hf0 (Int.toNat_of_nonneg hnn).symm), HWBW.out.trans HG2.out (by simp [Ext])⟩
end
end Go.Proofs.Ytcgndeggemceaaa
