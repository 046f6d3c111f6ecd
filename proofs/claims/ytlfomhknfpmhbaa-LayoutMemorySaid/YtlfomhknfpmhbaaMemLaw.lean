/- LayoutMemory returns true. -/
import Derived.Deep.CutBlock
import Derived.Deep.DeepCutAuto
import Derived.Test.YtlfomhknfpmhbaaMotLaw
import Derived.Test.YtlfomhknfpmhbaaNewM
namespace Go.Proofs.Ytlfomhknfpmhbaa
open Go.RowKit

/-- the memory, the setup's block, and the new blocks G -/
def MSt (w1 : World) (p : Nat) (s : MemS) (b9 : Nat) (SC : List Value) (G : List Nat) (wc : World) : Prop :=
  OwnG (memX p s 2) w1 (b9 :: G) wc ∧ wc.heap[b9]? = some (.cells SC.toArray 31 (0, 0))

section
variable {w1 w w' : World} {p : Nat} {s s' : MemS} {b9 : Nat} {SC : List Value} {G : List Nat}
theorem MSt.f1 (h : MSt w1 p s b9 SC G w) : Fr [] w1 w := h.1.frame
theorem MSt.fr (h : MSt w1 p s b9 SC G w) (hf : Fr [] w w') : MSt w1 p s b9 SC G w' := ⟨(h.1.fr (memX_frm _ _ _) hf).1, hf.blk h.2 (by simp)⟩
theorem MSt.weak (h : MSt w1 p s b9 SC G w) : MSt w1 p s b9 SC [] w := ⟨h.1.sub (fun k hk => by simp at hk; simp [hk]), h.2⟩
theorem MSt.alloc (h : MSt w1 p s b9 SC G w) (o : Obj) : MSt w1 p s b9 SC (w.heap.size :: G) (w.alloc o) :=
  ⟨(h.1.allocN o).sub (fun k hk => by simp at hk ⊢; rcases hk with rfl | rfl | h <;> simp [*]), alloc_old h.2⟩
theorem MSt.store (h : MSt w1 p s b9 SC G w) {b : Nat} (hb : b ∈ G) (hne : b9 ≠ b) (hf : Fr [b] w w') : MSt w1 p s b9 SC G w' :=
  ⟨h.1.own (memX_frm _ _ _) hf (by simpa using .inr hb) (fun k hk => ⟨.inl hk, Nat.lt_of_lt_of_le (h.1.gnew k hk).2 hf.size⟩), hf.blk h.2 (by simpa using hne)⟩
theorem MSt.kept (h : MSt w1 p s b9 SC G w) (hk : Kept (b9 :: G) w w') : w'.heap[b9]? = some (.cells SC.toArray 31 (0, 0)) := (hk b9 (by simp)).trans h.2
theorem ms_cells (h : MSt w1 p s b9 SC G w) {l : List Int} {n : Nat} (hl : s.cells = l) (hn : l.length = n) :
    Calls Try.prog 35 #[.pointer (some ⟨p, 0, none⟩)] w fun e w' => ∃ b, e = .returned (.slice (some ⟨b, 0, none⟩) n n) ∧ w'.heap[b]? = some (row l) ∧ MSt w1 p s b9 SC G w' ∧ Kept G w w' := by
  subst hn
  refine (m_cells h.1 hl).mono ?_
  rintro e w' ⟨b, h1, h2, h3, h4, h5⟩
  exact ⟨b, h1, h2, ⟨h3.sub (fun k hk => by simp [hk]), (h.kept h4)⟩, h4.sub (fun k hk => by simp [hk])⟩
end

/-- the motion behind the two stores -/
theorem mot_moved (s : St) (pl : Nat) (hpl : s.players = (pl : Int)) (bodies : List Bd) (hnb : s.nb = bodies.length) (i : Nat) (hi : i < bodies.length) (a : Nat) (ha : a = 48 + 4 * pl + 8 * i) (x y : Int) :
    motOf s bodies (((initL pl bodies).set a x).set (a + 3) y) (i : Int) = .agg #[.int .i64 x, .int .i64 (bodies[i]).py, .int .i64 (bodies[i]).vx, .int .i64 y, .int .i64 (bodies[i]).im] := by
  have hlen : (((initL pl bodies).set a x).set (a + 3) y).length = 48 + 4 * pl + 8 * bodies.length := by simp [initL_len]
  have hin : motIn s (((initL pl bodies).set a x).set (a + 3) y) (i : Int) := ⟨by omega, by rw [hnb]; omega, by rw [hlen, hpl]; omega⟩
  have hb : (48 + 4 * s.players + 8 * (i : Int)).toNat = a := by rw [hpl]; omega
  unfold motOf
  rw [if_pos hin, Int.toNat_natCast]
  unfold motL
  simp only [hb]
  have hal : a + 8 ≤ (initL pl bodies).length := by rw [initL_len]; omega
  have e0 : (((initL pl bodies).set a x).set (a + 3) y).getD a 0 = x := by simp [List.getD_eq_getElem?_getD, List.getElem?_set, show a < (initL pl bodies).length by omega]
  have e1 : (((initL pl bodies).set a x).set (a + 3) y).getD (a + 1) 0 = (bodies[i]).py := by
    have h := initL_get pl bodies i 1 hi (by omega)
    rw [← ha] at h
    simp [List.getD_eq_getElem?_getD, List.getElem?_set, h, bodyRow]
  have e2 : (((initL pl bodies).set a x).set (a + 3) y).getD (a + 2) 0 = (bodies[i]).vx := by
    have h := initL_get pl bodies i 2 hi (by omega)
    rw [← ha] at h
    simp [List.getD_eq_getElem?_getD, List.getElem?_set, h, bodyRow]
  have e3 : (((initL pl bodies).set a x).set (a + 3) y).getD (a + 3) 0 = y := by simp [List.getD_eq_getElem?_getD, List.getElem?_set, show a + 3 < (initL pl bodies).length by omega]
  have hm : (bodies.map (·.im)).getD i 0 = (bodies[i]).im := by rw [List.getD_eq_getElem?_getD, List.getElem?_map, List.getElem?_eq_getElem hi]; rfl
  rw [e0, e1, e2, e3, hm]

theorem eq_motion (u : World) (a0 a1 a2 a3 a4 : Int) : (binOp .eql 50 (.agg #[.int .i64 a0, .int .i64 a1, .int .i64 a2, .int .i64 a3, .int .i64 a4]) (.agg #[.int .i64 a0, .int .i64 a1, .int .i64 a2, .int .i64 a3, .int .i64 a4])).run Try.prog u = .ok (.bool true) u := by
  have hf : Try.prog.underlying 50 = some (.struct (Try.prog.fieldsOf 50)) := by unfold Program.fieldsOf; rw [Try.underlying50]
  have hp : Try.prog.stoodInHeld 50 = false := by kernel_rfl
  rw [run_eql_struct, run_equalIn_struct u _ _ _ _ hf hp]
  simp only [Program.fieldsOf, Try.underlying50]
  have hv : ∀ a b c e : Int, (Op.equalIn 9999 29 (.agg #[.int .i64 a, .int .i64 b]) (.agg #[.int .i64 c, .int .i64 e])).run Try.prog u = .ok ((a == c) && (b == e)) u := fun a b c e => eq_vec u 9997 a b c e
  have hi : ∀ a c : Int, (Op.equalIn 9999 3 (.int .i64 a) (.int .i64 c)).run Try.prog u = .ok (a == c) u := fun a c => run_equalIn_int u 9998 _ _ _ a c Try.underlying3
  have p0 : ∀ x0 x1 x2 x3 x4 : Value, (part 29 #[x0, x1, x2, x3, x4] 0).run Try.prog u = .ok (.agg #[x0, x1]) u := fun x0 x1 x2 x3 x4 => by
    simp [part, Try.isAgg29, Try.sizeOf29]
  have p2 : ∀ x0 x1 x2 x3 x4 : Value, (part 29 #[x0, x1, x2, x3, x4] 2).run Try.prog u = .ok (.agg #[x2, x3]) u := fun x0 x1 x2 x3 x4 => by
    simp [part, Try.isAgg29, Try.sizeOf29]
  have p4 : ∀ x0 x1 x2 x3 x4 : Value, (part 3 #[x0, x1, x2, x3, x4] 4).run Try.prog u = .ok x4 u := fun x0 x1 x2 x3 x4 => by
    simp [part, Try.isAgg3, Try.sizeOf3]
  simp [Op.eqFields, p0, p2, p4, hv, hi]

set_option maxRecDepth 100000 in
set_option maxHeartbeats 8000000 in
theorem memlaw_walk (w : World) (lo : Option Addr) (lc : Nat) (l : List Int) (hrd : Rd w 1 lo l.length (ints l)) (hb : ∀ x ∈ l, bounded x) (i x y : Int) (hi : bounded i) :
    Calls Try.prog 10 #[.slice lo l.length lc, .int .i64 i, .int .i64 x, .int .i64 y] w fun e w' => e = .returned (.bool true) ∧ Fr [] w w' := by
  have HSU := Lib.hid (setup_any w lo lc l hrd hb)
  clear hrd hb
  go_enter Try.func10, Try.ntmps10
  go_wp2_with fail
  refine HSU.out.mono ?_
  rintro e w1 ⟨s, bodies, doors, rfl, hs⟩
  have hok := hs.ok
  have F1 := Lib.hid hs.fr
  obtain ⟨pl, hpl⟩ : ∃ pl : Nat, s.players = (pl : Int) := ⟨s.players.toNat, by have := hs.num.1; omega⟩
  have hpl3 : pl ≤ 3 := by have := hs.num.1; omega
  have hpl1 : 1 ≤ pl := by have := hs.num.1; omega
  have h5 := hs.b5
  have hb1 : 0 < bodies.length := by have := hs.pn; omega
  have hnbe := hs.nb
  obtain ⟨bg, boff, cur, hbo, -, -, -, -⟩ := hs.seg.at (by have := hs.seg.2.2.1; omega)
  have HBD := Lib.hid (⟨hnbe, hs.seg.rd⟩ : BodiesAt w1 s bodies)
  have HIN := Lib.hid (fun (u : World) (hf : Fr [] w1 u) => initial_any u s bodies hok pl hpl (by omega) (HBD.out.old hf) (by omega))
  obtain ⟨n, hn⟩ : ∃ n, n = 48 + 4 * pl + 8 * bodies.length := ⟨_, rfl⟩
  have HLL := Lib.hid ((initL_len pl bodies).trans hn.symm)
  have HNN := Lib.hid hn
  have hn1 : n ≤ 1000 := by omega
  have hn0 : 48 ≤ n := by omega
  obtain ⟨kb, hkb, -, hAI⟩ := around_nat i bodies.length hi hb1 (by omega)
  have HAI := Lib.hid hAI
  obtain ⟨a, ha⟩ : ∃ a, a = 48 + 4 * pl + 8 * kb := ⟨_, rfl⟩
  have HBY := Lib.hid (fun (u : World) => (by have h := body_any u s hok (kb : Int); rw [show bdOf s (kb : Int) = (a : Int) by unfold bdOf; rw [if_neg (by rw [hnbe]; omega), hpl]; omega] at h; exact h : Calls Try.prog 19 #[s.val, .int .i64 (kb : Int)] u fun e w' => e = .returned (.int .i64 (a : Int)) ∧ Fr [] u w'))
  have HMO := Lib.hid (fun (u : World) (hf : Fr [] w1 u) (b : Nat) (C : List Int) (hm : C.length = n) (hrd : u.heap[b]? = some (row C)) (r : Value) (hr : motOf s bodies C (kb : Int) = r) => (by
    subst hm
    have h := motion_any u s bodies (some ⟨b, 0, none⟩) C.length C ⟨hok, by omega, HBD.out.old hf, (row_seg hrd (by unfold maxLen; omega)).rd, Nat.le_refl _, by unfold maxLen; omega⟩ (by omega) (kb : Int)
    rw [hr] at h
    exact h : Calls Try.prog 28 #[s.val, .slice (some ⟨b, 0, none⟩) n n, .int .i64 (kb : Int)] u fun e w' => e = .returned r ∧ Fr [] u w'))
  have HM0 := Lib.hid (mot_init s pl hpl bodies hnbe kb hkb)
  have HM2 := Lib.hid (mot_moved s pl hpl bodies hnbe kb hkb a ha x y)
  rw [← hn] at HIN
  have HBR := Lib.hid (hbo ▸ HBD.out.rd : Rd w1 9 (some ⟨bg, boff, none⟩) bodies.length (bodies.flatMap Bd.cells))
  obtain ⟨nb, hnb⟩ : ∃ nb, nb = bodies.length := ⟨_, rfl⟩
  obtain ⟨SC, hC⟩ : ∃ C : List Value, C = (stCells s).toList := ⟨_, rfl⟩
  have hval : s.val = .agg SC.toArray := by rw [hC]; rfl
  have hCl : (Try.prog.info? 31).map (·.size) = some SC.length := by rw [hC]; exact infoSetup
  have HCS := Lib.hid (by rw [hC]; rfl : SC.toArray.size = 16)
  have HC1 := Lib.hid (by rw [hC]; simp [stCells, Value.oneCell'] : SC.toArray.all (·.oneCell') = true)
  have HCB := Lib.hid (by rw [hC, hnb, ← hbo, ← hnbe]; rfl : SC.toArray[1]? = some (.slice (some ⟨bg, boff, none⟩) nb s.bc))
  have hu := Try.underlying31
  have hbc := fun (u : World) (hf : Fr [] w1 u) (j : Nat) (hj : j < 9) => (by
    obtain ⟨g', o', ha, -, hc⟩ := (HBR.out.fr hf (by simp)).at (by omega)
    cases ha
    rw [Nat.add_assoc, hc _ (by omega), Bd.flat_get bodies kb j hkb hj] : u.cell? ⟨bg, boff + kb * 9 + j, none⟩ = ((bodies[kb]).cells)[j]?)
  obtain ⟨px, hpx⟩ : ∃ v, (bodies[kb]).px = v := ⟨_, rfl⟩
  obtain ⟨py, hpy⟩ : ∃ v, (bodies[kb]).py = v := ⟨_, rfl⟩
  obtain ⟨vx, hvx⟩ : ∃ v, (bodies[kb]).vx = v := ⟨_, rfl⟩
  obtain ⟨vy, hvy⟩ : ∃ v, (bodies[kb]).vy = v := ⟨_, rfl⟩
  obtain ⟨im, him⟩ : ∃ v, (bodies[kb]).im = v := ⟨_, rfl⟩
  have KB := Lib.hid (fun (u : World) (hf : Fr [] w1 u) => (⟨by rw [hbc u hf 2 (by omega), ← hpx]; rfl, by rw [hbc u hf 3 (by omega), ← hpy]; rfl, by rw [hbc u hf 4 (by omega), ← hvx]; rfl, by rw [hbc u hf 5 (by omega), ← hvy]; rfl, by rw [hbc u hf 6 (by omega), ← him]; rfl⟩ :
    u.cell? ⟨bg, boff + kb * 9 + 2, none⟩ = some (.int .i64 px) ∧ u.cell? ⟨bg, boff + kb * 9 + 3, none⟩ = some (.int .i64 py) ∧ u.cell? ⟨bg, boff + kb * 9 + 4, none⟩ = some (.int .i64 vx) ∧ u.cell? ⟨bg, boff + kb * 9 + 5, none⟩ = some (.int .i64 vy) ∧ u.cell? ⟨bg, boff + kb * 9 + 6, none⟩ = some (.int .i64 im)))
  unfold Bd.motion at HM0
  rw [hpx, hpy, hvx, hvy, him] at HM0
  rw [hpy, hvx, him] at HM2
  rw [hval] at HIN HMO HBY ⊢
  have hkbn : kb < nb := by omega
  have ha1 : a + 8 ≤ n := by omega
  have HNB := Lib.hid hnb
  rw [← hnb] at HAI
  clear hn ha hok hpl hs hnbe HBD hC hval hbc hbo hpx hpy hvx hvy him HBR hnb
  obtain ⟨b9, hb9⟩ : ∃ b9, b9 = w1.heap.size := ⟨_, rfl⟩
  have HB9 := Lib.hid hb9
  go_wp2_with (first | (refine wpList_loadB rfl 31 (Operand.tmp 9) rfl w1.heap.size 16 rfl SC.toArray 31 (0, 0) B2.out _ Try.underlying31 rfl HCS.out infoSetup ?_) | (refine wpList_storeB rfl 31 (Operand.tmp 9) (Operand.tmp 16) rfl w1.heap.size 16 SC.toArray rfl rfl _ 31 (by exact alloc_new _ _) rfl HCS.out infoSetup HC1.out ?_; intro w2 hb2 hf2; have F2 := Lib.hid (((Fr.refl [] w1).alloc _).trans hf2 (fun k hk => .inr (by simp at hk; omega))); have B2 := Lib.hid hb2; clear hb2 hf2))
  rw [← HB9.out] at B2 ⊢
  clear hb9
  refine (HIN.out _ F2.out).mono ?_
  rintro e w3 ⟨bu, rfl, hbu, hr3, f3⟩
  have F3 := Lib.hid (F2.out.trans f3 (by simp [Ext]))
  have B3 := Lib.hid (f3.blk B2.out (by simp))
  have hb9l : b9 < w3.heap.size := lt_of_blk B3.out
  have HRD := Lib.hid (by have h := (row_seg hr3 (by rw [HLL.out]; unfold maxLen; omega)).rd; exact h : Rd w3 1 (some ⟨bu, 0, none⟩) (initL pl bodies).length (ints (initL pl bodies)))
  have HNW := Lib.hid (by
    have h := m_new' F3.out (some ⟨bu, 0, none⟩) n (initL pl bodies) HRD.out (by rw [HLL.out]; omega) (G := [b9]) (by simp; exact ⟨by rw [← HB9.out]; exact Nat.le_refl _, hb9l⟩)
    rw [HLL.out] at h; exact h)
  clear hr3 f3 F2 B2 HRD hb9l HIN
  go_wp2_with fail
  refine HNW.out.mono ?_
  rintro e w4 ⟨p, rfl, h4, k4⟩
  have HQ4 := Lib.hid (⟨h4.mono (fun F h => ⟨h.1, h.2.mono (by omega)⟩), (k4 b9 (by simp)).trans B3.out⟩ : MSt w1 p { cells := initL pl bodies, log := [], base := 0 } b9 SC [] w4)
  obtain ⟨S0, hS0⟩ : ∃ S0 : MemS, S0 = { cells := initL pl bodies, log := [], base := 0 } := ⟨_, rfl⟩
  rw [← hS0] at HQ4 h4
  have H4 := Lib.hid h4
  have K4 := Lib.hid k4
  have HS0 := Lib.hid hS0
  have HCV := Lib.hid (fun (u : World) (hb : u.heap[b9]? = some (.cells SC.toArray 31 (0, 0))) => (cell_blk hb 1).trans HCB.out)
  have q1 := HCV.out w4 HQ4.out.2
  clear h4 k4 HNW B3 F3 hS0
  go_wp2_with fail
  refine (HAI.out _).mono ?_
  rintro e w5 ⟨rfl, rfl⟩
  go_wp2_with (refine wpList_loadB rfl 31 (Operand.tmp 9) rfl b9 16 rfl SC.toArray 31 (0, 0) HQ4.out.2 _ Try.underlying31 rfl HCS.out infoSetup ?_)
  refine (HBY.out _).mono ?_
  rintro e w5 ⟨rfl, f5⟩
  have H5 := Lib.hid (H4.out.fr (memX_frm _ _ _) f5).1
  have B5 := Lib.hid (f5.blk HQ4.out.2 (by simp))
  clear f5 H4 K4 q1
  go_wp2_with fail
  refine (m_mark H5.out (by omega) (x := 0) (by rw [HS0.out]; rfl)).mono ?_
  rintro e w6 ⟨rfl, k6, rfl⟩
  have H6 := Lib.hid (H5.out.drewN k6)
  have B6 := Lib.hid (show (w5.drewN k6).heap[b9]? = _ from B5.out)
  obtain ⟨wq, hwq⟩ : ∃ x, x = w5.drewN k6 := ⟨_, rfl⟩
  rw [← hwq] at H6 B6 ⊢
  clear hwq H5 B5
  go_wp2_with fail
  refine (m_set H6.out (a : Int) x (by omega) rfl).mono ?_
  rintro e w7 ⟨rfl, h7, k7⟩
  have H7 := Lib.hid h7
  have B7 := Lib.hid ((k7 b9 (by simp)).trans B6.out)
  clear h7 k7 H6 B6
  go_wp2_with fail
  refine (m_set H7.out ((a : Int) + 3) y (by omega) rfl).mono ?_
  rintro e w8 ⟨rfl, h8, k8⟩
  obtain ⟨S2, hS2⟩ : ∃ S2, S2 = (S0.set (a : Int) x).set ((a : Int) + 3) y := ⟨_, rfl⟩
  have hcl : S2.cells = ((initL pl bodies).set a x).set (a + 3) y := by
    have hl0 : S0.cells.length = n := by rw [HS0.out]; exact HLL.out
    have hc0 : S0.cells = initL pl bodies := by rw [HS0.out]
    have h1 := S0.set_in a x (by omega)
    have h2 := (S0.set (a : Int) x).set_in (a + 3) y (by rw [S0.len_set, hl0]; omega)
    have h3 : (S0.set (a : Int) x).cells = (initL pl bodies).set a x := by rw [h1]; show S0.cells.set a x = _; rw [hc0]
    rw [hS2, show (a : Int) + 3 = ((a + 3 : Nat) : Int) by omega, h2]
    show (S0.set (a : Int) x).cells.set (a + 3) y = _
    rw [h3]
  have HCL := Lib.hid hcl
  have HGR := Lib.hid (by rw [hS2]; exact ((Grew.refl S0).set _ _).set _ _ : Grew S0 S2)
  have HLN := Lib.hid (by rw [hcl, List.length_set, List.length_set]; exact HLL.out : S2.cells.length = n)
  have H8 := Lib.hid (by exact ⟨by rw [hS2]; exact h8.mono (fun F h => ⟨h.1, h.2.mono (by omega)⟩), (k8 b9 (by simp)).trans B7.out⟩ : MSt w1 p S2 b9 SC [] w8)
  have HM2' := Lib.hid (by rw [HCL.out]; exact HM2.out : motOf s bodies S2.cells (kb : Int) = .agg #[.int .i64 x, .int .i64 py, .int .i64 vx, .int .i64 y, .int .i64 im])
  clear h8 k8 H7 B7 hS2 hcl HQ4 HCL HM2
  go_upto_region 10 with fail
  go_cut [14] (fun s14 wc => ∃ bm, s14 = .pointer (some ⟨bm, 0, none⟩) ∧ wc.heap[bm]? = some (.cells #[.int .i64 x, .int .i64 py, .int .i64 vx, .int .i64 y, .int .i64 im] 50 (0, 0)) ∧ MSt w1 p S2 b9 SC [bm] wc)
  case first =>
    have HQ := Lib.hid (H8.out.fr ((Fr.refl [] w8).drew))
    clear H8
    refine wp_region_held_drew (S := fun w' => MSt w1 p S2 b9 SC [] w') (by kernel_rfl) HQ.out (fun hHeld => ?_)
    refine wpAnyH_takeL (i := 0) (v := (.agg SC.toArray)) rfl (by kernel_rfl) (by kernel_rfl) (by kernel_rfl) (fun _ _ _ h => h) (yieldsIf_load_mid (by rfl) 31 (Operand.tmp 9) rfl b9 0 rfl SC _ (fun w' hw' => range_blk (c := SC.toArray) hw'.2) hu rfl hCl) (by assumption) ?_
    try simp only [Act.put, List.setIfInBounds_toArray, List.set_cons_zero, List.set_cons_succ]
    refine wpAnyH_takeL (i := 1) (v := _) rfl (by kernel_rfl) (by kernel_rfl) (by kernel_rfl) (fun _ _ _ h => h) (Or.inl ⟨by rfl, (by intro w' hSw; (try dsimp only at hSw); skip; go_simp; try with_reducible rfl)⟩) (by assumption) ?_
    try simp only [Act.put, List.setIfInBounds_toArray, List.set_cons_zero, List.set_cons_succ]
    refine wpAnyH_takeL (i := 3) (v := _) rfl (by kernel_rfl) (by kernel_rfl) (by kernel_rfl) (fun _ _ _ h => h) (Or.inl ⟨by rfl, (by intro w' hSw; (try dsimp only at hSw); skip; go_simp; try with_reducible rfl)⟩) (by assumption) ?_
    try simp only [Act.put, List.setIfInBounds_toArray, List.set_cons_zero, List.set_cons_succ]
    refine wpAnyH_ready (rs := [2, 5]) (by kernel_rfl) (by simp) ?_
    refine AllReadyH.consL (i := 2) rfl (fun K hK => ?_) ?_
    · go_simp
      (refine (ms_cells HQ.out rfl HLN.out).mono ?_; rintro e wA ⟨bC, rfl, hrow, hq, hk⟩; have RC := Lib.hid hrow; have HQ := Lib.hid hq; clear hrow hq hk)
      refine hK.out _ _ (HQ.out) (fun hHeld => ?_)
      clear hK K
      try simp only [Act.put, List.setIfInBounds_toArray, List.set_cons_zero, List.set_cons_succ]
      refine wpAnyH_ready (rs := [4, 5]) (by kernel_rfl) (by simp) ?_
      refine AllReadyH.consL (i := 4) rfl (fun K hK => ?_) ?_
      · go_simp
        (refine (HMO.out _ HQ.out.f1 bC S2.cells HLN.out RC.out _ HM2'.out).mono ?_; rintro e wB ⟨rfl, fB⟩; have HQ := Lib.hid (HQ.out.fr fB); clear fB)
        refine hK.out _ _ (HQ.out) (fun hHeld => ?_)
        clear hK K
        try simp only [Act.put, List.setIfInBounds_toArray, List.set_cons_zero, List.set_cons_succ]
        refine wpAnyH_ready (rs := [5]) (by kernel_rfl) (by simp) ?_
        refine AllReadyH.consL (i := 5) rfl (fun K hK => ?_) AllReadyH.nil
        go_simp
        (obtain ⟨bm, hbm⟩ : ∃ bm, bm = (wB).heap.size := ⟨_, rfl⟩; have HM := Lib.hid (alloc_new (wB) (.cells #[.int .i64 0, .int .i64 0, .int .i64 0, .int .i64 0, .int .i64 0] 50)); have RC := Lib.hid (alloc_old (o' := .cells #[.int .i64 0, .int .i64 0, .int .i64 0, .int .i64 0, .int .i64 0] 50) RC.out); have HN := Lib.hid (show b9 ≠ bm by have := lt_of_blk HQ.out.2; omega); have HQ := Lib.hid (HQ.out.alloc (.cells #[.int .i64 0, .int .i64 0, .int .i64 0, .int .i64 0, .int .i64 0] 50)); rw [← hbm] at HM HQ; (try simp only [World.drew] at hbm ⊢); rw [← hbm]; clear hbm)
        refine hK.out _ _ (HQ.out.weak) (fun hHeld => ?_)
        clear hK K
        try simp only [Act.put, List.setIfInBounds_toArray, List.set_cons_zero, List.set_cons_succ]
        refine wpAnyH_ready (rs := [6]) (by kernel_rfl) (by simp) ?_
        refine AllReadyH.consL (i := 6) rfl (fun K hK => ?_) AllReadyH.nil
        rw [if_pos (by rfl)]; refine wp_storeB 50 (Operand.tmp 14) (Operand.tmp 46) rfl bm 5 #[.int .i64 x, .int .i64 py, .int .i64 vx, .int .i64 y, .int .i64 im] rfl rfl _ 50 HM.out rfl rfl infoMotion (by simp [Value.oneCell']) ?_; intro wf hbf hff; have HQ := Lib.hid (HQ.out.store (by simp) HN.out hff); have HB := Lib.hid hbf; clear hbf hff
        refine hK.out _ _ (HQ.out.weak) (fun hHeld => ?_)
        clear hK K
        try simp only [Act.put, List.setIfInBounds_toArray, List.set_cons_zero, List.set_cons_succ]
        refine wpAnyH_done (by kernel_rfl) ?_ _
        go_wp2_with fail
        go_meet
        exact ⟨bm, rfl, HB.out, HQ.out⟩
      refine AllReadyH.consL (i := 5) rfl (fun K hK => ?_) AllReadyH.nil
      go_simp
      (obtain ⟨bm, hbm⟩ : ∃ bm, bm = (wA).heap.size := ⟨_, rfl⟩; have HM := Lib.hid (alloc_new (wA) (.cells #[.int .i64 0, .int .i64 0, .int .i64 0, .int .i64 0, .int .i64 0] 50)); have RC := Lib.hid (alloc_old (o' := .cells #[.int .i64 0, .int .i64 0, .int .i64 0, .int .i64 0, .int .i64 0] 50) RC.out); have HN := Lib.hid (show b9 ≠ bm by have := lt_of_blk HQ.out.2; omega); have HQ := Lib.hid (HQ.out.alloc (.cells #[.int .i64 0, .int .i64 0, .int .i64 0, .int .i64 0, .int .i64 0] 50)); rw [← hbm] at HM HQ; (try simp only [World.drew] at hbm ⊢); rw [← hbm]; clear hbm)
      refine hK.out _ _ (HQ.out.weak) (fun hHeld => ?_)
      clear hK K
      try simp only [Act.put, List.setIfInBounds_toArray, List.set_cons_zero, List.set_cons_succ]
      refine wpAnyH_ready (rs := [4]) (by kernel_rfl) (by simp) ?_
      refine AllReadyH.consL (i := 4) rfl (fun K hK => ?_) AllReadyH.nil
      go_simp
      (refine (HMO.out _ HQ.out.f1 bC S2.cells HLN.out RC.out _ HM2'.out).mono ?_; rintro e wB ⟨rfl, fB⟩; have HQ := Lib.hid (HQ.out.fr fB); have HM := Lib.hid (fB.blk HM.out (by simp)); clear fB)
      refine hK.out _ _ (HQ.out.weak) (fun hHeld => ?_)
      clear hK K
      try simp only [Act.put, List.setIfInBounds_toArray, List.set_cons_zero, List.set_cons_succ]
      refine wpAnyH_ready (rs := [6]) (by kernel_rfl) (by simp) ?_
      refine AllReadyH.consL (i := 6) rfl (fun K hK => ?_) AllReadyH.nil
      rw [if_pos (by rfl)]; refine wp_storeB 50 (Operand.tmp 14) (Operand.tmp 46) rfl bm 5 #[.int .i64 x, .int .i64 py, .int .i64 vx, .int .i64 y, .int .i64 im] rfl rfl _ 50 HM.out rfl rfl infoMotion (by simp [Value.oneCell']) ?_; intro wf hbf hff; have HQ := Lib.hid (HQ.out.store (by simp) HN.out hff); have HB := Lib.hid hbf; clear hbf hff
      refine hK.out _ _ (HQ.out.weak) (fun hHeld => ?_)
      clear hK K
      try simp only [Act.put, List.setIfInBounds_toArray, List.set_cons_zero, List.set_cons_succ]
      refine wpAnyH_done (by kernel_rfl) ?_ _
      go_wp2_with fail
      go_meet
      exact ⟨bm, rfl, HB.out, HQ.out⟩
    refine AllReadyH.consL (i := 5) rfl (fun K hK => ?_) AllReadyH.nil
    go_simp
    (obtain ⟨bm, hbm⟩ : ∃ bm, bm = (w8.drew).heap.size := ⟨_, rfl⟩; have HM := Lib.hid (alloc_new (w8.drew) (.cells #[.int .i64 0, .int .i64 0, .int .i64 0, .int .i64 0, .int .i64 0] 50)); have HN := Lib.hid (show b9 ≠ bm by have := lt_of_blk HQ.out.2; omega); have HQ := Lib.hid (HQ.out.alloc (.cells #[.int .i64 0, .int .i64 0, .int .i64 0, .int .i64 0, .int .i64 0] 50)); rw [← hbm] at HM HQ; (try simp only [World.drew] at hbm ⊢); rw [← hbm]; clear hbm)
    refine hK.out _ _ (HQ.out.weak) (fun hHeld => ?_)
    clear hK K
    try simp only [Act.put, List.setIfInBounds_toArray, List.set_cons_zero, List.set_cons_succ]
    refine wpAnyH_ready (rs := [2]) (by kernel_rfl) (by simp) ?_
    refine AllReadyH.consL (i := 2) rfl (fun K hK => ?_) AllReadyH.nil
    go_simp
    (refine (ms_cells HQ.out rfl HLN.out).mono ?_; rintro e wA ⟨bC, rfl, hrow, hq, hk⟩; have RC := Lib.hid hrow; have HQ := Lib.hid hq; have HM := Lib.hid ((hk bm (by simp)).trans HM.out); clear hrow hq hk)
    refine hK.out _ _ (HQ.out.weak) (fun hHeld => ?_)
    clear hK K
    try simp only [Act.put, List.setIfInBounds_toArray, List.set_cons_zero, List.set_cons_succ]
    refine wpAnyH_ready (rs := [4]) (by kernel_rfl) (by simp) ?_
    refine AllReadyH.consL (i := 4) rfl (fun K hK => ?_) AllReadyH.nil
    go_simp
    (refine (HMO.out _ HQ.out.f1 bC S2.cells HLN.out RC.out _ HM2'.out).mono ?_; rintro e wB ⟨rfl, fB⟩; have HQ := Lib.hid (HQ.out.fr fB); have HM := Lib.hid (fB.blk HM.out (by simp)); clear fB)
    refine hK.out _ _ (HQ.out.weak) (fun hHeld => ?_)
    clear hK K
    try simp only [Act.put, List.setIfInBounds_toArray, List.set_cons_zero, List.set_cons_succ]
    refine wpAnyH_ready (rs := [6]) (by kernel_rfl) (by simp) ?_
    refine AllReadyH.consL (i := 6) rfl (fun K hK => ?_) AllReadyH.nil
    rw [if_pos (by rfl)]; refine wp_storeB 50 (Operand.tmp 14) (Operand.tmp 46) rfl bm 5 #[.int .i64 x, .int .i64 py, .int .i64 vx, .int .i64 y, .int .i64 im] rfl rfl _ 50 HM.out rfl rfl infoMotion (by simp [Value.oneCell']) ?_; intro wf hbf hff; have HQ := Lib.hid (HQ.out.store (by simp) HN.out hff); have HB := Lib.hid hbf; clear hbf hff
    refine hK.out _ _ (HQ.out.weak) (fun hHeld => ?_)
    clear hK K
    try simp only [Act.put, List.setIfInBounds_toArray, List.set_cons_zero, List.set_cons_succ]
    refine wpAnyH_done (by kernel_rfl) ?_ _
    go_wp2_with fail
    go_meet
    exact ⟨bm, rfl, HB.out, HQ.out⟩
  case rest =>
    obtain ⟨bm, rfl, hbm, hq⟩ := hcut
    clear H8 HM2'
    have HQ := Lib.hid hq
    have HB := Lib.hid hbm
    have m0 := cell_blk hbm 0
    have m1 := cell_blk hbm 1
    have m3 := cell_blk hbm 3
    have m4 := cell_blk hbm 4
    simp only [List.getElem?_toArray, List.getElem?_cons_zero, List.getElem?_cons_succ] at m0 m1 m3 m4
    have q1 := HCV.out wc hq.2
    obtain ⟨-, t1, -, -, t4⟩ := KB.out wc hq.f1
    have hkbi : (kb : Int) < (nb : Int) := by omega
    clear hbm hq
    go_upto_region 11 with fail
    go_quiet (fail)
    obtain ⟨wr, hwr⟩ : ∃ x, x = wc.drewN nq := ⟨_, rfl⟩
    have HR := Lib.hid (by rw [hwr]; exact HQ.out.fr ((Fr.refl [] wc).drewN nq) : MSt w1 p S2 b9 SC [bm] wr)
    have HRd := Lib.hid (HR.out.fr ((Fr.refl [] wr).drew))
    rw [← hwr]
    clear hwr m0 m1 m3 m4 q1 t1 t4 HQ HB
    have HUN := Lib.hid (by have h := HGR.out.undo; rw [show S0.mark = 0 by rw [HS0.out]; rfl] at h; exact h : S2.undo 0 = S0)
    have HGI := Lib.hid (by have h := HGR.out.in; rw [show S0.mark = 0 by rw [HS0.out]; rfl] at h; exact h : S2.base ≤ 0 ∧ 0 ≤ S2.base + (S2.log.length : Int))
    have HL0 := Lib.hid (by rw [HS0.out]; exact HLL.out : S0.cells.length = n)
    have HMV := Lib.hid (by rw [HS0.out]; exact HM0.out : motOf s bodies S0.cells (kb : Int) = .agg #[.int .i64 px, .int .i64 py, .int .i64 vx, .int .i64 vy, .int .i64 im])
    have KEEP := Lib.hid (fun (S' : MemS) (u : World) (h : MSt w1 p S' b9 SC [bm] u) => (⟨h.2, HCV.out u h.2, KB.out u h.f1⟩ : (fun w' : World => w'.heap[b9]? = some (.cells SC.toArray 31 (0, 0)) ∧ w'.cell? ⟨b9, 1, none⟩ = some (.slice (some ⟨bg, boff, none⟩) nb s.bc) ∧ w'.cell? ⟨bg, boff + kb * 9 + 2, none⟩ = some (.int .i64 px) ∧ w'.cell? ⟨bg, boff + kb * 9 + 3, none⟩ = some (.int .i64 py) ∧ w'.cell? ⟨bg, boff + kb * 9 + 4, none⟩ = some (.int .i64 vx) ∧ w'.cell? ⟨bg, boff + kb * 9 + 5, none⟩ = some (.int .i64 vy) ∧ w'.cell? ⟨bg, boff + kb * 9 + 6, none⟩ = some (.int .i64 im)) u))
    have heqm : ∀ u, (binOp .eql 50 (.agg #[.int .i64 px, .int .i64 py, .int .i64 vx, .int .i64 vy, .int .i64 im]) (.agg #[.int .i64 px, .int .i64 py, .int .i64 vx, .int .i64 vy, .int .i64 im])).run Try.prog u = .ok (.bool true) u := fun u => eq_motion u px py vx vy im
    go_upto_region 13 with fail
    refine wp_region_held_drew (S := fun w' : World => w'.heap[b9]? = some (.cells SC.toArray 31 (0, 0)) ∧ w'.cell? ⟨b9, 1, none⟩ = some (.slice (some ⟨bg, boff, none⟩) nb s.bc) ∧ w'.cell? ⟨bg, boff + kb * 9 + 2, none⟩ = some (.int .i64 px) ∧ w'.cell? ⟨bg, boff + kb * 9 + 3, none⟩ = some (.int .i64 py) ∧ w'.cell? ⟨bg, boff + kb * 9 + 4, none⟩ = some (.int .i64 vx) ∧ w'.cell? ⟨bg, boff + kb * 9 + 5, none⟩ = some (.int .i64 vy) ∧ w'.cell? ⟨bg, boff + kb * 9 + 6, none⟩ = some (.int .i64 im)) (by kernel_rfl) (KEEP.out _ _ HRd.out) (fun hHeld => ?_)
    refine wpAnyH_takeL (i := 0) (v := _) rfl (by kernel_rfl) (by kernel_rfl) (by kernel_rfl) (fun _ _ _ h => h) (Or.inl ⟨by rfl, (by intro w' hSw; (try dsimp only at hSw); obtain ⟨-, g1, g2, g3, g4, g5, g6⟩ := hSw; go_simp; try with_reducible rfl)⟩) (by assumption) ?_
    try simp only [Act.put, List.setIfInBounds_toArray, List.set_cons_zero, List.set_cons_succ]
    refine wpAnyH_takeL (i := 1) (v := _) rfl (by kernel_rfl) (by kernel_rfl) (by kernel_rfl) (fun _ _ _ h => h) (Or.inl ⟨by rfl, (by intro w' hSw; (try dsimp only at hSw); obtain ⟨-, g1, g2, g3, g4, g5, g6⟩ := hSw; go_simp; try with_reducible rfl)⟩) (by assumption) ?_
    try simp only [Act.put, List.setIfInBounds_toArray, List.set_cons_zero, List.set_cons_succ]
    refine wpAnyH_ready (rs := [2]) (by kernel_rfl) (by simp) ?_
    refine AllReadyH.consL (i := 2) rfl (fun K hK => ?_) AllReadyH.nil
    go_simp
    (refine (m_undo HRd.out.1 0 (by omega) HGI.out.1 HGI.out.2 HUN.out).mono ?_; rintro e wA ⟨rfl, hA, kA⟩; have HA := Lib.hid (by exact ⟨hA, HRd.out.kept kA⟩ : MSt w1 p S0 b9 SC [bm] wA); clear hA kA)
    refine hK.out _ _ (KEEP.out _ _ HA.out) (fun hHeld => ?_)
    clear hK K
    try simp only [Act.put, List.setIfInBounds_toArray, List.set_cons_zero, List.set_cons_succ]
    refine wpAnyH_takeL (i := 3) (v := _) rfl (by kernel_rfl) (by kernel_rfl) (by kernel_rfl) (fun _ _ _ h => h) (Or.inl ⟨by rfl, (by intro w' hSw; (try dsimp only at hSw); obtain ⟨-, g1, g2, g3, g4, g5, g6⟩ := hSw; go_simp; try with_reducible rfl)⟩) (by assumption) ?_
    try simp only [Act.put, List.setIfInBounds_toArray, List.set_cons_zero, List.set_cons_succ]
    refine wpAnyH_takeL (i := 4) (v := _) rfl (by kernel_rfl) (by kernel_rfl) (by kernel_rfl) (fun _ _ _ h => h) (Or.inl ⟨by rfl, (by intro w' hSw; (try dsimp only at hSw); obtain ⟨-, g1, g2, g3, g4, g5, g6⟩ := hSw; go_simp; try with_reducible rfl)⟩) (by assumption) ?_
    try simp only [Act.put, List.setIfInBounds_toArray, List.set_cons_zero, List.set_cons_succ]
    refine wpAnyH_takeL (i := 5) (v := (.agg SC.toArray)) rfl (by kernel_rfl) (by kernel_rfl) (by kernel_rfl) (fun _ _ _ h => h) (yieldsIf_load_mid (by rfl) 31 (Operand.tmp 9) rfl b9 0 rfl SC _ (fun w' hw' => range_blk (c := SC.toArray) hw'.1) hu rfl hCl) (by assumption) ?_
    try simp only [Act.put, List.setIfInBounds_toArray, List.set_cons_zero, List.set_cons_succ]
    refine wpAnyH_takeL (i := 6) (v := _) rfl (by kernel_rfl) (by kernel_rfl) (by kernel_rfl) (fun _ _ _ h => h) (Or.inl ⟨by rfl, (by intro w' hSw; (try dsimp only at hSw); obtain ⟨-, g1, g2, g3, g4, g5, g6⟩ := hSw; go_simp; try with_reducible rfl)⟩) (by assumption) ?_
    try simp only [Act.put, List.setIfInBounds_toArray, List.set_cons_zero, List.set_cons_succ]
    refine wpAnyH_takeL (i := 8) (v := _) rfl (by kernel_rfl) (by kernel_rfl) (by kernel_rfl) (fun _ _ _ h => h) (Or.inl ⟨by rfl, (by intro w' hSw; (try dsimp only at hSw); obtain ⟨-, g1, g2, g3, g4, g5, g6⟩ := hSw; go_simp; try with_reducible rfl)⟩) (by assumption) ?_
    try simp only [Act.put, List.setIfInBounds_toArray, List.set_cons_zero, List.set_cons_succ]
    refine wpAnyH_takeL (i := 10) (v := _) rfl (by kernel_rfl) (by kernel_rfl) (by kernel_rfl) (fun _ _ _ h => h) (Or.inl ⟨by rfl, (by intro w' hSw; (try dsimp only at hSw); obtain ⟨-, g1, g2, g3, g4, g5, g6⟩ := hSw; go_simp; try with_reducible rfl)⟩) (by assumption) ?_
    try simp only [Act.put, List.setIfInBounds_toArray, List.set_cons_zero, List.set_cons_succ]
    refine wpAnyH_takeL (i := 11) (v := _) rfl (by kernel_rfl) (by kernel_rfl) (by kernel_rfl) (fun _ _ _ h => h) (Or.inl ⟨by rfl, (by intro w' hSw; (try dsimp only at hSw); obtain ⟨-, g1, g2, g3, g4, g5, g6⟩ := hSw; go_simp; try with_reducible rfl)⟩) (by assumption) ?_
    try simp only [Act.put, List.setIfInBounds_toArray, List.set_cons_zero, List.set_cons_succ]
    refine wpAnyH_takeL (i := 12) (v := _) rfl (by kernel_rfl) (by kernel_rfl) (by kernel_rfl) (fun _ _ _ h => h) (Or.inl ⟨by rfl, (by intro w' hSw; (try dsimp only at hSw); obtain ⟨-, g1, g2, g3, g4, g5, g6⟩ := hSw; go_simp; try with_reducible rfl)⟩) (by assumption) ?_
    try simp only [Act.put, List.setIfInBounds_toArray, List.set_cons_zero, List.set_cons_succ]
    refine wpAnyH_takeL (i := 13) (v := _) rfl (by kernel_rfl) (by kernel_rfl) (by kernel_rfl) (fun _ _ _ h => h) (Or.inl ⟨by rfl, (by intro w' hSw; (try dsimp only at hSw); obtain ⟨-, g1, g2, g3, g4, g5, g6⟩ := hSw; go_simp; try with_reducible rfl)⟩) (by assumption) ?_
    try simp only [Act.put, List.setIfInBounds_toArray, List.set_cons_zero, List.set_cons_succ]
    refine wpAnyH_takeL (i := 14) (v := _) rfl (by kernel_rfl) (by kernel_rfl) (by kernel_rfl) (fun _ _ _ h => h) (Or.inl ⟨by rfl, (by intro w' hSw; (try dsimp only at hSw); obtain ⟨-, g1, g2, g3, g4, g5, g6⟩ := hSw; go_simp; try with_reducible rfl)⟩) (by assumption) ?_
    try simp only [Act.put, List.setIfInBounds_toArray, List.set_cons_zero, List.set_cons_succ]
    refine wpAnyH_takeL (i := 15) (v := _) rfl (by kernel_rfl) (by kernel_rfl) (by kernel_rfl) (fun _ _ _ h => h) (Or.inl ⟨by rfl, (by intro w' hSw; (try dsimp only at hSw); obtain ⟨-, g1, g2, g3, g4, g5, g6⟩ := hSw; go_simp; try with_reducible rfl)⟩) (by assumption) ?_
    try simp only [Act.put, List.setIfInBounds_toArray, List.set_cons_zero, List.set_cons_succ]
    refine wpAnyH_ready (rs := [7]) (by kernel_rfl) (by simp) ?_
    refine AllReadyH.consL (i := 7) rfl (fun K hK => ?_) AllReadyH.nil
    go_simp
    (refine (ms_cells HA.out rfl HL0.out).mono ?_; rintro e wB ⟨bC, rfl, hrow, hq, hk⟩; have RC := Lib.hid hrow; have HB := Lib.hid hq; clear hrow hq hk)
    refine hK.out _ _ (KEEP.out _ _ HB.out) (fun hHeld => ?_)
    clear hK K
    try simp only [Act.put, List.setIfInBounds_toArray, List.set_cons_zero, List.set_cons_succ]
    refine wpAnyH_ready (rs := [9]) (by kernel_rfl) (by simp) ?_
    refine AllReadyH.consL (i := 9) rfl (fun K hK => ?_) AllReadyH.nil
    go_simp
    (refine (HMO.out _ HB.out.f1 bC S0.cells HL0.out RC.out (.agg #[.int .i64 px, .int .i64 py, .int .i64 vx, .int .i64 vy, .int .i64 im]) HMV.out).mono ?_; rintro e wC ⟨rfl, fC⟩; have HC := Lib.hid (HB.out.fr fC); clear fC)
    refine hK.out _ _ (KEEP.out _ _ HC.out) (fun hHeld => ?_)
    clear hK K
    try simp only [Act.put, List.setIfInBounds_toArray, List.set_cons_zero, List.set_cons_succ]
    refine wpAnyH_takeL (i := 16) (v := _) rfl (by kernel_rfl) (by kernel_rfl) (by kernel_rfl) (fun _ _ _ h => h) (Or.inl ⟨by rfl, (by intro w' hSw; (try dsimp only at hSw); obtain ⟨-, g1, g2, g3, g4, g5, g6⟩ := hSw; go_simp; try with_reducible rfl)⟩) (by assumption) ?_
    try simp only [Act.put, List.setIfInBounds_toArray, List.set_cons_zero, List.set_cons_succ]
    refine wpAnyH_takeL (i := 17) (v := _) rfl (by kernel_rfl) (by kernel_rfl) (by kernel_rfl) (fun _ _ _ h => h) (Or.inl ⟨by rfl, (by intro w' hSw; (try dsimp only at hSw); obtain ⟨-, g1, g2, g3, g4, g5, g6⟩ := hSw; go_simp; try with_reducible rfl)⟩) (by assumption) ?_
    try simp only [Act.put, List.setIfInBounds_toArray, List.set_cons_zero, List.set_cons_succ]
    refine wpAnyH_takeL (i := 18) (v := _) rfl (by kernel_rfl) (by kernel_rfl) (by kernel_rfl) (fun _ _ _ h => h) (Or.inl ⟨by rfl, (by intro w' hSw; (try dsimp only at hSw); obtain ⟨-, g1, g2, g3, g4, g5, g6⟩ := hSw; go_simp; try with_reducible rfl)⟩) (by assumption) ?_
    try simp only [Act.put, List.setIfInBounds_toArray, List.set_cons_zero, List.set_cons_succ]
    refine wpAnyH_ready (rs := [19]) (by kernel_rfl) (by simp) ?_
    refine AllReadyH.consL (i := 19) rfl (fun K hK => ?_) AllReadyH.nil
    go_simp
    (refine (lives_any _).mono ?_; rintro e wD ⟨rfl, fD⟩; have HD := Lib.hid (HC.out.fr fD); clear fD)
    refine hK.out _ _ (KEEP.out _ _ HD.out) (fun hHeld => ?_)
    clear hK K
    try simp only [Act.put, List.setIfInBounds_toArray, List.set_cons_zero, List.set_cons_succ]
    refine wpAnyH_takeL (i := 20) (v := _) rfl (by kernel_rfl) (by kernel_rfl) (by kernel_rfl) (fun _ _ _ h => h) (Or.inl ⟨by rfl, (by intro w' hSw; (try dsimp only at hSw); obtain ⟨-, g1, g2, g3, g4, g5, g6⟩ := hSw; go_simp; try with_reducible rfl)⟩) (by assumption) ?_
    try simp only [Act.put, List.setIfInBounds_toArray, List.set_cons_zero, List.set_cons_succ]
    refine wpAnyH_takeL (i := 21) (v := _) rfl (by kernel_rfl) (by kernel_rfl) (by kernel_rfl) (fun _ _ _ h => h) (Or.inl ⟨by rfl, (by intro w' hSw; (try dsimp only at hSw); obtain ⟨-, g1, g2, g3, g4, g5, g6⟩ := hSw; go_simp; try with_reducible rfl)⟩) (by assumption) ?_
    try simp only [Act.put, List.setIfInBounds_toArray, List.set_cons_zero, List.set_cons_succ]
    refine wpAnyH_done (by kernel_rfl) ?_ _
    go_wp2_with fail
    go_ret
    exact ⟨rfl, F1.out.trans HD.out.f1 (by simp [Ext])⟩
end Go.Proofs.Ytlfomhknfpmhbaa
