/- The reference's Initial. -/
import Derived.Test.YtdbngpncigjfiaaInitial
namespace Go.Proofs.Ytdbngpncigjfiaa
open Go.RowKit

set_option maxRecDepth 100000 in
set_option maxHeartbeats 8000000 in
theorem rinitial_any (w : World) (s : St) (bodies : List Bd) (hok : s.Ok) (pl : Nat) (hpl : s.players = (pl : Int)) (hp3 : pl ≤ 1000) (hbd : BodiesAt w s bodies) (h5 : bodies.length ≤ 1000) :
    Calls Try.prog 37 #[s.val] w fun e w' => ∃ b, e = .returned (.slice (some ⟨b, 0, none⟩) (48 + 4 * pl + 8 * bodies.length) (48 + 4 * pl + 8 * bodies.length)) ∧ w.heap.size ≤ b ∧ RowNew w b (initL pl bodies) w' := by
  obtain ⟨n, hn⟩ : ∃ n, n = 48 + 4 * pl + 8 * bodies.length := ⟨_, rfl⟩
  have hnb : s.nb = bodies.length := hbd.nb
  obtain ⟨nb, hnbe⟩ : ∃ nb, nb = bodies.length := ⟨_, rfl⟩
  have HSZ := Lib.hid (fun (u : World) => (by have h := rsize_any u s hok; rw [show szOf s = (n : Int) by unfold szOf; rw [hpl, hn, hnb]; omega] at h; exact h : Calls Try.prog 49 #[s.val] u fun e w' => e = .returned (.int .i64 (n : Int)) ∧ Fr [] u w'))
  have HBD := Lib.hid (fun (u : World) (p : Nat) (hp : p < nb) (a : Nat) (ha : a = 48 + 4 * pl + 8 * p) => (by have h := rbody_any u s hok (p : Int); rw [show bdOf s (p : Int) = (a : Int) by unfold bdOf; rw [if_neg (by rw [hnb, ← hnbe]; omega), hpl]; omega] at h; exact h : Calls Try.prog 38 #[s.val, .int .i64 (p : Int)] u fun e w' => e = .returned (.int .i64 (a : Int)) ∧ Fr [] u w'))
  have HRD := Lib.hid hbd.rd
  have hmk := make_ints n (by omega)
  have hn1 : n ≤ 20000 := by omega
  have HNE := Lib.hid hn
  have HNBE := Lib.hid hnbe
  have hp0 : decide (s.players < 0) = false := decide_eq_false (by omega)
  have hp1 : decide (1048576 < s.players) = false := decide_eq_false (by omega)
  have hnb1 : nb ≤ 1000 := by omega
  rw [← hn]
  have HNB := Lib.hid (hnb.trans hnbe.symm)
  have HPL := Lib.hid hpl
  clear hbd hn hnb hpl hok hnbe
  unfold St.val at HSZ HBD ⊢
  go_enter Try.func37, Try.ntmps37
  go_wp2_with fail
  refine (HSZ.out _).mono ?_
  rintro e w1 ⟨rfl, f1⟩
  obtain ⟨bs, hbs⟩ : ∃ bs, bs = w.heap.size := ⟨_, rfl⟩
  rw [← hbs]
  have hb1 := f1.blk (alloc_new w _) (by simp)
  have F1 := Lib.hid (((Fr.refl [] w).alloc _).trans f1 (by simp [Ext]))
  obtain ⟨bu, hbu⟩ : ∃ bu, bu = w1.heap.size := ⟨_, rfl⟩
  have hq : InitQ w s pl bodies bs bu 0 (w1.alloc (row (List.replicate n 0))) := ⟨by rw [initK_zero, ← HNE.out, hbu]; exact alloc_new _ _, by rw [hbs]; exact alloc_old hb1, F1.out.alloc _⟩
  have hne : bs ≠ bu := by have := lt_of_blk hb1; omega
  have hbw : w.heap.size ≤ bu := by have := F1.out.size; omega
  have hsz : w.heap.size ≤ bs := by omega
  have q1 : w1.cell? ⟨bs, 1, none⟩ = some (.slice s.bo s.nb s.bc) := by rw [hbs]; exact cell_blk hb1 1
  have hbsl : bs < w1.heap.size := by have := lt_of_blk hb1; omega
  have HQ := Lib.hid hq
  have HBU := Lib.hid hbu
  have hnbN := HNB.out
  clear hb1 f1 hbs hq hbu
  rw [hnbN] at q1
  clear hnbN
  go_wp2_with fail
  rw [← HBU.out]
  go_loopw [4] (fun iv wr => ∃ i : Nat, i ≤ nb ∧ iv = .int .i64 (i : Int) ∧ InitQ w s pl bodies bs bu i wr) (fun iv _ => nb - (intOf iv).toNat)
  case atStart => exact ⟨0, by omega, rfl, HQ.out⟩
  case round =>
    clear HQ q1 hbsl
    obtain ⟨i, hi, rfl, hq⟩ := hrel
    have HQ := Lib.hid hq
    have q1 : wr.cell? ⟨bs, 1, none⟩ = some (.slice s.bo nb s.bc) := by rw [← HNB.out]; exact cell_blk hq.2.1 1
    clear hq
    by_cases hlt : i < nb
    · obtain ⟨d, hd⟩ : ∃ d, d = bodies[i]'(by have := HNBE.out; omega) := ⟨_, rfl⟩
      obtain ⟨bg, boff, hbo, hbg, hbc⟩ := (HRD.out.fr HQ.out.2.2 (by simp)).at (by have := HNBE.out; omega)
      have hcx : ∀ j, j < 9 → wr.cell? ⟨bg, boff + i * 9 + j, none⟩ = (d.cells)[j]? := fun j hj => by
        rw [Nat.add_assoc, hbc _ (by have := HNBE.out; omega), Bd.flat_get bodies i j (by have := HNBE.out; omega) hj, hd]
      have k0 : wr.cell? ⟨bg, boff + i * 9, none⟩ = some (.int .i64 d.rad) := hcx 0 (by omega)
      have k1 : wr.cell? ⟨bg, boff + i * 9 + 1, none⟩ = some (.slice d.po d.pn d.pc) := hcx 1 (by omega)
      have k2 : wr.cell? ⟨bg, boff + i * 9 + 2, none⟩ = some (.int .i64 d.px) := hcx 2 (by omega)
      have k3 : wr.cell? ⟨bg, boff + i * 9 + 3, none⟩ = some (.int .i64 d.py) := hcx 3 (by omega)
      have k4 : wr.cell? ⟨bg, boff + i * 9 + 4, none⟩ = some (.int .i64 d.vx) := hcx 4 (by omega)
      have k5 : wr.cell? ⟨bg, boff + i * 9 + 5, none⟩ = some (.int .i64 d.vy) := hcx 5 (by omega)
      have k6 : wr.cell? ⟨bg, boff + i * 9 + 6, none⟩ = some (.int .i64 d.im) := hcx 6 (by omega)
      have k7 : wr.cell? ⟨bg, boff + i * 9 + 7, none⟩ = some (.int .i64 d.a) := hcx 7 (by omega)
      have k8 : wr.cell? ⟨bg, boff + i * 9 + 8, none⟩ = some (.int .i64 d.b) := hcx 8 (by omega)
      obtain ⟨b, hbe⟩ : ∃ b, b = 48 + 4 * pl + 8 * i := ⟨_, rfl⟩
      have HB := Lib.hid (fun u => HBD.out u i hlt b hbe)
      have HBO := Lib.hid hbo
      have HDE := Lib.hid hd
      have HBE := Lib.hid hbe
      obtain ⟨m, hm⟩ : ∃ m, m = n - b := ⟨_, rfl⟩
      have hm8 : 8 ≤ m := by have := HNE.out; have := HNBE.out; omega
      have HM8 := Lib.hid hm8
      have hbsw : bs < wr.heap.size := lt_of_blk HQ.out.2.1
      have B0 := Lib.hid HQ.out.2.1
      clear hcx hbc hd hbe hm hm8 hp0 hp1
      rw [hbo] at B0 HB q1 ⊢
      clear hbo
      go_wp2_with (refine wpList_loadB rfl 31 (Operand.tmp 1) rfl bs 16 rfl #[.int .i64 s.players, .slice (some ⟨bg, boff, none⟩) s.nb s.bc, .int .i64 s.x0, .int .i64 s.y0, .int .i64 s.x1, .int .i64 s.y1, .slice s.ro s.rn s.rc, .slice s.dO s.dn s.dc, .int .i64 s.fog, .int .i64 s.gx, .int .i64 s.gy, .int .i64 s.push, .int .i64 s.drag, .int .i64 s.rest, .int .i64 s.rounds, .int .i64 s.fuel] 31 (0, 0) (by exact B0.out) _ Try.underlying31 rfl rfl infoSetup ?_)
      refine (HB.out _).mono ?_
      rintro e w6 ⟨rfl, f6⟩
      have R6 := Lib.hid (f6.blk HQ.out.1 (by simp))
      have S6 := Lib.hid (f6.blk HQ.out.2.1 (by simp))
      have F6 := Lib.hid (HQ.out.2.2.trans f6 (by simp [Ext]))
      have hil := initK_len pl bodies i (by have := HNBE.out; omega)
      have hbn : b + 8 ≤ (initK pl bodies i).length := by rw [hil]; have := HBE.out; have := HNBE.out; omega
      have g1 : w6.cell? ⟨bs, 1, none⟩ = some (.slice (some ⟨bg, boff, none⟩) nb s.bc) := (World.cell?_of_block (a := ⟨bs, 1, none⟩) (f6.block bs hbsw (by simp))).trans q1
      have hbgw : bg < wr.heap.size := hbg
      have l0 : w6.cell? ⟨bg, boff + i * 9, none⟩ = some (.int .i64 d.rad) := (World.cell?_of_block (a := ⟨bg, boff + i * 9, none⟩) (f6.block bg hbgw (by simp))).trans k0
      have l1 : w6.cell? ⟨bg, boff + i * 9 + 1, none⟩ = some (.slice d.po d.pn d.pc) := (World.cell?_of_block (a := ⟨bg, boff + i * 9 + 1, none⟩) (f6.block bg hbgw (by simp))).trans k1
      have l2 : w6.cell? ⟨bg, boff + i * 9 + 2, none⟩ = some (.int .i64 d.px) := (World.cell?_of_block (a := ⟨bg, boff + i * 9 + 2, none⟩) (f6.block bg hbgw (by simp))).trans k2
      have l3 : w6.cell? ⟨bg, boff + i * 9 + 3, none⟩ = some (.int .i64 d.py) := (World.cell?_of_block (a := ⟨bg, boff + i * 9 + 3, none⟩) (f6.block bg hbgw (by simp))).trans k3
      have l4 : w6.cell? ⟨bg, boff + i * 9 + 4, none⟩ = some (.int .i64 d.vx) := (World.cell?_of_block (a := ⟨bg, boff + i * 9 + 4, none⟩) (f6.block bg hbgw (by simp))).trans k4
      have l5 : w6.cell? ⟨bg, boff + i * 9 + 5, none⟩ = some (.int .i64 d.vy) := (World.cell?_of_block (a := ⟨bg, boff + i * 9 + 5, none⟩) (f6.block bg hbgw (by simp))).trans k5
      have l6 : w6.cell? ⟨bg, boff + i * 9 + 6, none⟩ = some (.int .i64 d.im) := (World.cell?_of_block (a := ⟨bg, boff + i * 9 + 6, none⟩) (f6.block bg hbgw (by simp))).trans k6
      have l7 : w6.cell? ⟨bg, boff + i * 9 + 7, none⟩ = some (.int .i64 d.a) := (World.cell?_of_block (a := ⟨bg, boff + i * 9 + 7, none⟩) (f6.block bg hbgw (by simp))).trans k7
      have l8 : w6.cell? ⟨bg, boff + i * 9 + 8, none⟩ = some (.int .i64 d.b) := (World.cell?_of_block (a := ⟨bg, boff + i * 9 + 8, none⟩) (f6.block bg hbgw (by simp))).trans k8
      obtain ⟨x0, y0⟩ : ∃ x, w6.cell? ⟨bu, b, none⟩ = some x := ⟨_, row_cell R6.out (by omega)⟩
      obtain ⟨x1, y1⟩ : ∃ x, w6.cell? ⟨bu, b + 1, none⟩ = some x := ⟨_, row_cell R6.out (by omega)⟩
      obtain ⟨x2, y2⟩ : ∃ x, w6.cell? ⟨bu, b + 2, none⟩ = some x := ⟨_, row_cell R6.out (by omega)⟩
      obtain ⟨x3, y3⟩ : ∃ x, w6.cell? ⟨bu, b + 3, none⟩ = some x := ⟨_, row_cell R6.out (by omega)⟩
      obtain ⟨x4, y4⟩ : ∃ x, w6.cell? ⟨bu, b + 4, none⟩ = some x := ⟨_, row_cell R6.out (by omega)⟩
      obtain ⟨x5, y5⟩ : ∃ x, w6.cell? ⟨bu, b + 5, none⟩ = some x := ⟨_, row_cell R6.out (by omega)⟩
      have yf : ∀ j, w6.frozen? ⟨bu, j, none⟩ = false := fun j => row_frozen R6.out j
      have hbN : b + 8 ≤ n := by have := HM8.out; have := HNE.out; have := HBE.out; have := HNBE.out; omega
      have hb0 : (b : Int) < (n : Int) := by omega
      have hb1 : (b : Int) + 1 < (n : Int) := by omega
      have hb2 : (b : Int) + 2 < (n : Int) := by omega
      have hb3 : (b : Int) + 3 < (n : Int) := by omega
      have hb4 : (b : Int) + 4 < (n : Int) := by omega
      have hb5 : (b : Int) + 5 < (n : Int) := by omega
      have hbuw : bu < w6.heap.size := lt_of_blk R6.out
      clear f6 k0 k1 k2 k3 k4 k5 k6 k7 k8 hil hbn q1
      go_wp2_with fail
      obtain ⟨w9, hw9⟩ : ∃ x, x = ((((((w6.setCell ⟨bu, b, none⟩ (.int .i64 d.px)).setCell ⟨bu, b + 1, none⟩ (.int .i64 d.py)).setCell ⟨bu, b + 2, none⟩ (.int .i64 d.vx)).setCell ⟨bu, b + 3, none⟩ (.int .i64 d.vy)).setCell ⟨bu, b + 4, none⟩ (.int .i64 d.a)).setCell ⟨bu, b + 5, none⟩ (.int .i64 d.b)) := ⟨_, rfl⟩
      rw [← hw9]
      have R9 := Lib.hid (by rw [hw9]; exact (row_set (row_set (row_set (row_set (row_set (row_set R6.out (b) d.px) (b + 1) d.py) (b + 2) d.vx) (b + 3) d.vy) (b + 4) d.a) (b + 5) d.b) : w9.heap[bu]? = some (row ((((((initK pl bodies i).set b d.px).set (b + 1) d.py).set (b + 2) d.vx).set (b + 3) d.vy).set (b + 4) d.a |>.set (b + 5) d.b)))
      have S9 := Lib.hid ((by rw [hw9]; exact (setCell_ne (by simpa using hne)).trans ((setCell_ne (by simpa using hne)).trans ((setCell_ne (by simpa using hne)).trans ((setCell_ne (by simpa using hne)).trans ((setCell_ne (by simpa using hne)).trans (setCell_ne (by simpa using hne)))))) : w9.heap[bs]? = w6.heap[bs]?).trans S6.out)
      have F9 := Lib.hid (by rw [hw9]; exact ((((((F6.out.setCell (p := ⟨bu, b, none⟩) (.inr hbw) _).setCell (p := ⟨bu, b + 1, none⟩) (.inr hbw) _).setCell (p := ⟨bu, b + 2, none⟩) (.inr hbw) _).setCell (p := ⟨bu, b + 3, none⟩) (.inr hbw) _).setCell (p := ⟨bu, b + 4, none⟩) (.inr hbw) _).setCell (p := ⟨bu, b + 5, none⟩) (.inr hbw) _) : Fr [] w w9)
      clear hw9
      go_roundw
      case rel =>
        refine ⟨i + 1, by omega, by go_num, ?_, ?_, F9.out.alloc _⟩
        · have h := alloc_old (o' := .cells #[.int .i64 d.rad, .slice d.po d.pn d.pc, .int .i64 d.px, .int .i64 d.py, .int .i64 d.vx, .int .i64 d.vy, .int .i64 d.im, .int .i64 d.a, .int .i64 d.b] 75) R9.out
          rw [initK_step pl bodies i (by have := HNBE.out; omega) b HBE.out d HDE.out] at h
          exact h
        · have h := alloc_old (o' := .cells #[.int .i64 d.rad, .slice d.po d.pn d.pc, .int .i64 d.px, .int .i64 d.py, .int .i64 d.vx, .int .i64 d.vy, .int .i64 d.im, .int .i64 d.a, .int .i64 d.b] 75) S9.out
          exact h
      case measure => simp [intOf]; omega
    · have hie : i = bodies.length := by have := HNBE.out; omega
      have HIE := Lib.hid hie
      clear hie
      go_wp2_with fail
      go_ret
      refine ⟨bu, rfl, hbw, ?_, HQ.out.2.2⟩
      unfold initL
      rw [← HIE.out]
      exact HQ.out.1
end Go.Proofs.Ytdbngpncigjfiaa
