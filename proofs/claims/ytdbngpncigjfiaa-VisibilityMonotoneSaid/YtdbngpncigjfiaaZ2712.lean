/- Initial, Initial2, InitialL, Cells27 (merged by merge.py). -/
import Derived.BigRegion
import Derived.Test.YtdbngpncigjfiaaZ277
import Derived.Test.YtdbngpncigjfiaaZ2711
import Derived.Deep.DeepCutAuto
/- Package layout: Initial. -/
namespace Go.Proofs.Ytdbngpncigjfiaa
open Go.RowKit

def bodyRow (d : Bd) : List Int := [d.px, d.py, d.vx, d.vy, d.a, d.b, 0, 0]
def initK (pl : Nat) (bodies : List Bd) (i : Nat) : List Int := (List.replicate (48 + 4 * pl) 0 ++ (bodies.take i).flatMap bodyRow) ++ List.replicate (8 * (bodies.length - i)) 0
def initL (pl : Nat) (bodies : List Bd) : List Int := initK pl bodies bodies.length

theorem rows_len (l : List Bd) : (l.flatMap bodyRow).length = 8 * l.length := by
  induction l with
  | nil => rfl
  | cons d l ih => rw [List.flatMap_cons, List.length_append, ih]; simp [bodyRow]; omega
theorem initK_len (pl : Nat) (bodies : List Bd) (i : Nat) (hi : i ≤ bodies.length) : (initK pl bodies i).length = 48 + 4 * pl + 8 * bodies.length := by
  unfold initK
  rw [List.length_append, List.length_append, rows_len, List.length_take]
  simp; omega
theorem initK_zero (pl : Nat) (bodies : List Bd) : initK pl bodies 0 = List.replicate (48 + 4 * pl + 8 * bodies.length) 0 := by
  unfold initK
  simp only [List.take_zero, List.flatMap_nil, List.append_nil, Nat.sub_zero]
  rw [List.replicate_append_replicate]
theorem set_far (A L : List Int) (j : Nat) (x : Int) : (A ++ L).set (A.length + j) x = A ++ L.set j x := by
  rw [List.set_append_right _ _ (by omega)]; congr 2; omega
theorem initK_head (pl : Nat) (bodies : List Bd) (i : Nat) (hi : i < bodies.length) : (List.replicate (48 + 4 * pl) (0 : Int) ++ (bodies.take i).flatMap bodyRow).length = 48 + 4 * pl + 8 * i := by
  rw [List.length_append, rows_len, List.length_take]; simp; omega
theorem initK_step (pl : Nat) (bodies : List Bd) (i : Nat) (hi : i < bodies.length) (b : Nat) (hb : b = 48 + 4 * pl + 8 * i) (d : Bd) (hd : d = bodies[i]) :
    ((((((initK pl bodies i).set b d.px).set (b + 1) d.py).set (b + 2) d.vx).set (b + 3) d.vy).set (b + 4) d.a).set (b + 5) d.b = initK pl bodies (i + 1) := by
  have hl := initK_head pl bodies i hi
  unfold initK
  rw [List.take_succ_eq_append_getElem hi, List.flatMap_append, ← hd]
  obtain ⟨A, hA⟩ : ∃ A, A = List.replicate (48 + 4 * pl) (0 : Int) ++ (bodies.take i).flatMap bodyRow := ⟨_, rfl⟩
  rw [← List.append_assoc, ← hA]
  rw [← hA] at hl
  rw [hb, ← hl, show 8 * (bodies.length - i) = 8 * (bodies.length - (i + 1)) + 1 + 1 + 1 + 1 + 1 + 1 + 1 + 1 by omega]
  simp only [List.replicate_succ]
  have h0 : ∀ L x, (A ++ L).set A.length x = A ++ L.set 0 x := fun L x => by have h := set_far A L 0 x; rwa [Nat.add_zero] at h
  simp only [h0, set_far]
  simp [bodyRow]

theorem Bd.flat_get (bodies : List Bd) (k j : Nat) (hk : k < bodies.length) (hj : j < 9) : (bodies.flatMap Bd.cells)[k * 9 + j]? = ((bodies[k]).cells)[j]? := by
  induction bodies generalizing k with
  | nil => simp at hk
  | cons d l ih =>
    rw [List.flatMap_cons]
    cases k with
    | zero => rw [List.getElem?_append_left (by simp [Bd.cells]; omega)]; simp
    | succ k =>
      rw [List.getElem?_append_right (by simp [Bd.cells]; omega)]
      have h := ih k (by simpa using hk)
      rw [show (k + 1) * 9 + j - d.cells.length = k * 9 + j by simp [Bd.cells]; omega]
      simpa using h

/-- the bodies as far as i are laid -/
def InitQ (w : World) (s : St) (pl : Nat) (bodies : List Bd) (bs bu i : Nat) (wr : World) : Prop :=
  wr.heap[bu]? = some (row (initK pl bodies i)) ∧ wr.heap[bs]? = some (.cells #[.int .i64 s.players, .slice s.bo s.nb s.bc, .int .i64 s.x0, .int .i64 s.y0, .int .i64 s.x1, .int .i64 s.y1, .slice s.ro s.rn s.rc, .slice s.dO s.dn s.dc, .int .i64 s.fog, .int .i64 s.gx, .int .i64 s.gy, .int .i64 s.push, .int .i64 s.drag, .int .i64 s.rest, .int .i64 s.rounds, .int .i64 s.fuel] 31 (0, 0)) ∧ Fr [] w wr

end Go.Proofs.Ytdbngpncigjfiaa
/- The reference's Initial. -/
namespace Go.Proofs.Ytdbngpncigjfiaa
open Go.RowKit

set_option maxRecDepth 100000 in
set_option maxHeartbeats 8000000 in
theorem rinitial_any (w : World) (s : St) (bodies : List Bd) (hok : s.Ok) (pl : Nat) (hpl : s.players = (pl : Int)) (hp3 : pl ≤ 1000) (hbd : BodiesAt w s bodies) (h5 : bodies.length ≤ 1000) :
    Calls Try.prog 37 #[s.val] w fun e w' => ∃ b, e = .returned (.slice (some ⟨b, 0, none⟩) (48 + 4 * pl + 8 * bodies.length) (48 + 4 * pl + 8 * bodies.length)) ∧ w.heap.size ≤ b ∧ RowNew w b (initL pl bodies) w' := by
  obtain ⟨n, hn⟩ : ∃ n, n = 48 + 4 * pl + 8 * bodies.length := ⟨_, rfl⟩
  have hnb : s.nb = bodies.length := hbd.nb
  obtain ⟨nb, hnbe⟩ : ∃ nb, nb = bodies.length := ⟨_, rfl⟩
  have HSZ := Lib.hid (fun (u : World) => (by have h := rsize_any u s hok; rw [show szOf s = (n : Int) by unfold szOf; rw [hpl, hn, hnb]; omega] at h; exact h : Calls Try.prog 49 #[s.val] u fun e w' => e = .returned (.int .i64 (n : Int)) ∧ Fr [] u w'))
  have HBD := Lib.hid (fun (u : World) (p : Nat) (hp : p < nb) (a : Nat) (ha : a = 48 + 4 * pl + 8 * p) => (by have h := rbody_any u s hok (p : Int); rw [show bdOf s (p : Int) = (a : Int) by unfold bdOf; rw [if_neg (by rw [hnb, ← hnbe]; omega), hpl]; omega] at h; exact h : Calls Try.prog 38 #[s.val, .int .i64 (p : Int)] u fun e w' => e = .returned (.int .i64 (a : Int)) ∧ Fr [] u w'))
  have HRD := Lib.hid hbd.rd
  have hmk := make_ints n (by omega)
  have hn1 : n ≤ 20000 := by omega
  have HNE := Lib.hid hn
  have HNBE := Lib.hid hnbe
  have hp0 : decide (s.players < 0) = false := decide_eq_false (by omega)
  have hp1 : decide (1048576 < s.players) = false := decide_eq_false (by omega)
  have hnb1 : nb ≤ 1000 := by omega
  rw [← hn]
  have HNB := Lib.hid (hnb.trans hnbe.symm)
  have HPL := Lib.hid hpl
  clear hbd hn hnb hpl hok hnbe
  unfold St.val at HSZ HBD ⊢
  go_enter Try.func37, Try.ntmps37
  go_wp2_with fail
  refine (HSZ.out _).mono ?_
  rintro e w1 ⟨rfl, f1⟩
  obtain ⟨bs, hbs⟩ : ∃ bs, bs = w.heap.size := ⟨_, rfl⟩
  rw [← hbs]
  have hb1 := f1.blk (alloc_new w _) (by simp)
  have F1 := Lib.hid (((Fr.refl [] w).alloc _).trans f1 (by simp [Ext]))
  obtain ⟨bu, hbu⟩ : ∃ bu, bu = w1.heap.size := ⟨_, rfl⟩
  have hq : InitQ w s pl bodies bs bu 0 (w1.alloc (row (List.replicate n 0))) := ⟨by rw [initK_zero, ← HNE.out, hbu]; exact alloc_new _ _, by rw [hbs]; exact alloc_old hb1, F1.out.alloc _⟩
  have hne : bs ≠ bu := by have := lt_of_blk hb1; omega
  have hbw : w.heap.size ≤ bu := by have := F1.out.size; omega
  have hsz : w.heap.size ≤ bs := by omega
  have q1 : w1.cell? ⟨bs, 1, none⟩ = some (.slice s.bo s.nb s.bc) := by rw [hbs]; exact cell_blk hb1 1
  have hbsl : bs < w1.heap.size := by have := lt_of_blk hb1; omega
  have HQ := Lib.hid hq
  have HBU := Lib.hid hbu
  have hnbN := HNB.out
  clear hb1 f1 hbs hq hbu
  rw [hnbN] at q1
  clear hnbN
  go_wp2_with fail
  rw [← HBU.out]
  go_loopw [4] (fun iv wr => ∃ i : Nat, i ≤ nb ∧ iv = .int .i64 (i : Int) ∧ InitQ w s pl bodies bs bu i wr) (fun iv _ => nb - (intOf iv).toNat)
  case atStart => exact ⟨0, by omega, rfl, HQ.out⟩
  case round =>
    clear HQ q1 hbsl
    obtain ⟨i, hi, rfl, hq⟩ := hrel
    have HQ := Lib.hid hq
    have q1 : wr.cell? ⟨bs, 1, none⟩ = some (.slice s.bo nb s.bc) := by rw [← HNB.out]; exact cell_blk hq.2.1 1
    clear hq
    by_cases hlt : i < nb
    · obtain ⟨d, hd⟩ : ∃ d, d = bodies[i]'(by have := HNBE.out; omega) := ⟨_, rfl⟩
      obtain ⟨bg, boff, hbo, hbg, hbc⟩ := (HRD.out.fr HQ.out.2.2 (by simp)).at (by have := HNBE.out; omega)
      have hcx : ∀ j, j < 9 → wr.cell? ⟨bg, boff + i * 9 + j, none⟩ = (d.cells)[j]? := fun j hj => by
        rw [Nat.add_assoc, hbc _ (by have := HNBE.out; omega), Bd.flat_get bodies i j (by have := HNBE.out; omega) hj, hd]
      have k0 : wr.cell? ⟨bg, boff + i * 9, none⟩ = some (.int .i64 d.rad) := hcx 0 (by omega)
      have k1 : wr.cell? ⟨bg, boff + i * 9 + 1, none⟩ = some (.slice d.po d.pn d.pc) := hcx 1 (by omega)
      have k2 : wr.cell? ⟨bg, boff + i * 9 + 2, none⟩ = some (.int .i64 d.px) := hcx 2 (by omega)
      have k3 : wr.cell? ⟨bg, boff + i * 9 + 3, none⟩ = some (.int .i64 d.py) := hcx 3 (by omega)
      have k4 : wr.cell? ⟨bg, boff + i * 9 + 4, none⟩ = some (.int .i64 d.vx) := hcx 4 (by omega)
      have k5 : wr.cell? ⟨bg, boff + i * 9 + 5, none⟩ = some (.int .i64 d.vy) := hcx 5 (by omega)
      have k6 : wr.cell? ⟨bg, boff + i * 9 + 6, none⟩ = some (.int .i64 d.im) := hcx 6 (by omega)
      have k7 : wr.cell? ⟨bg, boff + i * 9 + 7, none⟩ = some (.int .i64 d.a) := hcx 7 (by omega)
      have k8 : wr.cell? ⟨bg, boff + i * 9 + 8, none⟩ = some (.int .i64 d.b) := hcx 8 (by omega)
      obtain ⟨b, hbe⟩ : ∃ b, b = 48 + 4 * pl + 8 * i := ⟨_, rfl⟩
      have HB := Lib.hid (fun u => HBD.out u i hlt b hbe)
      have HBO := Lib.hid hbo
      have HDE := Lib.hid hd
      have HBE := Lib.hid hbe
      obtain ⟨m, hm⟩ : ∃ m, m = n - b := ⟨_, rfl⟩
      have hm8 : 8 ≤ m := by have := HNE.out; have := HNBE.out; omega
      have HM8 := Lib.hid hm8
      have hbsw : bs < wr.heap.size := lt_of_blk HQ.out.2.1
      have B0 := Lib.hid HQ.out.2.1
      clear hcx hbc hd hbe hm hm8 hp0 hp1
      rw [hbo] at B0 HB q1 ⊢
      clear hbo
      go_wp2_with (refine wpList_loadB rfl 31 (Operand.tmp 1) rfl bs 16 rfl #[.int .i64 s.players, .slice (some ⟨bg, boff, none⟩) s.nb s.bc, .int .i64 s.x0, .int .i64 s.y0, .int .i64 s.x1, .int .i64 s.y1, .slice s.ro s.rn s.rc, .slice s.dO s.dn s.dc, .int .i64 s.fog, .int .i64 s.gx, .int .i64 s.gy, .int .i64 s.push, .int .i64 s.drag, .int .i64 s.rest, .int .i64 s.rounds, .int .i64 s.fuel] 31 (0, 0) (by exact B0.out) _ Try.underlying31 rfl rfl infoSetup ?_)
      refine (HB.out _).mono ?_
      rintro e w6 ⟨rfl, f6⟩
      have R6 := Lib.hid (f6.blk HQ.out.1 (by simp))
      have S6 := Lib.hid (f6.blk HQ.out.2.1 (by simp))
      have F6 := Lib.hid (HQ.out.2.2.trans f6 (by simp [Ext]))
      have hil := initK_len pl bodies i (by have := HNBE.out; omega)
      have hbn : b + 8 ≤ (initK pl bodies i).length := by rw [hil]; have := HBE.out; have := HNBE.out; omega
      have g1 : w6.cell? ⟨bs, 1, none⟩ = some (.slice (some ⟨bg, boff, none⟩) nb s.bc) := (World.cell?_of_block (a := ⟨bs, 1, none⟩) (f6.block bs hbsw (by simp))).trans q1
      have hbgw : bg < wr.heap.size := hbg
      have l0 : w6.cell? ⟨bg, boff + i * 9, none⟩ = some (.int .i64 d.rad) := (World.cell?_of_block (a := ⟨bg, boff + i * 9, none⟩) (f6.block bg hbgw (by simp))).trans k0
      have l1 : w6.cell? ⟨bg, boff + i * 9 + 1, none⟩ = some (.slice d.po d.pn d.pc) := (World.cell?_of_block (a := ⟨bg, boff + i * 9 + 1, none⟩) (f6.block bg hbgw (by simp))).trans k1
      have l2 : w6.cell? ⟨bg, boff + i * 9 + 2, none⟩ = some (.int .i64 d.px) := (World.cell?_of_block (a := ⟨bg, boff + i * 9 + 2, none⟩) (f6.block bg hbgw (by simp))).trans k2
      have l3 : w6.cell? ⟨bg, boff + i * 9 + 3, none⟩ = some (.int .i64 d.py) := (World.cell?_of_block (a := ⟨bg, boff + i * 9 + 3, none⟩) (f6.block bg hbgw (by simp))).trans k3
      have l4 : w6.cell? ⟨bg, boff + i * 9 + 4, none⟩ = some (.int .i64 d.vx) := (World.cell?_of_block (a := ⟨bg, boff + i * 9 + 4, none⟩) (f6.block bg hbgw (by simp))).trans k4
      have l5 : w6.cell? ⟨bg, boff + i * 9 + 5, none⟩ = some (.int .i64 d.vy) := (World.cell?_of_block (a := ⟨bg, boff + i * 9 + 5, none⟩) (f6.block bg hbgw (by simp))).trans k5
      have l6 : w6.cell? ⟨bg, boff + i * 9 + 6, none⟩ = some (.int .i64 d.im) := (World.cell?_of_block (a := ⟨bg, boff + i * 9 + 6, none⟩) (f6.block bg hbgw (by simp))).trans k6
      have l7 : w6.cell? ⟨bg, boff + i * 9 + 7, none⟩ = some (.int .i64 d.a) := (World.cell?_of_block (a := ⟨bg, boff + i * 9 + 7, none⟩) (f6.block bg hbgw (by simp))).trans k7
      have l8 : w6.cell? ⟨bg, boff + i * 9 + 8, none⟩ = some (.int .i64 d.b) := (World.cell?_of_block (a := ⟨bg, boff + i * 9 + 8, none⟩) (f6.block bg hbgw (by simp))).trans k8
      obtain ⟨x0, y0⟩ : ∃ x, w6.cell? ⟨bu, b, none⟩ = some x := ⟨_, row_cell R6.out (by omega)⟩
      obtain ⟨x1, y1⟩ : ∃ x, w6.cell? ⟨bu, b + 1, none⟩ = some x := ⟨_, row_cell R6.out (by omega)⟩
      obtain ⟨x2, y2⟩ : ∃ x, w6.cell? ⟨bu, b + 2, none⟩ = some x := ⟨_, row_cell R6.out (by omega)⟩
      obtain ⟨x3, y3⟩ : ∃ x, w6.cell? ⟨bu, b + 3, none⟩ = some x := ⟨_, row_cell R6.out (by omega)⟩
      obtain ⟨x4, y4⟩ : ∃ x, w6.cell? ⟨bu, b + 4, none⟩ = some x := ⟨_, row_cell R6.out (by omega)⟩
      obtain ⟨x5, y5⟩ : ∃ x, w6.cell? ⟨bu, b + 5, none⟩ = some x := ⟨_, row_cell R6.out (by omega)⟩
      have yf : ∀ j, w6.frozen? ⟨bu, j, none⟩ = false := fun j => row_frozen R6.out j
      have hbN : b + 8 ≤ n := by have := HM8.out; have := HNE.out; have := HBE.out; have := HNBE.out; omega
      have hb0 : (b : Int) < (n : Int) := by omega
      have hb1 : (b : Int) + 1 < (n : Int) := by omega
      have hb2 : (b : Int) + 2 < (n : Int) := by omega
      have hb3 : (b : Int) + 3 < (n : Int) := by omega
      have hb4 : (b : Int) + 4 < (n : Int) := by omega
      have hb5 : (b : Int) + 5 < (n : Int) := by omega
      have hbuw : bu < w6.heap.size := lt_of_blk R6.out
      clear f6 k0 k1 k2 k3 k4 k5 k6 k7 k8 hil hbn q1
      go_wp2_with fail
      obtain ⟨w9, hw9⟩ : ∃ x, x = ((((((w6.setCell ⟨bu, b, none⟩ (.int .i64 d.px)).setCell ⟨bu, b + 1, none⟩ (.int .i64 d.py)).setCell ⟨bu, b + 2, none⟩ (.int .i64 d.vx)).setCell ⟨bu, b + 3, none⟩ (.int .i64 d.vy)).setCell ⟨bu, b + 4, none⟩ (.int .i64 d.a)).setCell ⟨bu, b + 5, none⟩ (.int .i64 d.b)) := ⟨_, rfl⟩
      rw [← hw9]
      have R9 := Lib.hid (by rw [hw9]; exact (row_set (row_set (row_set (row_set (row_set (row_set R6.out (b) d.px) (b + 1) d.py) (b + 2) d.vx) (b + 3) d.vy) (b + 4) d.a) (b + 5) d.b) : w9.heap[bu]? = some (row ((((((initK pl bodies i).set b d.px).set (b + 1) d.py).set (b + 2) d.vx).set (b + 3) d.vy).set (b + 4) d.a |>.set (b + 5) d.b)))
      have S9 := Lib.hid ((by rw [hw9]; exact (setCell_ne (by simpa using hne)).trans ((setCell_ne (by simpa using hne)).trans ((setCell_ne (by simpa using hne)).trans ((setCell_ne (by simpa using hne)).trans ((setCell_ne (by simpa using hne)).trans (setCell_ne (by simpa using hne)))))) : w9.heap[bs]? = w6.heap[bs]?).trans S6.out)
      have F9 := Lib.hid (by rw [hw9]; exact ((((((F6.out.setCell (p := ⟨bu, b, none⟩) (.inr hbw) _).setCell (p := ⟨bu, b + 1, none⟩) (.inr hbw) _).setCell (p := ⟨bu, b + 2, none⟩) (.inr hbw) _).setCell (p := ⟨bu, b + 3, none⟩) (.inr hbw) _).setCell (p := ⟨bu, b + 4, none⟩) (.inr hbw) _).setCell (p := ⟨bu, b + 5, none⟩) (.inr hbw) _) : Fr [] w w9)
      clear hw9
      go_roundw
      case rel =>
        refine ⟨i + 1, by omega, by go_num, ?_, ?_, F9.out.alloc _⟩
        · have h := alloc_old (o' := .cells #[.int .i64 d.rad, .slice d.po d.pn d.pc, .int .i64 d.px, .int .i64 d.py, .int .i64 d.vx, .int .i64 d.vy, .int .i64 d.im, .int .i64 d.a, .int .i64 d.b] 75) R9.out
          rw [initK_step pl bodies i (by have := HNBE.out; omega) b HBE.out d HDE.out] at h
          exact h
        · have h := alloc_old (o' := .cells #[.int .i64 d.rad, .slice d.po d.pn d.pc, .int .i64 d.px, .int .i64 d.py, .int .i64 d.vx, .int .i64 d.vy, .int .i64 d.im, .int .i64 d.a, .int .i64 d.b] 75) S9.out
          exact h
      case measure => simp [intOf]; omega
    · have hie : i = bodies.length := by have := HNBE.out; omega
      have HIE := Lib.hid hie
      clear hie
      go_wp2_with fail
      go_ret
      refine ⟨bu, rfl, hbw, ?_, HQ.out.2.2⟩
      unfold initL
      rw [← HIE.out]
      exact HQ.out.1
end Go.Proofs.Ytdbngpncigjfiaa
/- What Motion reads from the initial cells. -/
namespace Go.Proofs.Ytdbngpncigjfiaa
open Go.RowKit

theorem rows_get (l : List Bd) (i j : Nat) (hi : i < l.length) (hj : j < 8) : (l.flatMap bodyRow)[8 * i + j]? = (bodyRow l[i])[j]? := by
  induction l generalizing i with
  | nil => simp at hi
  | cons d l ih =>
    rw [List.flatMap_cons]
    cases i with
    | zero => rw [List.getElem?_append_left (by simp [bodyRow]; omega)]; simp
    | succ i =>
      rw [List.getElem?_append_right (by simp [bodyRow]; omega), show 8 * (i + 1) + j - (bodyRow d).length = 8 * i + j by simp [bodyRow]; omega]
      have h := ih i (by simpa using hi)
      simpa using h

theorem initL_get (pl : Nat) (bodies : List Bd) (i j : Nat) (hi : i < bodies.length) (hj : j < 8) : (initL pl bodies)[48 + 4 * pl + 8 * i + j]? = (bodyRow bodies[i])[j]? := by
  unfold initL initK
  rw [List.take_length, Nat.sub_self, Nat.mul_zero, List.replicate_zero, List.append_nil, List.getElem?_append_right (by simp; omega), List.length_replicate, show 48 + 4 * pl + 8 * i + j - (48 + 4 * pl) = 8 * i + j by omega]
  exact rows_get bodies i j hi hj

theorem initL_len (pl : Nat) (bodies : List Bd) : (initL pl bodies).length = 48 + 4 * pl + 8 * bodies.length := initK_len pl bodies _ (Nat.le_refl _)

/-- the motion of a body, read from the initial cells, is the setup's -/
theorem mot_init (s : St) (pl : Nat) (hpl : s.players = (pl : Int)) (bodies : List Bd) (hnb : s.nb = bodies.length) (i : Nat) (hi : i < bodies.length) : motOf s bodies (initL pl bodies) (i : Int) = (bodies[i]).motion := by
  have hin : motIn s (initL pl bodies) (i : Int) := ⟨by omega, by rw [hnb]; omega, by rw [initL_len, hpl]; omega⟩
  have hb : (48 + 4 * s.players + 8 * (i : Int)).toNat = 48 + 4 * pl + 8 * i := by rw [hpl]; omega
  have g : ∀ j, j < 8 → (initL pl bodies).getD (48 + 4 * pl + 8 * i + j) 0 = ((bodyRow bodies[i])[j]?).getD 0 := fun j hj => by
    rw [List.getD_eq_getElem?_getD, initL_get pl bodies i j hi hj]
  have g0 := g 0 (by omega)
  have g1 := g 1 (by omega)
  have g2 := g 2 (by omega)
  have g3 := g 3 (by omega)
  simp only [Nat.add_zero] at g0
  unfold motOf
  rw [if_pos hin, Int.toNat_natCast]
  unfold motL
  simp only [hb, g0, g1, g2, g3]
  have hm : (bodies.map (·.im)).getD i 0 = (bodies[i]).im := by rw [List.getD_eq_getElem?_getD, List.getElem?_map, List.getElem?_eq_getElem hi]; rfl
  rw [hm]
  rfl
end Go.Proofs.Ytdbngpncigjfiaa
/- Chapter 27's generator: Cells (written by gencells27.py). -/
namespace Go.Proofs.Ytdbngpncigjfiaa
open Go.RowKit

def small (x : Int) : Prop := -2147483648 ≤ x ∧ x ≤ 2147483647
/-- the positions lie in the world's bounds -/
def PosOk (pl nb : Nat) (cells : List Int) : Prop := ∀ i, i < nb → inC (cells.getD (48 + 4 * pl + 8 * i) 0) ∧ inC (cells.getD (48 + 4 * pl + 8 * i + 1) 0)
def Cells27To (w : World) (pl nb n : Nat) (e : Ending) (w' : World) : Prop :=
  ∃ b cells, e = .returned (.slice (some ⟨b, 0, none⟩) n n) ∧ cells.length = n ∧ w'.heap[b]? = some (row cells) ∧ w.heap.size ≤ b ∧ Fr [] w w' ∧ (∀ x ∈ cells, small x) ∧ PosOk pl nb cells

theorem getD_set_ne {l : List Int} {i j : Nat} {v : Int} (h : i ≠ j) : (l.set i v).getD j 0 = l.getD j 0 := by
  rw [List.getD_eq_getElem?_getD, List.getElem?_set_ne h, ← List.getD_eq_getElem?_getD]
theorem getD_set_eq {l : List Int} {i : Nat} {v : Int} (h : i < l.length) : (l.set i v).getD i 0 = v := by
  rw [List.getD_eq_getElem?_getD, List.getElem?_set_self h]; rfl
theorem PosOk.put {pl nb : Nat} {cells : List Int} (h : PosOk pl nb cells) {k : Nat} (hk : k < nb) (hl : cells.length = 48 + 4 * pl + 8 * nb) {x y : Int} (hx : inC x) (hy : inC y) {a : Nat} (ha : a = 48 + 4 * pl + 8 * k) :
    PosOk pl nb ((cells.set a x).set (a + 1) y) := by
  subst ha
  intro i hi
  by_cases e : i = k
  · subst e
    rw [getD_set_ne (by omega), getD_set_eq (by omega), getD_set_eq (by rw [List.length_set]; omega)]
    exact ⟨hx, hy⟩
  · rw [getD_set_ne (by omega), getD_set_ne (by omega), getD_set_ne (by omega), getD_set_ne (by omega)]
    exact h i hi
theorem inC.small {x : Int} (h : inC x) : small x := by unfold inC at h; unfold Go.Proofs.Ytdbngpncigjfiaa.small; omega
theorem small_set {l : List Int} (h : ∀ x ∈ l, small x) (i : Nat) {v : Int} (hv : small v) : ∀ x ∈ l.set i v, small x := fun x hx => by
  rcases List.mem_or_eq_of_mem_set hx with h1 | h1
  · exact h x h1
  · rw [h1]; exact hv
theorem good_small {d : Bd} (h : goodB d) : ∀ x ∈ bodyRow d, small x := by
  unfold goodB bodyB d1 d2 d3 d4 d5 inB at h
  simp at h
  unfold bodyRow small
  intro x hx
  simp at hx
  rcases hx with rfl | rfl | rfl | rfl | rfl | rfl | rfl <;> omega
theorem init_small {pl : Nat} {bodies : List Bd} (h : ∀ d ∈ bodies, goodB d) : ∀ x ∈ initL pl bodies, small x := by
  intro x hx
  unfold initL initK at hx
  rw [List.take_length, Nat.sub_self] at hx
  simp only [Nat.mul_zero, List.replicate_zero, List.append_nil, List.mem_append, List.mem_replicate, List.mem_flatMap] at hx
  rcases hx with h1 | ⟨d, hd, h1⟩
  · rw [h1.2]; unfold small; omega
  · exact good_small (h d hd) x h1
theorem good_pos {d : Bd} (h : goodB d) : inC d.px ∧ inC d.py := by
  unfold goodB bodyB d1 d2 d3 d4 d5 inB at h
  simp at h
  unfold inC
  omega
theorem init_pos {pl : Nat} {bodies : List Bd} (h : ∀ d ∈ bodies, goodB d) : PosOk pl bodies.length (initL pl bodies) := by
  intro i hi
  have h0 := initL_get pl bodies i 0 hi (by omega)
  have h1 := initL_get pl bodies i 1 hi (by omega)
  rw [Nat.add_zero] at h0
  rw [List.getD_eq_getElem?_getD, List.getD_eq_getElem?_getD, h0, h1]
  exact good_pos (h _ (List.getElem_mem hi))

def CInv (wz : World) (bu pl nb n : Nat) (iv : Value) (wr : World) : Prop :=
  ∃ (i : Nat) (cells : List Int), i ≤ nb ∧ iv = .int .i64 (i : Int) ∧ cells.length = n ∧ wr.heap[bu]? = some (row cells) ∧ Fr [bu] wz wr ∧ (∀ x ∈ cells, small x) ∧ PosOk pl nb cells

set_option maxRecDepth 100000 in
set_option maxHeartbeats 16000000 in
theorem cells27_any (w : World) (s : St) (bodies : List Bd) (hok : s.Ok) (pl : Nat) (hpl : s.players = (pl : Int)) (hp3 : pl ≤ 3) (hbd : BodiesAt w s bodies) (h5 : bodies.length ≤ 5) (hgood : ∀ d ∈ bodies, goodB d)
    (lo : Option Addr) (lc : Nat) (l : List Int) (hrd : Rd w 1 lo l.length (ints l)) (hb : ∀ x ∈ l, bounded x) (n : Nat) (hn : n = 48 + 4 * pl + 8 * bodies.length) :
    Calls Try.prog 18 #[s.val, .slice lo l.length lc] w (Cells27To w pl bodies.length n) := by
  have hll : l.length ≤ 9223372036854775807 := by have := hrd.2.1; unfold maxLen at this; omega
  have HRD := Lib.hid hrd
  have HB := Lib.hid hb
  obtain ⟨nb, hnb⟩ : ∃ nb, nb = bodies.length := ⟨_, rfl⟩
  obtain ⟨C, hC⟩ := cAt s
  have HCS := Lib.hid hC.size
  have HC1 := Lib.hid (by rw [hC.c1, hbd.nb, ← hnb] : C[1]? = some (.slice s.bo nb s.bc))
  have HRI := Lib.hid (fun (u : World) (hf : Fr [] w u) => (by
    have h := rinitial_any u s bodies hok pl hpl (by omega) (hbd.old hf) (by omega)
    rw [← hn, hC.val] at h; exact h : Calls Try.prog 37 #[.agg C] u fun e w' => ∃ b, e = .returned (.slice (some ⟨b, 0, none⟩) n n) ∧ u.heap.size ≤ b ∧ RowNew u b (initL pl bodies) w'))
  have HBO := Lib.hid (fun (u : World) (p : Nat) (hp : p < nb) (a : Nat) (ha : a = 48 + 4 * pl + 8 * p) => (by
    have h := rbody_any u s hok (p : Int)
    rw [show bdOf s (p : Int) = (a : Int) by unfold bdOf; rw [if_neg (by rw [hbd.nb, ← hnb]; omega), hpl]; omega, hC.val] at h; exact h : Calls Try.prog 38 #[.agg C, .int .i64 (p : Int)] u fun e w' => e = .returned (.int .i64 (a : Int)) ∧ Fr [] u w'))
  have HL0 := Lib.hid (by rw [hn]; exact initL_len pl bodies : (initL pl bodies).length = n)
  have HSM := Lib.hid (init_small (pl := pl) hgood)
  have HPO := Lib.hid (by rw [hnb]; exact init_pos hgood : PosOk pl nb (initL pl bodies))
  have HN := Lib.hid (by rw [hn, hnb] : n = 48 + 4 * pl + 8 * nb)
  have hn1 : n ≤ 100 := by omega
  have hnb5 : nb ≤ 5 := by omega
  rw [hC.val, ← hnb]
  clear hrd hb hbd hgood hok hpl hC hnb hn h5
  obtain ⟨bx, hbx⟩ : ∃ bx, bx = w.heap.size := ⟨_, rfl⟩
  obtain ⟨wb, hwb⟩ : ∃ wb, wb = w.alloc (.cells C 31) := ⟨_, rfl⟩
  have HBB := Lib.hid (by rw [hwb, hbx]; exact alloc_new w _ : wb.heap[bx]? = some (.cells C 31 (0, 0)))
  have HWB := Lib.hid (by rw [hwb]; exact (Fr.refl [] w).alloc _ : Fr [] w wb)
  have HBX := Lib.hid hbx
  have HWE := Lib.hid hwb
  clear hbx hwb
  go_enter Try.func18, Try.ntmps18
  go_upto_region 1 with (fail)
  rw [← HBX.out, ← HWE.out]
  go_wp2_with (refine wpList_loadB rfl 31 (Operand.tmp 2) rfl bx 16 rfl C 31 (0, 0) HBB.out _ Try.underlying31 rfl HCS.out infoSetup ?_)
  refine (HRI.out wb HWB.out).mono ?_
  rintro e wz ⟨bu, rfl, hbu, hrow, hfz⟩
  have HROW := Lib.hid hrow
  have HFZ := Lib.hid (HWB.out.trans hfz (by simp [Ext]))
  have HBZ := Lib.hid (hfz.blk HBB.out (by simp))
  have hbxu : bx < bu := by have := lt_of_blk HBB.out; omega
  have hwu : w.heap.size ≤ bu := by have := HWB.out.size; omega
  clear hrow hfz hbu
  go_wp2_with fail
  go_loopw [6] (fun iv wr => CInv wz bu pl nb n iv wr) (fun iv _ => nb - (intOf iv).toNat)
  case atStart => exact ⟨0, initL pl bodies, by omega, rfl, HL0.out, HROW.out, Fr.refl _ _, HSM.out, HPO.out⟩
  case round =>
    obtain ⟨i, cells, hi, rfl, hcl, hrow, hf, hsm, hpo⟩ := hrel
    have HCL := Lib.hid hcl
    have HR := Lib.hid hrow
    have HF := Lib.hid hf
    have HS := Lib.hid hsm
    have HP := Lib.hid hpo
    have HBR := Lib.hid (hf.blk HBZ.out (by simp; omega))
    have c1 : wr.cell? ⟨bx, 1, none⟩ = some (.slice s.bo nb s.bc) := (cell_blk HBR.out 1).trans HC1.out
    have HLI := Lib.hid (fun (u : World) (hu : Fr [] wr u) (k : Nat) (hk : k < l.length) => by
      obtain ⟨g, off, h1, h2, h3⟩ := (HRD.out.fr HFZ.out (by simp)).at (by omega)
      obtain ⟨g', off', h1', h2', h3'⟩ := HRD.out.at (by omega)
      rw [h1] at h1'; cases h1'
      refine ⟨g, off, h1, ?_⟩
      rw [World.cell?_of_block (a := ⟨g, off + k, none⟩) (hu.block g (by have := hf.size; omega) (by simp)), World.cell?_of_block (a := ⟨g, off + k, none⟩) (hf.block g h2 (by simp; omega)), h3 k (by omega), ints_get, List.getElem?_eq_getElem hk]; rfl :
        ∀ u, Fr [] wr u → ∀ (k : Nat) (hk : k < l.length), ∃ g off, lo = some ⟨g, off, none⟩ ∧ u.cell? ⟨g, off + k, none⟩ = some (.int .i64 l[k]))
    clear hcl hrow hf hsm hpo
    by_cases hin : i < nb ∧ 2 * i + 1 < l.length
    · obtain ⟨hib, hil⟩ := hin
      have hibi : (i : Int) < (nb : Int) := by omega
      have hili : 2 * (i : Int) + 1 < (l.length : Int) := by omega
      obtain ⟨g, off, hlo, -⟩ := HLI.out wr (Fr.refl _ _) (2 * i) (by omega)
      obtain ⟨x, hx⟩ : ∃ x, x = l[2 * i] := ⟨_, rfl⟩
      obtain ⟨y, hy⟩ : ∃ y, y = l[2 * i + 1] := ⟨_, rfl⟩
      have K := Lib.hid (fun (u : World) (hu : Fr [] wr u) => (by
        obtain ⟨g1, o1, e1, c1⟩ := HLI.out u hu (2 * i) (by omega)
        obtain ⟨g2, o2, e2, c2⟩ := HLI.out u hu (2 * i + 1) (by omega)
        rw [hlo] at e1 e2; cases e1; cases e2
        exact ⟨by rw [hx]; exact c1, by rw [hy, Nat.add_assoc]; exact c2⟩ : u.cell? ⟨g, off + 2 * i, none⟩ = some (.int .i64 x) ∧ u.cell? ⟨g, off + 2 * i + 1, none⟩ = some (.int .i64 y)))
      have HPT := Lib.hid (fun u => point_any u x y (by rw [hx]; exact HB.out _ (List.getElem_mem _)) (by rw [hy]; exact HB.out _ (List.getElem_mem _)))
      rw [hlo]
      have HLO := Lib.hid hlo
      clear hx hy hlo
      go_upto_region 5 with fail
      go_cut [7] (fun s7 wc => ∃ b px py, s7 = .pointer (some ⟨b, 0, none⟩) ∧ wr.heap.size ≤ b ∧ wc.heap[b]? = some (.cells #[.int .i64 px, .int .i64 py] 29 (0, 0)) ∧ inC px ∧ inC py ∧ Fr [] wr wc)
      case first =>
        obtain ⟨j1, hj1⟩ : ∃ j1 : Nat, 2 * (i : Int) = (j1 : Int) := ⟨2 * i, by omega⟩
        obtain ⟨j2, hj2⟩ : ∃ j2 : Nat, IntKind.i64.wrap ((j1 : Int) + 1) = (j2 : Int) := ⟨2 * i + 1, by rw [IntWalk.i64_in _ (by omega)]; omega⟩
        have hj2e : (j1 : Int) + 1 = (j2 : Int) := by rw [← hj2, IntWalk.i64_in _ (by omega)]
        have hj1w : IntKind.i64.wrap (2 * (i : Int)) = (j1 : Int) := by rw [IntWalk.i64_in _ (by omega)]; exact hj1
        have b1 : (j1 : Int) < (l.length : Int) := by omega
        have b2 : (j2 : Int) < (l.length : Int) := by omega
        have b1n : j1 < l.length := by omega
        have b2n : j2 < l.length := by omega
        have KK := Lib.hid (fun (u : World) (hu : Fr [] wr u) => (by
          have h := K.out u hu
          rw [show off + j2 = off + 2 * i + 1 by omega, show off + j1 = off + 2 * i by omega]; exact h : u.cell? ⟨g, off + j1, none⟩ = some (.int .i64 x) ∧ u.cell? ⟨g, off + j2, none⟩ = some (.int .i64 y)))
        clear hj1 hj2e hili
        go_region_held3 (fun u => u.cell? ⟨g, off + j1, none⟩ = some (.int .i64 x) ∧ u.cell? ⟨g, off + j2, none⟩ = some (.int .i64 y)) (first | exact KK.out _ ((Fr.refl _ _).drew) | exact KK.out _ FA.out | exact KK.out _ (FA.out.alloc _) | exact KK.out _ ((Fr.refl _ _).alloc _).drew | exact KK.out _ ((FA.out.setCell (p := ⟨wr.heap.size, 0, none⟩) (.inr (Nat.le_refl _)) _).setCell (p := ⟨wr.heap.size, 1, none⟩) (.inr (Nat.le_refl _)) _)) (first | (go_at_call 11; refine (HPT.out _).mono ?_; rintro e wA ⟨px, py, hpx, hpy, rfl, fA⟩; first | (have FA := Lib.hid (by exact ((Fr.refl _ _).alloc _).drew.trans fA (by simp [Ext]) : Fr [] wr wA); have hz := fA.blk (k := wr.heap.size) (o := .cells #[.int .i64 0, .int .i64 0] 29 (0, 0)) (by exact alloc_new wr _) (by simp); have z0 : wA.cell? ⟨wr.heap.size, 0, none⟩ = some (.int .i64 0) := cell_blk hz 0; have z1 : wA.cell? ⟨wr.heap.size, 1, none⟩ = some (.int .i64 0) := cell_blk hz 1; have y0 : wA.frozen? ⟨wr.heap.size, 0, none⟩ = false := frozen_blk hz 0; have y1 : wA.frozen? ⟨wr.heap.size, 1, none⟩ = false := frozen_blk hz 1; have HZ := Lib.hid hz; clear hz fA) | (have FA := Lib.hid (by exact (Fr.refl _ _).drew.trans fA (by simp [Ext]) : Fr [] wr wA); clear fA)))
        · go_wp2_with fail
          go_meet
          exact ⟨wA.heap.size, px, py, rfl, FA.out.size, alloc_new _ _, hpx, hpy, FA.out.alloc _⟩
        · go_wp2_with fail
          go_meet
          exact ⟨wr.heap.size, px, py, rfl, Nat.le_refl _, setCell_blk (setCell_blk HZ.out 0 _) 1 _, hpx, hpy, (FA.out.setCell (p := ⟨wr.heap.size, 0, none⟩) (.inr (Nat.le_refl _)) _).setCell (p := ⟨wr.heap.size, 1, none⟩) (.inr (Nat.le_refl _)) _⟩
      case rest =>
        obtain ⟨b, px, py, rfl, hbb, hcb, hpx, hpy, hfc⟩ := hcut
        have HBC := Lib.hid (hfc.blk HBR.out (by simp))
        have HRC := Lib.hid (hfc.blk HR.out (by simp))
        have HCB := Lib.hid hcb
        have HFC := Lib.hid hfc
        have HPX := Lib.hid hpx
        have HPY := Lib.hid hpy
        have hbu1 : bu < b := by have := lt_of_blk HR.out; omega
        obtain ⟨a, ha⟩ : ∃ a, a = 48 + 4 * pl + 8 * i := ⟨_, rfl⟩
        have HAE := Lib.hid ha
        have HB2 := Lib.hid (HBO.out wc i hib a ha)
        have han : a + 1 < n := by have := HN.out; omega
        clear hcb hfc hpx hpy ha hbb
        go_wp2_with (refine wpList_loadB rfl 31 (Operand.tmp 2) rfl bx 16 rfl C 31 (0, 0) HBC.out _ Try.underlying31 rfl HCS.out infoSetup ?_)
        refine HB2.out.mono ?_
        rintro e wD ⟨rfl, fD⟩
        have HFD := Lib.hid (HFC.out.trans fD (by simp [Ext]))
        have hrd := fD.blk HRC.out (by simp)
        have hcd := fD.blk HCB.out (by simp)
        have HRD2 := Lib.hid hrd
        have hai : (a : Int) < (n : Int) := by omega
        have hai1 : (a : Int) + 1 < (n : Int) := by omega
        have han0 : a < n := by omega
        have r0 : wD.cell? ⟨bu, a, none⟩ = some (.int .i64 (cells.getD a 0)) := by
          rw [row_cell hrd (by rw [HCL.out]; omega), List.getD_eq_getElem?_getD, List.getElem?_eq_getElem (by rw [HCL.out]; omega)]; rfl
        have f0 : wD.frozen? ⟨bu, a, none⟩ = false := row_frozen hrd _
        have r1 : ∀ v, (wD.setCell ⟨bu, a, none⟩ v).cell? ⟨bu, a + 1, none⟩ = some (.int .i64 (cells.getD (a + 1) 0)) := fun v => by
          rw [cell_blk (setCell_blk hrd a v), Array.getElem?_setIfInBounds_ne (by omega)]
          refine Eq.trans (cell_blk hrd (a + 1)).symm ?_
          rw [row_cell hrd (by rw [HCL.out]; omega), List.getD_eq_getElem?_getD, List.getElem?_eq_getElem (by rw [HCL.out]; omega)]; rfl
        have f1 : ∀ v, (wD.setCell ⟨bu, a, none⟩ v).frozen? ⟨bu, a + 1, none⟩ = false := fun v => frozen_blk (setCell_blk hrd a v) _
        have q0 : wD.cell? ⟨b, 0, none⟩ = some (.int .i64 px) := cell_blk hcd 0
        have q1 : ∀ v, (wD.setCell ⟨bu, a, none⟩ v).cell? ⟨b, 1, none⟩ = some (.int .i64 py) := fun v => by
          rw [World.cell?_of_block (a := ⟨b, 1, none⟩) (setCell_ne (a := ⟨bu, a, none⟩) (v := v) (by simp only; omega))]; exact cell_blk hcd 1
        clear fD hrd hcd
        go_wp2_with fail
        go_roundw
        case rel =>
          have h1 : Fr [bu] wr wD := HFD.out.mono (by simp)
          refine ⟨i + 1, (cells.set a px).set (a + 1) py, by omega, by go_num, by rw [List.length_set, List.length_set]; exact HCL.out, row_set (row_set HRD2.out a px) (a + 1) py, ?_, ?_, HP.out.put hib (by rw [HCL.out]; exact HN.out) HPX.out HPY.out HAE.out⟩
          · exact (HF.out.trans ((h1.setCell (p := ⟨bu, a, none⟩) (.inl (by simp)) _).setCell (p := ⟨bu, a + 1, none⟩) (.inl (by simp)) _) (Ext.refl _ _))
          · exact small_set (small_set HS.out a HPX.out.small) (a + 1) HPY.out.small
        case measure => simp [intOf]; omega
    · have HR2 := Lib.hid (HFZ.out.trans HF.out (fun k hk => .inr (by simp at hk; omega)) : Fr [] w wr)
      by_cases h1 : i < nb
      · have h1i : (i : Int) < (nb : Int) := by omega
        have h2i : decide (2 * (i : Int) + 1 < (l.length : Int)) = false := decide_eq_false (by omega)
        clear hin
        go_wp2_with fail
        go_ret
        exact ⟨bu, cells, rfl, HCL.out, HR.out, hwu, HR2.out, HS.out, HP.out⟩
      · have h1i : (nb : Int) ≤ (i : Int) := by omega
        clear hin
        go_wp2_with fail
        go_ret
        exact ⟨bu, cells, rfl, HCL.out, HR.out, hwu, HR2.out, HS.out, HP.out⟩
end Go.Proofs.Ytdbngpncigjfiaa
