/- Package layout: Initial. -/
import Derived.BigRegion
import Derived.Test.YtlfomhknfpmhbaaMotion
namespace Go.Proofs.Ytlfomhknfpmhbaa
open Go.RowKit

def bodyRow (d : Bd) : List Int := [d.px, d.py, d.vx, d.vy, d.a, d.b, 0, 0]
def initK (pl : Nat) (bodies : List Bd) (i : Nat) : List Int := (List.replicate (48 + 4 * pl) 0 ++ (bodies.take i).flatMap bodyRow) ++ List.replicate (8 * (bodies.length - i)) 0
def initL (pl : Nat) (bodies : List Bd) : List Int := initK pl bodies bodies.length

theorem rows_len (l : List Bd) : (l.flatMap bodyRow).length = 8 * l.length := by
  induction l with
  | nil => rfl
  | cons d l ih => rw [List.flatMap_cons, List.length_append, ih]; simp [bodyRow]; omega
theorem initK_len (pl : Nat) (bodies : List Bd) (i : Nat) (hi : i ≤ bodies.length) : (initK pl bodies i).length = 48 + 4 * pl + 8 * bodies.length := by
  unfold initK
  rw [List.length_append, List.length_append, rows_len, List.length_take]
  simp; omega
theorem initK_zero (pl : Nat) (bodies : List Bd) : initK pl bodies 0 = List.replicate (48 + 4 * pl + 8 * bodies.length) 0 := by
  unfold initK
  simp only [List.take_zero, List.flatMap_nil, List.append_nil, Nat.sub_zero]
  rw [List.replicate_append_replicate]
theorem set_far (A L : List Int) (j : Nat) (x : Int) : (A ++ L).set (A.length + j) x = A ++ L.set j x := by
  rw [List.set_append_right _ _ (by omega)]; congr 2; omega
theorem initK_head (pl : Nat) (bodies : List Bd) (i : Nat) (hi : i < bodies.length) : (List.replicate (48 + 4 * pl) (0 : Int) ++ (bodies.take i).flatMap bodyRow).length = 48 + 4 * pl + 8 * i := by
  rw [List.length_append, rows_len, List.length_take]; simp; omega
theorem initK_step (pl : Nat) (bodies : List Bd) (i : Nat) (hi : i < bodies.length) (b : Nat) (hb : b = 48 + 4 * pl + 8 * i) (d : Bd) (hd : d = bodies[i]) :
    ((((((initK pl bodies i).set b d.px).set (b + 1) d.py).set (b + 2) d.vx).set (b + 3) d.vy).set (b + 4) d.a).set (b + 5) d.b = initK pl bodies (i + 1) := by
  have hl := initK_head pl bodies i hi
  unfold initK
  rw [List.take_succ_eq_append_getElem hi, List.flatMap_append, ← hd]
  obtain ⟨A, hA⟩ : ∃ A, A = List.replicate (48 + 4 * pl) (0 : Int) ++ (bodies.take i).flatMap bodyRow := ⟨_, rfl⟩
  rw [← List.append_assoc, ← hA]
  rw [← hA] at hl
  rw [hb, ← hl, show 8 * (bodies.length - i) = 8 * (bodies.length - (i + 1)) + 1 + 1 + 1 + 1 + 1 + 1 + 1 + 1 by omega]
  simp only [List.replicate_succ]
  have h0 : ∀ L x, (A ++ L).set A.length x = A ++ L.set 0 x := fun L x => by have h := set_far A L 0 x; rwa [Nat.add_zero] at h
  simp only [h0, set_far]
  simp [bodyRow]

theorem Bd.flat_get (bodies : List Bd) (k j : Nat) (hk : k < bodies.length) (hj : j < 9) : (bodies.flatMap Bd.cells)[k * 9 + j]? = ((bodies[k]).cells)[j]? := by
  induction bodies generalizing k with
  | nil => simp at hk
  | cons d l ih =>
    rw [List.flatMap_cons]
    cases k with
    | zero => rw [List.getElem?_append_left (by simp [Bd.cells]; omega)]; simp
    | succ k =>
      rw [List.getElem?_append_right (by simp [Bd.cells]; omega)]
      have h := ih k (by simpa using hk)
      rw [show (k + 1) * 9 + j - d.cells.length = k * 9 + j by simp [Bd.cells]; omega]
      simpa using h

/-- the bodies as far as i are laid -/
def InitQ (w : World) (s : St) (pl : Nat) (bodies : List Bd) (bs bu i : Nat) (wr : World) : Prop :=
  wr.heap[bu]? = some (row (initK pl bodies i)) ∧ wr.heap[bs]? = some (.cells #[.int .i64 s.players, .slice s.bo s.nb s.bc, .int .i64 s.x0, .int .i64 s.y0, .int .i64 s.x1, .int .i64 s.y1, .slice s.ro s.rn s.rc, .slice s.dO s.dn s.dc, .int .i64 s.fog, .int .i64 s.gx, .int .i64 s.gy, .int .i64 s.push, .int .i64 s.drag, .int .i64 s.rest, .int .i64 s.rounds, .int .i64 s.fuel] 31 (0, 0)) ∧ Fr [] w wr

set_option maxRecDepth 100000 in
set_option maxHeartbeats 8000000 in
theorem initial_any (w : World) (s : St) (bodies : List Bd) (hok : s.Ok) (pl : Nat) (hpl : s.players = (pl : Int)) (hp3 : pl ≤ 1000) (hbd : BodiesAt w s bodies) (h5 : bodies.length ≤ 1000) :
    Calls Try.prog 30 #[s.val] w fun e w' => ∃ b, e = .returned (.slice (some ⟨b, 0, none⟩) (48 + 4 * pl + 8 * bodies.length) (48 + 4 * pl + 8 * bodies.length)) ∧ w.heap.size ≤ b ∧ RowNew w b (initL pl bodies) w' := by
  obtain ⟨n, hn⟩ : ∃ n, n = 48 + 4 * pl + 8 * bodies.length := ⟨_, rfl⟩
  have hnb : s.nb = bodies.length := hbd.nb
  obtain ⟨nb, hnbe⟩ : ∃ nb, nb = bodies.length := ⟨_, rfl⟩
  have HSZ := Lib.hid (fun (u : World) => (by have h := size_any u s hok; rw [show szOf s = (n : Int) by unfold szOf; rw [hpl, hn, hnb]; omega] at h; exact h : Calls Try.prog 21 #[s.val] u fun e w' => e = .returned (.int .i64 (n : Int)) ∧ Fr [] u w'))
  have HBD := Lib.hid (fun (u : World) (p : Nat) (hp : p < nb) (a : Nat) (ha : a = 48 + 4 * pl + 8 * p) => (by have h := body_any u s hok (p : Int); rw [show bdOf s (p : Int) = (a : Int) by unfold bdOf; rw [if_neg (by rw [hnb, ← hnbe]; omega), hpl]; omega] at h; exact h : Calls Try.prog 19 #[s.val, .int .i64 (p : Int)] u fun e w' => e = .returned (.int .i64 (a : Int)) ∧ Fr [] u w'))
  have HRD := Lib.hid hbd.rd
  have hmk := make_ints n (by omega)
  have hn1 : n ≤ 20000 := by omega
  have HNE := Lib.hid hn
  have HNBE := Lib.hid hnbe
  have hp0 : decide (s.players < 0) = false := decide_eq_false (by omega)
  have hp1 : decide (1048576 < s.players) = false := decide_eq_false (by omega)
  have hnb1 : nb ≤ 1000 := by omega
  rw [← hn]
  have HNB := Lib.hid (hnb.trans hnbe.symm)
  have HPL := Lib.hid hpl
  clear hbd hn hnb hpl hok hnbe
  unfold St.val at HSZ HBD ⊢
  go_enter Try.func30, Try.ntmps30
  go_wp2_with fail
  refine (HSZ.out _).mono ?_
  rintro e w1 ⟨rfl, f1⟩
  obtain ⟨bs, hbs⟩ : ∃ bs, bs = w.heap.size := ⟨_, rfl⟩
  rw [← hbs]
  have hb1 := f1.blk (alloc_new w _) (by simp)
  have F1 := Lib.hid (((Fr.refl [] w).alloc _).trans f1 (by simp [Ext]))
  obtain ⟨bu, hbu⟩ : ∃ bu, bu = w1.heap.size := ⟨_, rfl⟩
  have hq : InitQ w s pl bodies bs bu 0 (w1.alloc (row (List.replicate n 0))) := ⟨by rw [initK_zero, ← HNE.out, hbu]; exact alloc_new _ _, by rw [hbs]; exact alloc_old hb1, F1.out.alloc _⟩
  have hne : bs ≠ bu := by have := lt_of_blk hb1; omega
  have hbw : w.heap.size ≤ bu := by have := F1.out.size; omega
  have hsz : w.heap.size ≤ bs := by omega
  have q1 : w1.cell? ⟨bs, 1, none⟩ = some (.slice s.bo s.nb s.bc) := by rw [hbs]; exact cell_blk hb1 1
  have hbsl : bs < w1.heap.size := by have := lt_of_blk hb1; omega
  have HQ := Lib.hid hq
  have HBU := Lib.hid hbu
  have hnbN := HNB.out
  clear hb1 f1 hbs hq hbu
  rw [hnbN] at q1
  clear hnbN
  go_wp2_with fail
  rw [← HBU.out]
  go_loopw [21] (fun iv wr => ∃ i : Nat, i ≤ nb ∧ iv = .int .i64 (i : Int) ∧ InitQ w s pl bodies bs bu i wr) (fun iv _ => nb - (intOf iv).toNat)
  case atStart => exact ⟨0, by omega, rfl, HQ.out⟩
  case round =>
    clear HQ q1 hbsl
    obtain ⟨i, hi, rfl, hq⟩ := hrel
    have HQ := Lib.hid hq
    clear hq
    by_cases hlt : i < nb
    · obtain ⟨d, hd⟩ : ∃ d, d = bodies[i]'(by have := HNBE.out; omega) := ⟨_, rfl⟩
      obtain ⟨bg, boff, hbo, hbg, hbc⟩ := (HRD.out.fr HQ.out.2.2 (by simp)).at (by have := HNBE.out; omega)
      have hcx : ∀ j, j < 9 → wr.cell? ⟨bg, boff + i * 9 + j, none⟩ = (d.cells)[j]? := fun j hj => by
        rw [Nat.add_assoc, hbc _ (by have := HNBE.out; omega), Bd.flat_get bodies i j (by have := HNBE.out; omega) hj, hd]
      have k0 : wr.cell? ⟨bg, boff + i * 9, none⟩ = some (.int .i64 d.rad) := hcx 0 (by omega)
      have k1 : wr.cell? ⟨bg, boff + i * 9 + 1, none⟩ = some (.slice d.po d.pn d.pc) := hcx 1 (by omega)
      have k2 : wr.cell? ⟨bg, boff + i * 9 + 2, none⟩ = some (.int .i64 d.px) := hcx 2 (by omega)
      have k3 : wr.cell? ⟨bg, boff + i * 9 + 3, none⟩ = some (.int .i64 d.py) := hcx 3 (by omega)
      have k4 : wr.cell? ⟨bg, boff + i * 9 + 4, none⟩ = some (.int .i64 d.vx) := hcx 4 (by omega)
      have k5 : wr.cell? ⟨bg, boff + i * 9 + 5, none⟩ = some (.int .i64 d.vy) := hcx 5 (by omega)
      have k6 : wr.cell? ⟨bg, boff + i * 9 + 6, none⟩ = some (.int .i64 d.im) := hcx 6 (by omega)
      have k7 : wr.cell? ⟨bg, boff + i * 9 + 7, none⟩ = some (.int .i64 d.a) := hcx 7 (by omega)
      have k8 : wr.cell? ⟨bg, boff + i * 9 + 8, none⟩ = some (.int .i64 d.b) := hcx 8 (by omega)
      obtain ⟨b, hbe⟩ : ∃ b, b = 48 + 4 * pl + 8 * i := ⟨_, rfl⟩
      have HB := Lib.hid (fun u => HBD.out u i hlt b hbe)
      have HBO := Lib.hid hbo
      have HDE := Lib.hid hd
      have HBE := Lib.hid hbe
      obtain ⟨m, hm⟩ : ∃ m, m = n - b := ⟨_, rfl⟩
      have hm8 : 8 ≤ m := by have := HNE.out; have := HNBE.out; omega
      have hsl := run_slice_from (P := Try.prog) 22 3 Try.underlying22 1 (by kernel_rfl) (some ⟨bu, 0, none⟩) n n b (by omega)
      rw [cutA_ne (by omega), Nat.mul_one, Nat.zero_add, ← hm] at hsl
      have HM8 := Lib.hid hm8
      have hbsw : bs < wr.heap.size := lt_of_blk HQ.out.2.1
      have B0 := Lib.hid HQ.out.2.1
      clear hcx hbc hd hbe hm hm8 hp0 hp1
      rw [hbo] at B0 HB ⊢
      clear hbo
      have NE := Lib.hid (alloc_new wr (.cells #[.int .i64 d.rad, .slice d.po d.pn d.pc, .int .i64 d.px, .int .i64 d.py, .int .i64 d.vx, .int .i64 d.vy, .int .i64 d.im, .int .i64 d.a, .int .i64 d.b] 52))
      go_wp2_with (refine wpList_loadB rfl 31 (Operand.tmp 1) rfl bs 16 rfl #[.int .i64 s.players, .slice (some ⟨bg, boff, none⟩) s.nb s.bc, .int .i64 s.x0, .int .i64 s.y0, .int .i64 s.x1, .int .i64 s.y1, .slice s.ro s.rn s.rc, .slice s.dO s.dn s.dc, .int .i64 s.fog, .int .i64 s.gx, .int .i64 s.gy, .int .i64 s.push, .int .i64 s.drag, .int .i64 s.rest, .int .i64 s.rounds, .int .i64 s.fuel] 31 (0, 0) (by exact alloc_old B0.out) _ Try.underlying31 rfl rfl infoSetup ?_)
      refine (HB.out _).mono ?_
      rintro e w6 ⟨rfl, f6⟩
      have hbuw : bu < wr.heap.size := lt_of_blk HQ.out.1
      have E6 := Lib.hid (f6.blk NE.out (by simp))
      have R6 := Lib.hid (f6.blk (alloc_old HQ.out.1) (by simp))
      have S6 := Lib.hid (f6.blk (alloc_old HQ.out.2.1) (by simp))
      have F6 := Lib.hid ((HQ.out.2.2.alloc _).trans f6 (by simp [Ext]))
      have hil := initK_len pl bodies i (by have := HNBE.out; omega)
      have hbn : b + 8 ≤ (initK pl bodies i).length := by rw [hil]; have := HBE.out; have := HNBE.out; omega
      have n0 : 0 < m := by have := HM8.out; omega
      have hxe : bu ≠ wr.heap.size := by omega
      have hbsx : bs ≠ bu := hne
      have HIL := Lib.hid hil
      have HBN := Lib.hid hbn
      clear f6 k0 k1 k2 k3 k4 k5 k6 k7 k8 hil hbn
      go_wp2_with fail
      have z1 : w6.cell? ⟨wr.heap.size, 2, none⟩ = some (.int .i64 d.px) := cell_blk E6.out 2
      have z2 : w6.cell? ⟨wr.heap.size, 3, none⟩ = some (.int .i64 d.py) := cell_blk E6.out 3
      obtain ⟨x1, y1⟩ : ∃ x, w6.cell? ⟨bu, b, none⟩ = some x := ⟨_, row_cell R6.out (by have := HBN.out; (try simp only [List.length_set]); omega)⟩
      obtain ⟨x2, y2⟩ : ∃ x, w6.cell? ⟨bu, b + 1, none⟩ = some x := ⟨_, row_cell R6.out (by have := HBN.out; (try simp only [List.length_set]); omega)⟩
      have yf : ∀ j, w6.frozen? ⟨bu, j, none⟩ = false := fun j => row_frozen R6.out j
      have n1 : 0 < m := by have := HM8.out; omega
      have n2 : 1 < m := by have := HM8.out; omega
      have m1 : (0 : Int) < (m : Int) := by have := HM8.out; omega
      have m2 : (1 : Int) < (m : Int) := by have := HM8.out; omega
      go_region
      obtain ⟨w7, hnw⟩ : ∃ x, x = ((w6.setCell ⟨bu, b, none⟩ (.int .i64 d.px)).setCell ⟨bu, b + 1, none⟩ (.int .i64 d.py)).drew := ⟨_, rfl⟩
      rw [← hnw]
      have R7 := Lib.hid (by rw [hnw]; exact row_set (row_set R6.out (b) d.px) (b + 1) d.py : w7.heap[bu]? = some (row (((initK pl bodies i).set (b) d.px).set (b + 1) d.py)))
      have E7 := Lib.hid ((by rw [hnw]; exact (setCell_ne (by simpa using hxe.symm)).trans (setCell_ne (by simpa using hxe.symm)) : w7.heap[wr.heap.size]? = w6.heap[wr.heap.size]?).trans E6.out)
      have S7 := Lib.hid ((by rw [hnw]; exact (setCell_ne (by simpa using hbsx)).trans (setCell_ne (by simpa using hbsx)) : w7.heap[bs]? = w6.heap[bs]?).trans S6.out)
      have F7 := Lib.hid (by rw [hnw]; exact ((F6.out.setCell (p := ⟨bu, b, none⟩) (.inr hbw) _).setCell (p := ⟨bu, b + 1, none⟩) (.inr hbw) _).drew : Fr [] w w7)
      clear hnw z1 z2 y1 y2 yf n1 n2 m1 m2
      go_wp2_with fail
      have z1 : w7.cell? ⟨wr.heap.size, 4, none⟩ = some (.int .i64 d.vx) := cell_blk E7.out 4
      have z2 : w7.cell? ⟨wr.heap.size, 5, none⟩ = some (.int .i64 d.vy) := cell_blk E7.out 5
      obtain ⟨x1, y1⟩ : ∃ x, w7.cell? ⟨bu, b + 2, none⟩ = some x := ⟨_, row_cell R7.out (by have := HBN.out; (try simp only [List.length_set]); omega)⟩
      obtain ⟨x2, y2⟩ : ∃ x, w7.cell? ⟨bu, b + 3, none⟩ = some x := ⟨_, row_cell R7.out (by have := HBN.out; (try simp only [List.length_set]); omega)⟩
      have yf : ∀ j, w7.frozen? ⟨bu, j, none⟩ = false := fun j => row_frozen R7.out j
      have n1 : 2 < m := by have := HM8.out; omega
      have n2 : 3 < m := by have := HM8.out; omega
      have m1 : (2 : Int) < (m : Int) := by have := HM8.out; omega
      have m2 : (3 : Int) < (m : Int) := by have := HM8.out; omega
      go_region
      obtain ⟨w8, hnw⟩ : ∃ x, x = ((w7.setCell ⟨bu, b + 2, none⟩ (.int .i64 d.vx)).setCell ⟨bu, b + 3, none⟩ (.int .i64 d.vy)).drew := ⟨_, rfl⟩
      rw [← hnw]
      have R8 := Lib.hid (by rw [hnw]; exact row_set (row_set R7.out (b + 2) d.vx) (b + 3) d.vy : w8.heap[bu]? = some (row (((((initK pl bodies i).set (b) d.px).set (b + 1) d.py).set (b + 2) d.vx).set (b + 3) d.vy)))
      have E8 := Lib.hid ((by rw [hnw]; exact (setCell_ne (by simpa using hxe.symm)).trans (setCell_ne (by simpa using hxe.symm)) : w8.heap[wr.heap.size]? = w7.heap[wr.heap.size]?).trans E7.out)
      have S8 := Lib.hid ((by rw [hnw]; exact (setCell_ne (by simpa using hbsx)).trans (setCell_ne (by simpa using hbsx)) : w8.heap[bs]? = w7.heap[bs]?).trans S7.out)
      have F8 := Lib.hid (by rw [hnw]; exact ((F7.out.setCell (p := ⟨bu, b + 2, none⟩) (.inr hbw) _).setCell (p := ⟨bu, b + 3, none⟩) (.inr hbw) _).drew : Fr [] w w8)
      clear hnw z1 z2 y1 y2 yf n1 n2 m1 m2
      go_wp2_with fail
      have z1 : w8.cell? ⟨wr.heap.size, 7, none⟩ = some (.int .i64 d.a) := cell_blk E8.out 7
      have z2 : w8.cell? ⟨wr.heap.size, 8, none⟩ = some (.int .i64 d.b) := cell_blk E8.out 8
      obtain ⟨x1, y1⟩ : ∃ x, w8.cell? ⟨bu, b + 4, none⟩ = some x := ⟨_, row_cell R8.out (by have := HBN.out; (try simp only [List.length_set]); omega)⟩
      obtain ⟨x2, y2⟩ : ∃ x, w8.cell? ⟨bu, b + 5, none⟩ = some x := ⟨_, row_cell R8.out (by have := HBN.out; (try simp only [List.length_set]); omega)⟩
      have yf : ∀ j, w8.frozen? ⟨bu, j, none⟩ = false := fun j => row_frozen R8.out j
      have n1 : 4 < m := by have := HM8.out; omega
      have n2 : 5 < m := by have := HM8.out; omega
      have m1 : (4 : Int) < (m : Int) := by have := HM8.out; omega
      have m2 : (5 : Int) < (m : Int) := by have := HM8.out; omega
      go_region
      obtain ⟨w9, hnw⟩ : ∃ x, x = ((w8.setCell ⟨bu, b + 4, none⟩ (.int .i64 d.a)).setCell ⟨bu, b + 5, none⟩ (.int .i64 d.b)).drew := ⟨_, rfl⟩
      rw [← hnw]
      have R9 := Lib.hid (by rw [hnw]; exact row_set (row_set R8.out (b + 4) d.a) (b + 5) d.b : w9.heap[bu]? = some (row (((((((initK pl bodies i).set (b) d.px).set (b + 1) d.py).set (b + 2) d.vx).set (b + 3) d.vy).set (b + 4) d.a).set (b + 5) d.b)))
      have E9 := Lib.hid ((by rw [hnw]; exact (setCell_ne (by simpa using hxe.symm)).trans (setCell_ne (by simpa using hxe.symm)) : w9.heap[wr.heap.size]? = w8.heap[wr.heap.size]?).trans E8.out)
      have S9 := Lib.hid ((by rw [hnw]; exact (setCell_ne (by simpa using hbsx)).trans (setCell_ne (by simpa using hbsx)) : w9.heap[bs]? = w8.heap[bs]?).trans S8.out)
      have F9 := Lib.hid (by rw [hnw]; exact ((F8.out.setCell (p := ⟨bu, b + 4, none⟩) (.inr hbw) _).setCell (p := ⟨bu, b + 5, none⟩) (.inr hbw) _).drew : Fr [] w w9)
      clear hnw z1 z2 y1 y2 yf n1 n2 m1 m2
      go_wp2_with fail
      go_roundw
      case rel =>
        refine ⟨i + 1, by omega, by go_num, ?_, ?_, F9.out⟩
        · have h := R9.out
          rw [initK_step pl bodies i (by have := HNBE.out; omega) b HBE.out d HDE.out] at h
          exact h
        · have h := S9.out
          exact h
      case measure => simp [intOf]; omega
    · have hie : i = bodies.length := by have := HNBE.out; omega
      have HIE := Lib.hid hie
      clear hie
      go_wp2_with fail
      go_ret
      refine ⟨bu, rfl, hbw, ?_, HQ.out.2.2⟩
      unfold initL
      rw [← HIE.out]
      exact HQ.out.1
end Go.Proofs.Ytlfomhknfpmhbaa
