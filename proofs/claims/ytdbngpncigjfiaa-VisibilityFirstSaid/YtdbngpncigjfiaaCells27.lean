/- Chapter 27's generator: Cells (written by gencells27.py). -/
import Derived.Test.YtdbngpncigjfiaaSet27
import Derived.Test.YtdbngpncigjfiaaInitialL
import Derived.Test.YtdbngpncigjfiaaSeesP
import Derived.Deep.DeepCutAuto
namespace Go.Proofs.Ytdbngpncigjfiaa
open Go.RowKit

def small (x : Int) : Prop := -2147483648 ≤ x ∧ x ≤ 2147483647
/-- the positions lie in the world's bounds -/
def PosOk (pl nb : Nat) (cells : List Int) : Prop := ∀ i, i < nb → inC (cells.getD (48 + 4 * pl + 8 * i) 0) ∧ inC (cells.getD (48 + 4 * pl + 8 * i + 1) 0)
def Cells27To (w : World) (pl nb n : Nat) (e : Ending) (w' : World) : Prop :=
  ∃ b cells, e = .returned (.slice (some ⟨b, 0, none⟩) n n) ∧ cells.length = n ∧ w'.heap[b]? = some (row cells) ∧ w.heap.size ≤ b ∧ Fr [] w w' ∧ (∀ x ∈ cells, small x) ∧ PosOk pl nb cells

theorem getD_set_ne {l : List Int} {i j : Nat} {v : Int} (h : i ≠ j) : (l.set i v).getD j 0 = l.getD j 0 := by
  rw [List.getD_eq_getElem?_getD, List.getElem?_set_ne h, ← List.getD_eq_getElem?_getD]
theorem getD_set_eq {l : List Int} {i : Nat} {v : Int} (h : i < l.length) : (l.set i v).getD i 0 = v := by
  rw [List.getD_eq_getElem?_getD, List.getElem?_set_self h]; rfl
theorem PosOk.put {pl nb : Nat} {cells : List Int} (h : PosOk pl nb cells) {k : Nat} (hk : k < nb) (hl : cells.length = 48 + 4 * pl + 8 * nb) {x y : Int} (hx : inC x) (hy : inC y) {a : Nat} (ha : a = 48 + 4 * pl + 8 * k) :
    PosOk pl nb ((cells.set a x).set (a + 1) y) := by
  subst ha
  intro i hi
  by_cases e : i = k
  · subst e
    rw [getD_set_ne (by omega), getD_set_eq (by omega), getD_set_eq (by rw [List.length_set]; omega)]
    exact ⟨hx, hy⟩
  · rw [getD_set_ne (by omega), getD_set_ne (by omega), getD_set_ne (by omega), getD_set_ne (by omega)]
    exact h i hi
theorem inC.small {x : Int} (h : inC x) : small x := by unfold inC at h; unfold Go.Proofs.Ytdbngpncigjfiaa.small; omega
theorem small_set {l : List Int} (h : ∀ x ∈ l, small x) (i : Nat) {v : Int} (hv : small v) : ∀ x ∈ l.set i v, small x := fun x hx => by
  rcases List.mem_or_eq_of_mem_set hx with h1 | h1
  · exact h x h1
  · rw [h1]; exact hv
theorem good_small {d : Bd} (h : goodB d) : ∀ x ∈ bodyRow d, small x := by
  unfold goodB bodyB d1 d2 d3 d4 d5 inB at h
  simp at h
  unfold bodyRow small
  intro x hx
  simp at hx
  rcases hx with rfl | rfl | rfl | rfl | rfl | rfl | rfl <;> omega
theorem init_small {pl : Nat} {bodies : List Bd} (h : ∀ d ∈ bodies, goodB d) : ∀ x ∈ initL pl bodies, small x := by
  intro x hx
  unfold initL initK at hx
  rw [List.take_length, Nat.sub_self] at hx
  simp only [Nat.mul_zero, List.replicate_zero, List.append_nil, List.mem_append, List.mem_replicate, List.mem_flatMap] at hx
  rcases hx with h1 | ⟨d, hd, h1⟩
  · rw [h1.2]; unfold small; omega
  · exact good_small (h d hd) x h1
theorem good_pos {d : Bd} (h : goodB d) : inC d.px ∧ inC d.py := by
  unfold goodB bodyB d1 d2 d3 d4 d5 inB at h
  simp at h
  unfold inC
  omega
theorem init_pos {pl : Nat} {bodies : List Bd} (h : ∀ d ∈ bodies, goodB d) : PosOk pl bodies.length (initL pl bodies) := by
  intro i hi
  have h0 := initL_get pl bodies i 0 hi (by omega)
  have h1 := initL_get pl bodies i 1 hi (by omega)
  rw [Nat.add_zero] at h0
  rw [List.getD_eq_getElem?_getD, List.getD_eq_getElem?_getD, h0, h1]
  exact good_pos (h _ (List.getElem_mem hi))

def CInv (wz : World) (bu pl nb n : Nat) (iv : Value) (wr : World) : Prop :=
  ∃ (i : Nat) (cells : List Int), i ≤ nb ∧ iv = .int .i64 (i : Int) ∧ cells.length = n ∧ wr.heap[bu]? = some (row cells) ∧ Fr [bu] wz wr ∧ (∀ x ∈ cells, small x) ∧ PosOk pl nb cells

set_option maxRecDepth 100000 in
set_option maxHeartbeats 16000000 in
theorem cells27_any (w : World) (s : St) (bodies : List Bd) (hok : s.Ok) (pl : Nat) (hpl : s.players = (pl : Int)) (hp3 : pl ≤ 3) (hbd : BodiesAt w s bodies) (h5 : bodies.length ≤ 5) (hgood : ∀ d ∈ bodies, goodB d)
    (lo : Option Addr) (lc : Nat) (l : List Int) (hrd : Rd w 1 lo l.length (ints l)) (hb : ∀ x ∈ l, bounded x) (n : Nat) (hn : n = 48 + 4 * pl + 8 * bodies.length) :
    Calls Try.prog 18 #[s.val, .slice lo l.length lc] w (Cells27To w pl bodies.length n) := by
  have hll : l.length ≤ 9223372036854775807 := by have := hrd.2.1; unfold maxLen at this; omega
  have HRD := Lib.hid hrd
  have HB := Lib.hid hb
  obtain ⟨nb, hnb⟩ : ∃ nb, nb = bodies.length := ⟨_, rfl⟩
  obtain ⟨C, hC⟩ := cAt s
  have HCS := Lib.hid hC.size
  have HC1 := Lib.hid (by rw [hC.c1, hbd.nb, ← hnb] : C[1]? = some (.slice s.bo nb s.bc))
  have HRI := Lib.hid (fun (u : World) (hf : Fr [] w u) => (by
    have h := rinitial_any u s bodies hok pl hpl (by omega) (hbd.old hf) (by omega)
    rw [← hn, hC.val] at h; exact h : Calls Try.prog 37 #[.agg C] u fun e w' => ∃ b, e = .returned (.slice (some ⟨b, 0, none⟩) n n) ∧ u.heap.size ≤ b ∧ RowNew u b (initL pl bodies) w'))
  have HBO := Lib.hid (fun (u : World) (p : Nat) (hp : p < nb) (a : Nat) (ha : a = 48 + 4 * pl + 8 * p) => (by
    have h := rbody_any u s hok (p : Int)
    rw [show bdOf s (p : Int) = (a : Int) by unfold bdOf; rw [if_neg (by rw [hbd.nb, ← hnb]; omega), hpl]; omega, hC.val] at h; exact h : Calls Try.prog 38 #[.agg C, .int .i64 (p : Int)] u fun e w' => e = .returned (.int .i64 (a : Int)) ∧ Fr [] u w'))
  have HL0 := Lib.hid (by rw [hn]; exact initL_len pl bodies : (initL pl bodies).length = n)
  have HSM := Lib.hid (init_small (pl := pl) hgood)
  have HPO := Lib.hid (by rw [hnb]; exact init_pos hgood : PosOk pl nb (initL pl bodies))
  have HN := Lib.hid (by rw [hn, hnb] : n = 48 + 4 * pl + 8 * nb)
  have hn1 : n ≤ 100 := by omega
  have hnb5 : nb ≤ 5 := by omega
  rw [hC.val, ← hnb]
  clear hrd hb hbd hgood hok hpl hC hnb hn h5
  obtain ⟨bx, hbx⟩ : ∃ bx, bx = w.heap.size := ⟨_, rfl⟩
  obtain ⟨wb, hwb⟩ : ∃ wb, wb = w.alloc (.cells C 31) := ⟨_, rfl⟩
  have HBB := Lib.hid (by rw [hwb, hbx]; exact alloc_new w _ : wb.heap[bx]? = some (.cells C 31 (0, 0)))
  have HWB := Lib.hid (by rw [hwb]; exact (Fr.refl [] w).alloc _ : Fr [] w wb)
  have HBX := Lib.hid hbx
  have HWE := Lib.hid hwb
  clear hbx hwb
  go_enter Try.func18, Try.ntmps18
  go_upto_region 1 with (fail)
  rw [← HBX.out, ← HWE.out]
  go_wp2_with (refine wpList_loadB rfl 31 (Operand.tmp 2) rfl bx 16 rfl C 31 (0, 0) HBB.out _ Try.underlying31 rfl HCS.out infoSetup ?_)
  refine (HRI.out wb HWB.out).mono ?_
  rintro e wz ⟨bu, rfl, hbu, hrow, hfz⟩
  have HROW := Lib.hid hrow
  have HFZ := Lib.hid (HWB.out.trans hfz (by simp [Ext]))
  have HBZ := Lib.hid (hfz.blk HBB.out (by simp))
  have hbxu : bx < bu := by have := lt_of_blk HBB.out; omega
  have hwu : w.heap.size ≤ bu := by have := HWB.out.size; omega
  clear hrow hfz hbu
  go_wp2_with fail
  go_loopw [6] (fun iv wr => CInv wz bu pl nb n iv wr) (fun iv _ => nb - (intOf iv).toNat)
  case atStart => exact ⟨0, initL pl bodies, by omega, rfl, HL0.out, HROW.out, Fr.refl _ _, HSM.out, HPO.out⟩
  case round =>
    obtain ⟨i, cells, hi, rfl, hcl, hrow, hf, hsm, hpo⟩ := hrel
    have HCL := Lib.hid hcl
    have HR := Lib.hid hrow
    have HF := Lib.hid hf
    have HS := Lib.hid hsm
    have HP := Lib.hid hpo
    have HBR := Lib.hid (hf.blk HBZ.out (by simp; omega))
    have c1 : wr.cell? ⟨bx, 1, none⟩ = some (.slice s.bo nb s.bc) := (cell_blk HBR.out 1).trans HC1.out
    have HLI := Lib.hid (fun (u : World) (hu : Fr [] wr u) (k : Nat) (hk : k < l.length) => by
      obtain ⟨g, off, h1, h2, h3⟩ := (HRD.out.fr HFZ.out (by simp)).at (by omega)
      obtain ⟨g', off', h1', h2', h3'⟩ := HRD.out.at (by omega)
      rw [h1] at h1'; cases h1'
      refine ⟨g, off, h1, ?_⟩
      rw [World.cell?_of_block (a := ⟨g, off + k, none⟩) (hu.block g (by have := hf.size; omega) (by simp)), World.cell?_of_block (a := ⟨g, off + k, none⟩) (hf.block g h2 (by simp; omega)), h3 k (by omega), ints_get, List.getElem?_eq_getElem hk]; rfl :
        ∀ u, Fr [] wr u → ∀ (k : Nat) (hk : k < l.length), ∃ g off, lo = some ⟨g, off, none⟩ ∧ u.cell? ⟨g, off + k, none⟩ = some (.int .i64 l[k]))
    clear hcl hrow hf hsm hpo
    by_cases hin : i < nb ∧ 2 * i + 1 < l.length
    · obtain ⟨hib, hil⟩ := hin
      have hibi : (i : Int) < (nb : Int) := by omega
      have hili : 2 * (i : Int) + 1 < (l.length : Int) := by omega
      obtain ⟨g, off, hlo, -⟩ := HLI.out wr (Fr.refl _ _) (2 * i) (by omega)
      obtain ⟨x, hx⟩ : ∃ x, x = l[2 * i] := ⟨_, rfl⟩
      obtain ⟨y, hy⟩ : ∃ y, y = l[2 * i + 1] := ⟨_, rfl⟩
      have K := Lib.hid (fun (u : World) (hu : Fr [] wr u) => (by
        obtain ⟨g1, o1, e1, c1⟩ := HLI.out u hu (2 * i) (by omega)
        obtain ⟨g2, o2, e2, c2⟩ := HLI.out u hu (2 * i + 1) (by omega)
        rw [hlo] at e1 e2; cases e1; cases e2
        exact ⟨by rw [hx]; exact c1, by rw [hy, Nat.add_assoc]; exact c2⟩ : u.cell? ⟨g, off + 2 * i, none⟩ = some (.int .i64 x) ∧ u.cell? ⟨g, off + 2 * i + 1, none⟩ = some (.int .i64 y)))
      have HPT := Lib.hid (fun u => point_any u x y (by rw [hx]; exact HB.out _ (List.getElem_mem _)) (by rw [hy]; exact HB.out _ (List.getElem_mem _)))
      rw [hlo]
      have HLO := Lib.hid hlo
      clear hx hy hlo
      go_upto_region 5 with fail
      go_cut [7] (fun s7 wc => ∃ b px py, s7 = .pointer (some ⟨b, 0, none⟩) ∧ wr.heap.size ≤ b ∧ wc.heap[b]? = some (.cells #[.int .i64 px, .int .i64 py] 29 (0, 0)) ∧ inC px ∧ inC py ∧ Fr [] wr wc)
      case first =>
        obtain ⟨j1, hj1⟩ : ∃ j1 : Nat, 2 * (i : Int) = (j1 : Int) := ⟨2 * i, by omega⟩
        obtain ⟨j2, hj2⟩ : ∃ j2 : Nat, IntKind.i64.wrap ((j1 : Int) + 1) = (j2 : Int) := ⟨2 * i + 1, by rw [IntWalk.i64_in _ (by omega)]; omega⟩
        have hj2e : (j1 : Int) + 1 = (j2 : Int) := by rw [← hj2, IntWalk.i64_in _ (by omega)]
        have hj1w : IntKind.i64.wrap (2 * (i : Int)) = (j1 : Int) := by rw [IntWalk.i64_in _ (by omega)]; exact hj1
        have b1 : (j1 : Int) < (l.length : Int) := by omega
        have b2 : (j2 : Int) < (l.length : Int) := by omega
        have b1n : j1 < l.length := by omega
        have b2n : j2 < l.length := by omega
        have KK := Lib.hid (fun (u : World) (hu : Fr [] wr u) => (by
          have h := K.out u hu
          rw [show off + j2 = off + 2 * i + 1 by omega, show off + j1 = off + 2 * i by omega]; exact h : u.cell? ⟨g, off + j1, none⟩ = some (.int .i64 x) ∧ u.cell? ⟨g, off + j2, none⟩ = some (.int .i64 y)))
        clear hj1 hj2e hili
        go_region_held3 (fun u => u.cell? ⟨g, off + j1, none⟩ = some (.int .i64 x) ∧ u.cell? ⟨g, off + j2, none⟩ = some (.int .i64 y)) (first | exact KK.out _ ((Fr.refl _ _).drew) | exact KK.out _ FA.out | exact KK.out _ (FA.out.alloc _) | exact KK.out _ ((Fr.refl _ _).alloc _).drew | exact KK.out _ ((FA.out.setCell (p := ⟨wr.heap.size, 0, none⟩) (.inr (Nat.le_refl _)) _).setCell (p := ⟨wr.heap.size, 1, none⟩) (.inr (Nat.le_refl _)) _)) (first | (go_at_call 11; refine (HPT.out _).mono ?_; rintro e wA ⟨px, py, hpx, hpy, rfl, fA⟩; first | (have FA := Lib.hid (by exact ((Fr.refl _ _).alloc _).drew.trans fA (by simp [Ext]) : Fr [] wr wA); have hz := fA.blk (k := wr.heap.size) (o := .cells #[.int .i64 0, .int .i64 0] 29 (0, 0)) (by exact alloc_new wr _) (by simp); have z0 : wA.cell? ⟨wr.heap.size, 0, none⟩ = some (.int .i64 0) := cell_blk hz 0; have z1 : wA.cell? ⟨wr.heap.size, 1, none⟩ = some (.int .i64 0) := cell_blk hz 1; have y0 : wA.frozen? ⟨wr.heap.size, 0, none⟩ = false := frozen_blk hz 0; have y1 : wA.frozen? ⟨wr.heap.size, 1, none⟩ = false := frozen_blk hz 1; have HZ := Lib.hid hz; clear hz fA) | (have FA := Lib.hid (by exact (Fr.refl _ _).drew.trans fA (by simp [Ext]) : Fr [] wr wA); clear fA)))
        · go_wp2_with fail
          go_meet
          exact ⟨wA.heap.size, px, py, rfl, FA.out.size, alloc_new _ _, hpx, hpy, FA.out.alloc _⟩
        · go_wp2_with fail
          go_meet
          exact ⟨wr.heap.size, px, py, rfl, Nat.le_refl _, setCell_blk (setCell_blk HZ.out 0 _) 1 _, hpx, hpy, (FA.out.setCell (p := ⟨wr.heap.size, 0, none⟩) (.inr (Nat.le_refl _)) _).setCell (p := ⟨wr.heap.size, 1, none⟩) (.inr (Nat.le_refl _)) _⟩
      case rest =>
        obtain ⟨b, px, py, rfl, hbb, hcb, hpx, hpy, hfc⟩ := hcut
        have HBC := Lib.hid (hfc.blk HBR.out (by simp))
        have HRC := Lib.hid (hfc.blk HR.out (by simp))
        have HCB := Lib.hid hcb
        have HFC := Lib.hid hfc
        have HPX := Lib.hid hpx
        have HPY := Lib.hid hpy
        have hbu1 : bu < b := by have := lt_of_blk HR.out; omega
        obtain ⟨a, ha⟩ : ∃ a, a = 48 + 4 * pl + 8 * i := ⟨_, rfl⟩
        have HAE := Lib.hid ha
        have HB2 := Lib.hid (HBO.out wc i hib a ha)
        have han : a + 1 < n := by have := HN.out; omega
        clear hcb hfc hpx hpy ha hbb
        go_wp2_with (refine wpList_loadB rfl 31 (Operand.tmp 2) rfl bx 16 rfl C 31 (0, 0) HBC.out _ Try.underlying31 rfl HCS.out infoSetup ?_)
        refine HB2.out.mono ?_
        rintro e wD ⟨rfl, fD⟩
        have HFD := Lib.hid (HFC.out.trans fD (by simp [Ext]))
        have hrd := fD.blk HRC.out (by simp)
        have hcd := fD.blk HCB.out (by simp)
        have HRD2 := Lib.hid hrd
        have hai : (a : Int) < (n : Int) := by omega
        have hai1 : (a : Int) + 1 < (n : Int) := by omega
        have han0 : a < n := by omega
        have r0 : wD.cell? ⟨bu, a, none⟩ = some (.int .i64 (cells.getD a 0)) := by
          rw [row_cell hrd (by rw [HCL.out]; omega), List.getD_eq_getElem?_getD, List.getElem?_eq_getElem (by rw [HCL.out]; omega)]; rfl
        have f0 : wD.frozen? ⟨bu, a, none⟩ = false := row_frozen hrd _
        have r1 : ∀ v, (wD.setCell ⟨bu, a, none⟩ v).cell? ⟨bu, a + 1, none⟩ = some (.int .i64 (cells.getD (a + 1) 0)) := fun v => by
          rw [cell_blk (setCell_blk hrd a v), Array.getElem?_setIfInBounds_ne (by omega)]
          refine Eq.trans (cell_blk hrd (a + 1)).symm ?_
          rw [row_cell hrd (by rw [HCL.out]; omega), List.getD_eq_getElem?_getD, List.getElem?_eq_getElem (by rw [HCL.out]; omega)]; rfl
        have f1 : ∀ v, (wD.setCell ⟨bu, a, none⟩ v).frozen? ⟨bu, a + 1, none⟩ = false := fun v => frozen_blk (setCell_blk hrd a v) _
        have q0 : wD.cell? ⟨b, 0, none⟩ = some (.int .i64 px) := cell_blk hcd 0
        have q1 : ∀ v, (wD.setCell ⟨bu, a, none⟩ v).cell? ⟨b, 1, none⟩ = some (.int .i64 py) := fun v => by
          rw [World.cell?_of_block (a := ⟨b, 1, none⟩) (setCell_ne (a := ⟨bu, a, none⟩) (v := v) (by simp only; omega))]; exact cell_blk hcd 1
        clear fD hrd hcd
        go_wp2_with fail
        go_roundw
        case rel =>
          have h1 : Fr [bu] wr wD := HFD.out.mono (by simp)
          refine ⟨i + 1, (cells.set a px).set (a + 1) py, by omega, by go_num, by rw [List.length_set, List.length_set]; exact HCL.out, row_set (row_set HRD2.out a px) (a + 1) py, ?_, ?_, HP.out.put hib (by rw [HCL.out]; exact HN.out) HPX.out HPY.out HAE.out⟩
          · exact (HF.out.trans ((h1.setCell (p := ⟨bu, a, none⟩) (.inl (by simp)) _).setCell (p := ⟨bu, a + 1, none⟩) (.inl (by simp)) _) (Ext.refl _ _))
          · exact small_set (small_set HS.out a HPX.out.small) (a + 1) HPY.out.small
        case measure => simp [intOf]; omega
    · have HR2 := Lib.hid (HFZ.out.trans HF.out (fun k hk => .inr (by simp at hk; omega)) : Fr [] w wr)
      by_cases h1 : i < nb
      · have h1i : (i : Int) < (nb : Int) := by omega
        have h2i : decide (2 * (i : Int) + 1 < (l.length : Int)) = false := decide_eq_false (by omega)
        clear hin
        go_wp2_with fail
        go_ret
        exact ⟨bu, cells, rfl, HCL.out, HR.out, hwu, HR2.out, HS.out, HP.out⟩
      · have h1i : (nb : Int) ≤ (i : Int) := by omega
        clear hin
        go_wp2_with fail
        go_ret
        exact ⟨bu, cells, rfl, HCL.out, HR.out, hwu, HR2.out, HS.out, HP.out⟩
end Go.Proofs.Ytdbngpncigjfiaa
