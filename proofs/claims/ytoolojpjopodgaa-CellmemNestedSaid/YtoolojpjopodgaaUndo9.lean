/- CellmemUndo returns true. -/
import Derived.Deep.DeepCutAuto
import Derived.Test.YtoolojpjopodgaaBuilt9
import Derived.Test.YtoolojpjopodgaaPairs
namespace Go.Proofs.Ytoolojpjopodgaa
open Go.RowKit

/-- after i further sets -/
def setsS (S : MemS) (zs : List (Int × Int)) : Nat → MemS
  | 0 => S
  | i + 1 => (setsS S zs i).set (around (zs.getD i (0, 0)).1 6) (zs.getD i (0, 0)).2
theorem setsS_grew (S : MemS) (zs : List (Int × Int)) (i : Nat) : Grew S (setsS S zs i) := by
  induction i with
  | zero => exact Grew.refl _
  | succ i ih => exact ih.set _ _
theorem setsS_succ (S : MemS) (zs : List (Int × Int)) (i : Nat) (hi : i < zs.length) : setsS S zs (i + 1) = (setsS S zs i).set (around zs[i].1 6) zs[i].2 := by
  show (setsS S zs i).set (around (zs.getD i (0, 0)).1 6) (zs.getD i (0, 0)).2 = _
  rw [List.getD_eq_getElem?_getD, List.getElem?_eq_getElem hi]
  rfl

theorem around6 (x : Int) (hx : bounded x) : ∃ k : Int, around x 6 = k ∧ 0 ≤ k ∧ k < 6 ∧ ∀ u, Calls Try.prog 24 #[.int .i64 x, .int .i64 6] u fun e w' => e = .returned (.int .i64 k) ∧ w' = u := by
  obtain ⟨k, h1, h2, h3⟩ := around_nat x 6 hx (by omega) (by omega)
  exact ⟨k, h2.symm, by omega, by omega, fun u => (h3 u).mono fun _ _ ⟨a, b⟩ => ⟨a, b.symm⟩⟩

set_option maxRecDepth 100000 in
set_option maxHeartbeats 8000000 in
theorem undo_walk (w : World) (ao bo po : Option Addr) (ac bc pc : Nat) (cells l : List Int) (zs : List (Int × Int)) (hc : Rd w 1 ao cells.length (ints cells)) (hl : Rd w 1 bo l.length (ints l)) (hb : ∀ x ∈ l, bounded x) (hz : Srcp w po zs) :
    Calls Try.prog 9 #[.slice ao cells.length ac, .slice bo l.length bc, .slice po zs.length pc] w fun e w' => e = .returned (.bool true) ∧ Fr [] w w' := by
  have HBU := Lib.hid (built_any (G := []) (Fr.refl [] w) (by simp) ao bo ac bc cells l hc hl hb)
  have HZ := Lib.hid hz
  have hlen : zs.length ≤ 9223372036854775807 := by have := hz.rd.2.1; unfold maxLen at this; omega
  clear hc hl hb hz
  go_enter Try.func9, Try.ntmps9
  go_wp2_with fail
  refine HBU.out.mono ?_
  rintro e w1 ⟨p, rfl, h1, -⟩
  have hg := h1.good
  obtain ⟨S, hS⟩ : ∃ S, S = builtS cells l := ⟨_, rfl⟩
  rw [← hS] at h1 hg
  obtain ⟨lg, hlg⟩ : ∃ lg : Nat, lg = S.log.length := ⟨_, rfl⟩
  obtain ⟨P, hP⟩ : ∃ P, S.mark = P := ⟨_, rfl⟩
  have hP0 : 0 ≤ P := by rw [← hP]; have := hg.base; unfold MemS.mark; omega
  have hP30 : P ≤ 30 := by rw [← hP]; exact hg.cap
  have H1 := Lib.hid h1
  have HPM := Lib.hid hP
  have HLG := Lib.hid (by rw [hlg] : (S.log.length : Int) = lg)
  have hSl : S.cells.length ≤ 1000000 := hg.len
  clear h1 hg hS hlg hP HBU
  go_wp2_with fail
  refine (m_cells H1.out rfl).mono ?_
  rintro e w2 ⟨bx, rfl, hrow, h2, -, -⟩
  have H2 := Lib.hid h2
  have HR := Lib.hid hrow
  clear h2 hrow H1
  go_wp2_with fail
  refine (m_mark H2.out (by omega) HPM.out).mono ?_
  rintro e w3 ⟨rfl, k3, rfl⟩
  have H3 := Lib.hid (H2.out.drewN k3)
  have HR3 := Lib.hid (show (w2.drewN k3).heap[bx]? = some (row S.cells) from HR.out)
  clear H2 HR
  go_wp2_with fail
  refine (m_logged H3.out HLG.out).mono ?_
  rintro e w4 ⟨rfl, rfl⟩
  go_wp2_with fail
  go_loopw [11] (fun iv wr => ∃ i : Nat, i ≤ zs.length ∧ i ≤ 20 ∧ iv = .int .i64 (i : Int) ∧ OwnG (memX p (setsS S zs i) (30 + i)) w [bx] wr ∧ wr.heap[bx]? = some (row S.cells)) (fun iv _ => 20 - (intOf iv).toNat)
  case atStart => exact ⟨0, by omega, by omega, rfl, H3.out, HR3.out⟩
  case round =>
    clear H3 HR3
    obtain ⟨i, hi, hi20, rfl, hown, hrow⟩ := hrel
    have HO := Lib.hid hown
    have HR := Lib.hid hrow
    clear hown hrow
    by_cases hlt : i < zs.length ∧ i < 20
    · obtain ⟨h1, h2⟩ := hlt
      obtain ⟨g, off, rfl, c0, c1⟩ := HZ.out.pair HO.out.frame h1
      have hbn := HZ.out.bnd _ (List.getElem_mem h1)
      obtain ⟨k, hk, hk0, hk6, hA⟩ := around6 zs[i].1 hbn.1
      have HSE := Lib.hid (by rw [setsS_succ S zs i h1, hk] : setsS S zs (i + 1) = (setsS S zs i).set k zs[i].2)
      obtain ⟨x, hx⟩ : ∃ x, x = zs[i].1 := ⟨_, rfl⟩
      obtain ⟨y, hy⟩ : ∃ y, y = zs[i].2 := ⟨_, rfl⟩
      rw [← hx] at c0 hA
      rw [← hy] at c1 HSE
      have HA := Lib.hid hA
      clear hk hA hx hy hbn
      go_wp2_with fail
      refine wp_still_tail 12 (by kernel_rfl) (by kernel_rfl) ?_
      simp only [List.take_succ_cons, List.take_zero, List.drop_succ_cons, List.drop_zero]
      repeat still_step
      still_call (HA.out _)
      repeat still_step
      refine wpStill_nil ?_
      go_wp2_with fail
      refine (m_set (HO.out.drewN 1) k y (by omega) HSE.out.symm).mono ?_
      rintro e w5 ⟨rfl, h5, k5⟩
      have H5 := Lib.hid h5
      have R5 := Lib.hid ((k5 bx (by simp)).trans HR.out)
      clear h5 k5
      go_wp2_with fail
      go_roundw
      case rel => exact ⟨i + 1, by omega, by omega, by go_num, by have h := H5.out; rw [show (30 : Int) + ((i + 1 : Nat) : Int) = 30 + (i : Int) + 1 by omega]; exact h, R5.out⟩
      case measure => simp [intOf]; omega
    · have HU := Lib.hid (setsS_grew S zs i)
      have HU1 := Lib.hid (HPM.out ▸ HU.out.in : (setsS S zs i).base ≤ P ∧ P ≤ (setsS S zs i).base + (setsS S zs i).log.length)
      have HU2 := Lib.hid (HPM.out ▸ HU.out.undo : (setsS S zs i).undo P = S)
      have hcs : (i < zs.length ∧ ¬ i < 20) ∨ ¬ i < zs.length := by omega
      clear hlt
      rcases hcs with ⟨h1, h2⟩ | h1
      all_goals
        go_wp2_with fail
        refine (m_undo HO.out P (by omega) HU1.out.1 HU1.out.2 HU2.out).mono ?_
        rintro e w7 ⟨rfl, h7, k7⟩
        have H7 := Lib.hid h7
        have R7 := Lib.hid ((k7 bx (by simp)).trans HR.out)
        clear h7 k7 HO HR
        go_wp2_with fail
        refine (m_cells H7.out rfl).mono ?_
        rintro e w8 ⟨b8, rfl, hr8, h8, k8, -⟩
        have RA := Lib.hid (row_seg hr8 (by unfold maxLen; omega)).rd
        have RB := Lib.hid (row_seg ((k8 bx (by simp)).trans R7.out) (by unfold maxLen; omega)).rd
        have H8 := Lib.hid h8
        clear hr8 h8 k8 H7 R7
        go_wp2_with fail
        refine (same_yes w8 _ _ _ _ S.cells RA.out RB.out).mono ?_
        rintro e w9 ⟨rfl, k9, rfl⟩
        have H9 := Lib.hid (H8.out.drewN k9)
        clear RA RB
        go_wp2_with fail
        refine (m_mark H9.out (by omega) HPM.out).mono ?_
        rintro e w10 ⟨rfl, k10, rfl⟩
        have H10 := Lib.hid (H8.out.drewN (k9 + k10))
        clear H9 H8
        go_wp2_with fail
        refine (m_logged H10.out HLG.out).mono ?_
        rintro e w11 ⟨rfl, rfl⟩
        go_wp2_with fail
        refine (lives_any _).mono ?_
        rintro e w12 ⟨rfl, f12⟩
        have F12 := Lib.hid (H10.out.frame.trans f12 (by simp [Ext]))
        clear f12
        go_wp2_with fail
        go_ret
        exact ⟨rfl, F12.out⟩
end Go.Proofs.Ytoolojpjopodgaa
