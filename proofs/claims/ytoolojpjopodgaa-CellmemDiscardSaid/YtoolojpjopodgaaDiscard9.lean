/- CellmemDiscard returns true. -/
import Derived.Test.YtoolojpjopodgaaBuilt9
namespace Go.Proofs.Ytoolojpjopodgaa
open Go.RowKit

section
variable {s : MemS} {m : Int}
theorem MemS.check_stale (h : m < s.base) : s.check m = 24 := by unfold MemS.check; rw [if_pos h]
theorem MemS.check_range (h1 : s.base ≤ m) (h2 : s.base + s.log.length < m) : s.check m = 6 := by unfold MemS.check; rw [if_neg (by omega), if_pos h2]
theorem MemS.undoC_stale (h : m < s.base) : s.undoC m = (24, s) := by unfold MemS.undoC; rw [MemS.check_stale h]; rfl
theorem MemS.undoC_range (h1 : s.base ≤ m) (h2 : s.base + s.log.length < m) : s.undoC m = (6, s) := by unfold MemS.undoC; rw [MemS.check_range h1 h2]; rfl
theorem MemS.discC_stale (h : m < s.base) : s.discC m = (24, s) := by unfold MemS.discC; rw [MemS.check_stale h]; rfl
theorem MemS.chgC_stale (h : m < s.base) : s.chgC m = (24, []) := by unfold MemS.chgC; rw [MemS.check_stale h]; rfl
end

set_option maxRecDepth 100000 in
set_option maxHeartbeats 4000000 in
theorem discard_walk (w : World) (ao bo : Option Addr) (ac bc : Nat) (cells l : List Int) (hc : Rd w 1 ao cells.length (ints cells)) (hl : Rd w 1 bo l.length (ints l)) (hb : ∀ x ∈ l, bounded x) (back : Int) (hbk : bounded back) :
    Calls Try.prog 10 #[.slice ao cells.length ac, .slice bo l.length bc, .int .i64 back] w fun e w' => e = .returned (.bool true) ∧ Fr [] w w' := by
  have HBU := Lib.hid (built_any (G := []) (Fr.refl [] w) (by simp) ao bo ac bc cells l hc hl hb)
  clear hc hl hb
  go_enter Try.func10, Try.ntmps10
  go_wp2_with fail
  refine HBU.out.mono ?_
  rintro e w1 ⟨p, rfl, h1, -⟩
  have hg := h1.good
  obtain ⟨S, hS⟩ : ∃ S, S = builtS cells l := ⟨_, rfl⟩
  rw [← hS] at h1 hg
  obtain ⟨b, hbb⟩ : ∃ b, b = S.base := ⟨_, rfl⟩
  obtain ⟨lg, hlg⟩ : ∃ lg : Nat, lg = S.log.length := ⟨_, rfl⟩
  obtain ⟨P, hP⟩ : ∃ P, P = b + lg := ⟨_, rfl⟩
  have hPm : S.mark = P := by rw [hP, hbb, hlg]; rfl
  obtain ⟨k, hk, hka, hA⟩ := around_nat back (lg + 1) hbk (by omega) (by have := hg.cap; have := hg.base; omega)
  have hb0 : 0 ≤ b := by rw [hbb]; exact hg.base
  have hP30 : P ≤ 30 := by rw [hP, hbb, hlg]; exact hg.cap
  have hPb : P - (lg : Int) = b := by omega
  have hbP : b ≤ P - k := by omega
  obtain ⟨mk, hmk⟩ : ∃ mk, mk = P - (k : Int) := ⟨_, rfl⟩
  have hin1 : S.base ≤ mk := by rw [← hbb]; omega
  have hin2 : mk ≤ S.base + S.log.length := by rw [← hbb, ← hlg]; omega
  obtain ⟨S2, hS2⟩ : ∃ S2, S2 = S.disc mk := ⟨_, rfl⟩
  have hb2 : S2.base = mk := by rw [hS2]; rfl
  have hl2 : S2.log.length = k := by rw [hS2]; show (S.log.drop (mk - S.base).toNat).length = k; rw [List.length_drop, ← hbb, ← hlg]; omega
  have hc2 : S2.cells = S.cells := by rw [hS2]; rfl
  have U1 := Lib.hid (MemS.chgC_stale (s := S2) (m := mk - 1) (by rw [hb2]; omega))
  have U2 := Lib.hid (MemS.undoC_stale (s := S2) (m := mk - 1) (by rw [hb2]; omega))
  have U3 := Lib.hid (MemS.discC_stale (s := S2) (m := b - 1) (by rw [hb2]; omega))
  have U4 := Lib.hid (MemS.undoC_range (s := S2) (m := P + 1) (by rw [hb2]; omega) (by rw [hb2, hl2]; omega))
  obtain ⟨S3, hS3⟩ : ∃ S3, S3 = S2.undo mk := ⟨_, rfl⟩
  have hl3 : S3.log.length = 0 := by rw [hS3]; show (S2.log.take (mk - S2.base).toNat).length = 0; rw [hb2, Int.sub_self]; rfl
  have hm3 : S3.mark = mk := by show S3.base + (S3.log.length : Int) = mk; rw [hl3]; have : S3.base = S2.base := by rw [hS3]; rfl
                                rw [this, hb2]; simp
  have HIN1 := Lib.hid hin1
  have HIN2 := Lib.hid hin2
  have HIN3 := Lib.hid (by rw [hb2]; exact Int.le_refl _ : S2.base ≤ mk)
  have HIN4 := Lib.hid (by rw [hb2]; omega : mk ≤ S2.base + S2.log.length)
  have H1 := Lib.hid h1
  have HPM := Lib.hid hPm
  have HLG := Lib.hid (by rw [hlg] : (S.log.length : Int) = lg)
  have HA := Lib.hid (show ∀ u, Calls Try.prog 24 #[.int .i64 back, .int .i64 ((lg : Int) + 1)] u fun e w' => e = .returned (.int .i64 (k : Int)) ∧ u = w' from hA)
  have HPB := Lib.hid hPb
  have HMK := Lib.hid hmk.symm
  have HS2 := Lib.hid hS2.symm
  have HC2 := Lib.hid hc2
  have HL2 := Lib.hid (by rw [hl2] : (S2.log.length : Int) = (k : Int))
  have HB2 := Lib.hid hb2
  have HS3 := Lib.hid hS3.symm
  have HL3 := Lib.hid (by rw [hl3]; rfl : (S3.log.length : Int) = 0)
  have HM3 := Lib.hid hm3
  have hSl : S.cells.length ≤ 1000000 := hg.len
  have hkk : P - mk = k := by omega
  have HKK := Lib.hid hkk
  have hm0 : 0 ≤ mk := by omega
  have hmP : mk ≤ 30 := by omega
  have hk30 : (k : Int) ≤ 30 := by omega
  have hlg30 : (lg : Int) ≤ 30 := by omega
  have hb30 : b ≤ 30 := by omega
  have hP0 : 0 ≤ P := by omega
  clear h1 hg hS hbb hlg hP hPm hA hka hPb hmk hS2 hb2 hl2 hc2 hS3 hl3 hm3 HBU hbP hin1 hin2 hkk
  go_wp2_with fail
  refine (m_cells H1.out rfl).mono ?_
  rintro e w2 ⟨bx, rfl, hrow, h2, -⟩
  have H2 := Lib.hid h2
  have HR := Lib.hid hrow
  clear h2 hrow H1
  go_wp2_with fail
  refine (m_mark H2.out (by omega) HPM.out).mono ?_
  rintro e w3 ⟨rfl, k3, rfl⟩
  have H3 := Lib.hid (H2.out.drewN k3)
  have HR3 := Lib.hid (show (w2.drewN k3).heap[bx]? = some (row S.cells) from HR.out)
  clear H2 HR
  go_wp2_with fail
  refine (m_logged H3.out HLG.out).mono ?_
  rintro e w4 ⟨rfl, rfl⟩
  have hpb := HPB.out
  go_wp2_with fail
  clear hpb
  refine (m_logged H3.out HLG.out).mono ?_
  rintro e w4 ⟨rfl, rfl⟩
  go_wp2_with fail
  refine (HA.out _).mono ?_
  rintro e w4 ⟨rfl, rfl⟩
  have hmk := HMK.out
  go_wp2_with fail
  clear hmk
  refine (m_disc H3.out mk (by omega) HIN1.out HIN2.out HS2.out).mono ?_
  rintro e w4 ⟨rfl, h4, k4⟩
  have H4 := Lib.hid h4
  have HR4 := Lib.hid ((k4 bx (by simp)).trans HR3.out)
  clear h4 k4 H3 HR3
  go_wp2_with fail
  refine (m_cells H4.out HC2.out).mono ?_
  rintro e w5 ⟨by5, rfl, hrow, h5, k5⟩
  have H5 := Lib.hid h5
  have RA := Lib.hid (row_seg hrow (by unfold maxLen; omega)).rd
  have RB := Lib.hid (row_seg ((k5 bx (by simp)).trans HR4.out) (by unfold maxLen; omega)).rd
  clear hrow h5 k5 H4 HR4
  go_wp2_with fail
  refine (same_yes _ _ _ _ _ S.cells RA.out RB.out).mono ?_
  rintro e w6 ⟨rfl, k6, rfl⟩
  have H6 := Lib.hid (H5.out.drewN k6)
  clear H5 RA RB
  go_wp2_with fail
  refine (m_logged H6.out HL2.out).mono ?_
  rintro e w7 ⟨rfl, rfl⟩
  have hkk := HKK.out
  go_wp2_with fail
  clear hkk
  refine (m_changedC H6.out (mk - 1) (by omega) U1.out).mono ?_
  rintro e w7 ⟨xo, xc, rfl, -, h7, -⟩
  have H7 := Lib.hid h7
  clear h7 H6
  go_wp2_with fail
  refine (m_undoC H7.out (mk - 1) (by omega) U2.out).mono ?_
  rintro e w8 ⟨rfl, h8, -⟩
  have H8 := Lib.hid h8
  clear h8 H7
  go_wp2_with fail
  refine (m_discC H8.out (b - 1) (by omega) U3.out).mono ?_
  rintro e w9 ⟨rfl, h9, -⟩
  have H9 := Lib.hid h9
  clear h9 H8
  go_wp2_with fail
  refine (m_undoC H9.out (P + 1) (by omega) U4.out).mono ?_
  rintro e w10 ⟨rfl, h10, -⟩
  have H10 := Lib.hid h10
  clear h10 H9
  go_wp2_with fail
  refine (m_undo H10.out mk (by omega) HIN3.out HIN4.out HS3.out).mono ?_
  rintro e w11 ⟨rfl, h11, -⟩
  have H11 := Lib.hid h11
  clear h11 H10
  go_wp2_with fail
  refine (m_logged H11.out HL3.out).mono ?_
  rintro e w12 ⟨rfl, rfl⟩
  go_wp2_with fail
  refine (m_mark H11.out (by omega) HM3.out).mono ?_
  rintro e w12 ⟨rfl, k12, rfl⟩
  have H12 := Lib.hid (H11.out.drewN k12)
  clear H11
  go_wp2_with fail
  refine (lives_any _).mono ?_
  rintro e w13 ⟨rfl, f13⟩
  have F13 := Lib.hid (H12.out.frame.trans f13 (by simp [Ext]))
  clear f13
  go_wp2_with fail
  go_ret
  exact ⟨rfl, F13.out⟩
end Go.Proofs.Ytoolojpjopodgaa
