/- RSees, Seen, RSeen, Initial, Initial2 (merged by merge.py). -/
import Derived.Test.YtcgndeggemceaaaZ285
import Derived.BigRegion
/- The reference's Sees. -/
namespace Go.Proofs.Ytcgndeggemceaaa
open Go.RowKit

section
variable {w : World} {s : St} {bodies : List Bd} {rooms : List Bx} {doors : List (Int × Int)} {co : Option Addr} {cc : Nat} {cells : List Int}

set_option maxRecDepth 100000 in
set_option maxHeartbeats 8000000 in
theorem rsees_any (h : VPre w s bodies rooms doors co cc cells) (p b : Int) :
    Calls Try.prog 56 #[s.val, .slice co cells.length cc, .int .i64 p, .int .i64 b] w fun e w' => e = .returned (.bool (seesB s rooms doors cells p b)) ∧ Fr [] w w' := by
  have hpn := h.pn
  obtain ⟨C, hC⟩ := cAt s
  have HRO := Lib.hid fun u (hu : Fr [] w u) x y => (by rw [← hC.val]; exact rroom_any u s rooms doors (h.map.old hu) x y : Calls Try.prog 64 #[.agg C, .agg #[.int .i64 x, .int .i64 y]] u fun e w' => e = .returned (.int .i64 (roomOf rooms x y)) ∧ Fr [] u w')
  have HCN := Lib.hid fun u (hu : Fr [] w u) x y => (by rw [← hC.val]; exact conn_any u s rooms doors (h.map.old hu) x y : Calls Try.prog 67 #[.agg C, .int .i64 x, .int .i64 y] u fun e w' => e = .returned (.bool (connB doors x y)) ∧ Fr [] u w')
  have HP1 := Lib.hid fun (hp : 0 ≤ p ∧ p < (s.nb : Int)) u (hu : Fr [] w u) => (by rw [← hC.val]; exact position_any (h.old hu) p hp.1 hp.2 : Calls Try.prog 63 #[.agg C, .slice co cells.length cc, .int .i64 p] u fun e w' => e = .returned (.agg #[.int .i64 (posX s cells p), .int .i64 (posY s cells p)]) ∧ Fr [] u w')
  have HP2 := Lib.hid fun (hp : 0 ≤ b ∧ b < (s.nb : Int)) u (hu : Fr [] w u) => (by rw [← hC.val]; exact position_any (h.old hu) b hp.1 hp.2 : Calls Try.prog 63 #[.agg C, .slice co cells.length cc, .int .i64 b] u fun e w' => e = .returned (.agg #[.int .i64 (posX s cells b), .int .i64 (posY s cells b)]) ∧ Fr [] u w')
  have HCS := Lib.hid hC.size
  have HC8 := Lib.hid hC.c8
  have HPRE := Lib.hid h
  obtain ⟨bx, hbx⟩ : ∃ bx, bx = w.heap.size := ⟨_, rfl⟩
  obtain ⟨wb, hwb⟩ : ∃ wb, wb = w.alloc (.cells C 49) := ⟨_, rfl⟩
  have HB := Lib.hid (by rw [hwb, hbx]; exact alloc_new w _ : wb.heap[bx]? = some (.cells C 49 (0, 0)))
  have HWB := Lib.hid (by rw [hwb]; exact (Fr.refl [] w).alloc _ : Fr [] w wb)
  have HBX := Lib.hid hbx
  have HWE := Lib.hid hwb
  have c0 := (cell_blk HB.out 0).trans hC.c0
  have c1 := (cell_blk HB.out 1).trans hC.c1
  rw [hC.val]
  clear hbx hwb h hC
  by_cases hinv : p < 0 ∨ s.players ≤ p ∨ b < 0 ∨ (s.nb : Int) ≤ b
  · have HR := Lib.hid (by unfold seesB; rw [if_pos hinv] : seesB s rooms doors cells p b = false)
    have HINV := Lib.hid hinv
    clear hinv
    by_cases h0 : p < 0
    · have e0 : decide (p < 0) = true := decide_eq_true h0
      clear HPRE HP1 HP2
      go_enter Try.func56, Try.ntmps56
      go_upto_region 1 with (fail)
      rw [← HBX.out, ← HWE.out]
      go_wp2_with fail
      go_ret
      exact ⟨ret_bool HR.out.symm, HWB.out⟩
    have e0 : decide (p < 0) = false := decide_eq_false h0
    by_cases h1 : s.players ≤ p
    · have e1 : decide (s.players ≤ p) = true := decide_eq_true h1
      clear HPRE HP1 HP2
      go_enter Try.func56, Try.ntmps56
      go_upto_region 1 with (fail)
      rw [← HBX.out, ← HWE.out]
      go_wp2_with fail
      go_ret
      exact ⟨ret_bool HR.out.symm, HWB.out⟩
    have e1 : decide (s.players ≤ p) = false := decide_eq_false h1
    by_cases h2 : b < 0
    · have e2 : decide (b < 0) = true := decide_eq_true h2
      clear HPRE HP1 HP2
      go_enter Try.func56, Try.ntmps56
      go_upto_region 1 with (fail)
      rw [← HBX.out, ← HWE.out]
      go_wp2_with fail
      go_ret
      exact ⟨ret_bool HR.out.symm, HWB.out⟩
    have e2 : decide (b < 0) = false := decide_eq_false h2
    by_cases h3 : (s.nb : Int) ≤ b
    · have e3 : decide ((s.nb : Int) ≤ b) = true := decide_eq_true h3
      clear HPRE HP1 HP2
      go_enter Try.func56, Try.ntmps56
      go_upto_region 1 with (fail)
      rw [← HBX.out, ← HWE.out]
      go_wp2_with fail
      go_ret
      exact ⟨ret_bool HR.out.symm, HWB.out⟩
    exact absurd HINV.out (by omega)
  · have hbv' : 0 ≤ b ∧ b < (s.nb : Int) := by omega
    have hpv' : 0 ≤ p ∧ p < (s.nb : Int) := by omega
    have e0 : decide (p < 0) = false := decide_eq_false (by omega)
    have e1 : decide (s.players ≤ p) = false := decide_eq_false (by omega)
    have e2 : decide (b < 0) = false := decide_eq_false (by omega)
    have e3 : decide ((s.nb : Int) ≤ b) = false := decide_eq_false (by omega)
    have HNV := Lib.hid hinv
    by_cases hbp : b = p
    · have HR := Lib.hid (by unfold seesB; rw [if_neg hinv, if_pos hbp] : seesB s rooms doors cells p b = true)
      have hbe : (p == b) = true := beq_iff_eq.2 hbp.symm
      clear hinv hbp hbv' hpv' hpn
      go_enter Try.func56, Try.ntmps56
      go_upto_region 1 with (fail)
      rw [← HBX.out, ← HWE.out]
      go_wp2_with fail
      go_ret
      exact ⟨ret_bool HR.out.symm, HWB.out⟩
    · have HR := Lib.hid (by unfold seesB; rw [if_neg hinv, if_neg hbp] : seesB s rooms doors cells p b = farB s rooms doors (posX s cells p) (posY s cells p) (posX s cells b) (posY s cells b))
      have hbe : (p == b) = false := beq_eq_false_iff_ne.2 fun e => hbp e.symm
      have HMP := Lib.hid (HP1.out hpv')
      have HMQ := Lib.hid (HP2.out hbv')
      obtain ⟨hcp1, hcp2⟩ := HPRE.out.pos p hpv'.1 hpv'.2
      obtain ⟨hcq1, hcq2⟩ := HPRE.out.pos b hbv'.1 hbv'.2
      have hf0 := HPRE.out.f0
      obtain ⟨px, hpx⟩ : ∃ px, px = posX s cells p := ⟨_, rfl⟩
      obtain ⟨py, hpy⟩ : ∃ py, py = posY s cells p := ⟨_, rfl⟩
      obtain ⟨qx, hqx⟩ : ∃ qx, qx = posX s cells b := ⟨_, rfl⟩
      obtain ⟨qy, hqy⟩ : ∃ qy, qy = posY s cells b := ⟨_, rfl⟩
      rw [← hpx, ← hpy] at HMP
      rw [← hqx, ← hqy] at HMQ
      rw [← hpx, ← hpy, ← hqx, ← hqy] at HR
      rw [← hpx] at hcp1
      rw [← hpy] at hcp2
      rw [← hqx] at hcq1
      rw [← hqy] at hcq2
      have HC1 := Lib.hid hcp1
      have HC2 := Lib.hid hcp2
      have HC3 := Lib.hid hcq1
      have HC4 := Lib.hid hcq2
      clear hinv hbp hbv' hpv' hpn HP1 HP2 hcp1 hcp2 hcq1 hcq2 hpx hpy hqx hqy
      go_enter Try.func56, Try.ntmps56
      go_upto_region 1 with (fail)
      rw [← HBX.out, ← HWE.out]
      go_upto_region 5 with fail
      go_upto_region 6 with (first | (refine wpList_loadB rfl 49 (Operand.tmp 4) rfl bx 16 rfl C 49 (0, 0) HB.out _ Try.underlying49 rfl HCS.out infoSetup ?_) | (go_at_call 63; refine (HMP.out wb HWB.out).mono ?_; rintro e w3 ⟨rfl, hf3⟩; have HF3 := Lib.hid hf3; have HB3 := Lib.hid (hf3.blk HB.out (by simp)); clear hf3))
      obtain ⟨W3, hW3⟩ : ∃ W3, W3 = w3.alloc (.cells #[.int .i64 px, .int .i64 py] 47) := ⟨_, rfl⟩
      obtain ⟨b9, hb9⟩ : ∃ b9, b9 = w3.heap.size := ⟨_, rfl⟩
      have HW3 := Lib.hid (by rw [hW3]; exact (HWB.out.trans HF3.out (by simp [Ext])).alloc _ : Fr [] w W3)
      have HBW3 := Lib.hid (by rw [hW3]; exact alloc_old HB3.out : W3.heap[bx]? = some (.cells C 49 (0, 0)))
      have H9 := Lib.hid (by rw [hW3, hb9]; exact alloc_new w3 _ : W3.heap[b9]? = some (.cells #[.int .i64 px, .int .i64 py] 47 (0, 0)))
      rw [← hW3, ← hb9]
      clear hW3 hb9 c0 c1
      go_upto_region 7 with (first | (refine wpList_loadB rfl 49 (Operand.tmp 4) rfl bx 16 rfl C 49 (0, 0) HBW3.out _ Try.underlying49 rfl HCS.out infoSetup ?_) | (go_at_call 63; refine (HMQ.out W3 HW3.out).mono ?_; rintro e w4 ⟨rfl, hf4⟩; have HF4 := Lib.hid hf4; have HB4 := Lib.hid (hf4.blk HBW3.out (by simp)); have H94 := Lib.hid (hf4.blk H9.out (by simp)); clear hf4))
      obtain ⟨W4, hW4⟩ : ∃ W4, W4 = w4.alloc (.cells #[.int .i64 qx, .int .i64 qy] 47) := ⟨_, rfl⟩
      obtain ⟨b10, hb10⟩ : ∃ b10, b10 = w4.heap.size := ⟨_, rfl⟩
      have HW4 := Lib.hid (by rw [hW4]; exact (HW3.out.trans HF4.out (by simp [Ext])).alloc _ : Fr [] w W4)
      have HBW4 := Lib.hid (by rw [hW4]; exact alloc_old HB4.out : W4.heap[bx]? = some (.cells C 49 (0, 0)))
      have H9W := Lib.hid (by rw [hW4]; exact alloc_old H94.out : W4.heap[b9]? = some (.cells #[.int .i64 px, .int .i64 py] 47 (0, 0)))
      have H10 := Lib.hid (by rw [hW4, hb10]; exact alloc_new w4 _ : W4.heap[b10]? = some (.cells #[.int .i64 qx, .int .i64 qy] 47 (0, 0)))
      rw [← hW4, ← hb10]
      clear hW4 hb10
      have q0 := cell_blk H9W.out 0
      have q1 := cell_blk H9W.out 1
      obtain ⟨ra, hra⟩ : ∃ ra, ra = roomOf rooms px py := ⟨_, rfl⟩
      obtain ⟨rb, hrb⟩ : ∃ rb, rb = roomOf rooms qx qy := ⟨_, rfl⟩
      have HRA := Lib.hid hra
      have HRB := Lib.hid hrb
      clear hra hrb
      go_upto_region 8 with (first | (refine wpList_loadB rfl 49 (Operand.tmp 4) rfl bx 16 rfl C 49 (0, 0) HBW4.out _ Try.underlying49 rfl HCS.out infoSetup ?_) | (go_at_call 64; refine (HRO.out W4 HW4.out px py).mono ?_; rintro e w5 ⟨rfl, hf5⟩; rw [← HRA.out]; have HF5 := Lib.hid hf5; have HB5 := Lib.hid (hf5.blk HBW4.out (by simp)); have r0 := cell_blk (hf5.blk H10.out (by simp)) 0; have r1 := cell_blk (hf5.blk H10.out (by simp)) 1; have HW5 := Lib.hid (HW4.out.trans hf5 (by simp [Ext])); clear hf5))
      clear q0 q1
      go_upto_region 9 with (first | (refine wpList_loadB rfl 49 (Operand.tmp 4) rfl bx 16 rfl C 49 (0, 0) HB5.out _ Try.underlying49 rfl HCS.out infoSetup ?_) | (go_at_call 64; refine (HRO.out w5 HW5.out qx qy).mono ?_; rintro e w6 ⟨rfl, hf6⟩; rw [← HRB.out]; have HF6 := Lib.hid (HF5.out.trans hf6 (by simp [Ext])); clear hf6))
      clear r0 r1
      by_cases hna : ra < 0
      · have HNO := Lib.hid (by unfold farB roomsSee; rw [← HRA.out, decide_eq_false (by omega : ¬ 0 ≤ ra)]; simp : farB s rooms doors px py qx qy = false)
        have hnd : decide (ra < 0) = true := decide_eq_true hna
        clear hna
        go_wp2_with fail
        go_ret
        exact ⟨ret_bool (by rw [HR.out, HNO.out]), (HW4.out.trans HF6.out (by simp [Ext]))⟩
      have hnd : decide (ra < 0) = false := decide_eq_false hna
      by_cases hnb : rb < 0
      · have HNO := Lib.hid (by unfold farB roomsSee; rw [← HRB.out, decide_eq_false (by omega : ¬ 0 ≤ rb)]; simp : farB s rooms doors px py qx qy = false)
        have hnd2 : decide (rb < 0) = true := decide_eq_true hnb
        clear hnb
        go_wp2_with fail
        go_ret
        exact ⟨ret_bool (by rw [HR.out, HNO.out]), (HW4.out.trans HF6.out (by simp [Ext]))⟩
      have hnd2 : decide (rb < 0) = false := decide_eq_false hnb
      have HYES := Lib.hid (by unfold farB roomsSee; rw [← HRA.out, ← HRB.out, decide_eq_true (by omega : 0 ≤ ra), decide_eq_true (by omega : 0 ≤ rb), Bool.true_and, Bool.true_and] : farB s rooms doors px py qx qy = (connB doors ra rb && decide ((qx - px) * (qx - px) + (qy - py) * (qy - py) < (s.fog + 1) * (s.fog + 1))))
      have HDX := Lib.hid (dd_bound HC3.out HC1.out)
      have HDY := Lib.hid (dd_bound HC4.out HC2.out)
      have HSU := Lib.hid fun u => rsub_any u qx qy px py HC3.out HC4.out HC1.out HC2.out
      have HLE := Lib.hid fun u => rlen_any u (qx - px) (qy - py) HDX.out HDY.out
      have K10 := Lib.hid (fun (u : World) (hu : Fr [] w6 u) => (⟨cell_blk ((HF6.out.trans hu (by simp [Ext])).blk H10.out (by simp)) 0, cell_blk ((HF6.out.trans hu (by simp [Ext])).blk H10.out (by simp)) 1, cell_blk ((HF6.out.trans hu (by simp [Ext])).blk H9W.out (by simp)) 0, cell_blk ((HF6.out.trans hu (by simp [Ext])).blk H9W.out (by simp)) 1, (cell_blk ((HF6.out.trans hu (by simp [Ext])).blk HBW4.out (by simp)) 8).trans HC8.out⟩ :
            u.cell? ⟨b10, 0, none⟩ = some (.int .i64 qx) ∧ u.cell? ⟨b10, 1, none⟩ = some (.int .i64 qy) ∧ u.cell? ⟨b9, 0, none⟩ = some (.int .i64 px) ∧ u.cell? ⟨b9, 1, none⟩ = some (.int .i64 py) ∧ u.cell? ⟨bx, 8, none⟩ = some (.int .i64 s.fog)))
      clear hna hnb
      go_upto_region 11 with fail
      go_region_held3 (fun u => u.cell? ⟨b10, 0, none⟩ = some (.int .i64 qx) ∧ u.cell? ⟨b10, 1, none⟩ = some (.int .i64 qy) ∧ u.cell? ⟨b9, 0, none⟩ = some (.int .i64 px) ∧ u.cell? ⟨b9, 1, none⟩ = some (.int .i64 py) ∧ u.cell? ⟨bx, 8, none⟩ = some (.int .i64 s.fog)) (first | exact K10.out _ ((Fr.refl _ _).drew) | exact K10.out _ HG1.out | exact K10.out _ HG2.out) (first | (go_at_call 66; refine (HSU.out _).mono ?_; rintro e w7 ⟨rfl, hg1⟩; have HG1 := Lib.hid (by exact ((Fr.refl [] w6).drew).trans hg1 (by simp [Ext]) : Fr [] w6 w7); clear hg1) | (go_at_call 65; refine (HLE.out _).mono ?_; rintro e w8 ⟨r, rfl, hr, hrs, hg2⟩; have HG2 := Lib.hid (by exact HG1.out.trans hg2 (by simp [Ext]) : Fr [] w6 w8); have HB8 := Lib.hid ((HF6.out.trans HG2.out (by simp [Ext])).blk HBW4.out (by simp)); have HW8 := Lib.hid ((HW4.out.trans HF6.out (by simp [Ext])).trans HG2.out (by simp [Ext])); have HRT := Lib.hid hr; clear hr hg2))
      have hnn : 0 ≤ (qx - px) * (qx - px) + (qy - py) * (qy - py) := by have := mul_self_nn (qx - px); have := mul_self_nn (qy - py); omega
      have HFG := Lib.hid (root_fog HRT.out hf0 (Int.toNat_of_nonneg hnn).symm)
      clear hnn
      by_cases hle : (r : Int) ≤ s.fog
      · have hled : decide ((r : Int) ≤ s.fog) = true := decide_eq_true hle
        rw [hled] at HFG ⊢
        clear hle
        go_wp2_with (first | (refine wpList_loadG (by rfl) 49 (Operand.tmp 4) rfl bx 16 rfl C 49 (0, 0) HB8.out _ Try.underlying49 rfl HCS.out infoSetup ?_) | (go_at_call 67; refine (HCN.out w8 HW8.out _ _).mono ?_; rintro e w9 ⟨rfl, hf9⟩; have HF9 := Lib.hid hf9; clear hf9))
        go_ret
        exact ⟨ret_bool (by rw [HR.out, HYES.out, ← HFG.out, Bool.and_true]), HW8.out.trans HF9.out (by simp [Ext])⟩
      · have hled : decide ((r : Int) ≤ s.fog) = false := decide_eq_false hle
        rw [hled] at HFG ⊢
        clear hle
        go_wp2_with fail
        go_ret
        exact ⟨ret_bool (by rw [HR.out, HYES.out, ← HFG.out, Bool.and_false]), HW8.out⟩
end
end Go.Proofs.Ytcgndeggemceaaa
/- Package visibility: Seen; the reference's Seen. -/
namespace Go.Proofs.Ytcgndeggemceaaa
open Go.RowKit

section
variable {w : World} {s : St} {bodies : List Bd} {rooms : List Bx} {doors : List (Int × Int)} {co : Option Addr} {cc : Nat} {cells : List Int}

/-- what a player sees -/
def seenL (s : St) (rooms : List Bx) (doors : List (Int × Int)) (cells : List Int) (p : Int) : List Int := accL (fun k => seesB s rooms doors cells p (k : Int)) s.nb

set_option maxRecDepth 100000 in
set_option maxHeartbeats 4000000 in
theorem seenC_any (h : VPre w s bodies rooms doors co cc cells) (C : Array Value) (hC : CAt s C) (p : Int) (tb t2 t3 : Nat) (hb : w.heap[tb]? = some (.cells C 49 (0, 0)))
    (c2 : w.cell? ⟨t2, 0, none⟩ = some (.slice co cells.length cc)) (c3 : w.cell? ⟨t3, 0, none⟩ = some (.int .i64 p)) (k : Int) :
    Calls Try.prog 47 #[.int .i64 k, .pointer (some ⟨tb, 0, none⟩), .pointer (some ⟨t2, 0, none⟩), .pointer (some ⟨t3, 0, none⟩)] w fun e w' => e = .returned (.bool (seesB s rooms doors cells p k)) ∧ Fr [] w w' := by
  have HS := Lib.hid (by have := sees_any h p k; rw [hC.val] at this; exact this)
  have HB := Lib.hid hb
  have HCS := Lib.hid hC.size
  clear h hC hb
  go_enter Try.func47, Try.ntmps47
  go_wp2_with (first | (refine wpList_loadB rfl 49 (Operand.tmp 1) rfl tb 16 rfl C 49 (0, 0) HB.out _ Try.underlying49 rfl HCS.out infoSetup ?_) | (go_at_call 48; refine HS.out.mono ?_; rintro e w1 ⟨rfl, hf1⟩; have HF1 := Lib.hid hf1; clear hf1))
  go_ret
  exact ⟨rfl, HF1.out⟩

set_option maxRecDepth 100000 in
set_option maxHeartbeats 4000000 in
theorem seen_any (h : VPre w s bodies rooms doors co cc cells) (p : Int) :
    Calls Try.prog 24 #[s.val, .slice co cells.length cc, .int .i64 p] w (IntsTo w (seenL s rooms doors cells p)) := by
  have hnb := h.mp.ok.b1
  obtain ⟨C, hC⟩ := cAt s
  obtain ⟨bx, hbx⟩ : ∃ bx, bx = w.heap.size := ⟨_, rfl⟩
  obtain ⟨wb, hwb⟩ : ∃ wb, wb = ((w.alloc (.cells C 49)).alloc (.cells #[.slice co cells.length cc] 22)).alloc (.cells #[.int .i64 p] 3) := ⟨_, rfl⟩
  have hB : wb.heap[bx]? = some (.cells C 49 (0, 0)) := by rw [hwb, hbx]; exact alloc_old (alloc_old (alloc_new w _))
  have hB2 : wb.heap[bx + 1]? = some (.cells #[.slice co cells.length cc] 22 (0, 0)) := by rw [hwb, hbx]; exact alloc_old (alloc_new2 w _ _)
  have hB3 : wb.heap[bx + 1 + 1]? = some (.cells #[.int .i64 p] 3 (0, 0)) := by
    rw [hwb, hbx, show w.heap.size + 1 + 1 = ((w.alloc (.cells C 49)).alloc (.cells #[.slice co cells.length cc] 22)).heap.size by simp]; exact alloc_new _ _
  have hWB : Fr [] w wb := by rw [hwb]; exact (((Fr.refl [] w).alloc _).alloc _).alloc _
  have HBEL := Lib.hid (below_seen wb s.nb hnb bx (bx + 1) (bx + 1 + 1) (fun k => seesB s rooms doors cells p (k : Int)) fun k wr _ hf =>
    seenC_any (h.old (hWB.trans hf (by simp [Ext]))) C hC p bx (bx + 1) (bx + 1 + 1) (hf.blk hB (by simp)) (cell_blk (hf.blk hB2 (by simp)) 0) (cell_blk (hf.blk hB3 (by simp)) 0) (k : Int))
  have c1 := (cell_blk hB 1).trans hC.c1
  have HWB := Lib.hid hWB
  have HBX := Lib.hid hbx
  have HWE := Lib.hid hwb
  rw [hC.val]
  clear h hC hbx hwb hB hB2 hB3 hWB
  go_enter Try.func24, Try.ntmps24
  go_upto_region 1 with (fail)
  rw [← HBX.out, ← HWE.out]
  go_wp2_with (go_at_call 46; refine HBEL.out.mono ?_; rintro e w2 ⟨oa, oc, rfl, hs2, hf2, hb2⟩; have HS2 := Lib.hid hs2; have HF2 := Lib.hid hf2; have HB2 := Lib.hid hb2; clear hs2 hf2 hb2)
  go_ret
  exact ⟨oa, oc, rfl, HS2.out, HWB.out.trans HF2.out (by simp [Ext]), fun k hk => by have := HB2.out k hk; have := HWB.out.size; omega⟩
end
end Go.Proofs.Ytcgndeggemceaaa
/- The reference's Seen. -/
namespace Go.Proofs.Ytcgndeggemceaaa
open Go.RowKit

section
variable {w : World} {s : St} {bodies : List Bd} {rooms : List Bx} {doors : List (Int × Int)} {co : Option Addr} {cc : Nat} {cells : List Int}

set_option maxRecDepth 100000 in
set_option maxHeartbeats 4000000 in
theorem rseen_any (h : VPre w s bodies rooms doors co cc cells) (p : Int) :
    Calls Try.prog 45 #[s.val, .slice co cells.length cc, .int .i64 p] w (IntsTo w (seenL s rooms doors cells p)) := by
  have hnb := h.mp.ok.b1
  obtain ⟨C, hC⟩ := cAt s
  have HSEE := Lib.hid fun u (hu : Fr [] w u) b => (by rw [← hC.val]; exact rsees_any (h.old hu) p b : Calls Try.prog 56 #[.agg C, .slice co cells.length cc, .int .i64 p, .int .i64 b] u fun e w' => e = .returned (.bool (seesB s rooms doors cells p b)) ∧ Fr [] u w')
  obtain ⟨q, hq⟩ : ∃ q : Nat → Bool, q = fun k : Nat => seesB s rooms doors cells p (k : Int) := ⟨_, rfl⟩
  have HQ := Lib.hid (by unfold seenL; rw [hq] : seenL s rooms doors cells p = accL q s.nb)
  have HQE := Lib.hid (fun k : Nat => (by rw [hq] : q k = seesB s rooms doors cells p (k : Int)))
  have HCS := Lib.hid hC.size
  have HC1 := Lib.hid hC.c1
  rw [hC.val]
  clear h hC hq
  obtain ⟨nb, hnbe⟩ : ∃ nb, nb = s.nb := ⟨_, rfl⟩
  obtain ⟨bx, hbx⟩ : ∃ bx, bx = w.heap.size := ⟨_, rfl⟩
  obtain ⟨wb, hwb⟩ : ∃ wb, wb = w.alloc (.cells C 49) := ⟨_, rfl⟩
  have HB := Lib.hid (by rw [hwb, hbx]; exact alloc_new w _ : wb.heap[bx]? = some (.cells C 49 (0, 0)))
  have HWB := Lib.hid (by rw [hwb]; exact (Fr.refl [] w).alloc _ : Fr [] w wb)
  have HBX := Lib.hid hbx
  have HWE := Lib.hid hwb
  have C1 := Lib.hid fun wr (hf : Fr [] wb wr) => (by rw [hnbe]; exact (cell_blk (hf.blk HB.out (by simp)) 1).trans HC1.out : wr.cell? ⟨bx, 1, none⟩ = some (.slice s.bo nb s.bc))
  rw [← hnbe] at HQ hnb
  clear hbx hwb hnbe
  obtain ⟨ii, hii, hii0, hii1, hii2⟩ := info_parts infoInt
  go_enter Try.func45, Try.ntmps45
  go_upto_region 1 with (fail)
  rw [← HBX.out, ← HWE.out]
  go_wp2_with fail
  go_loopw [7, 8] (fun vv iv wr => ∃ i : Nat, i ≤ nb ∧ iv = .int .i64 (i : Int) ∧ AccAt wb (accL q i) vv wr) (fun _ iv _ => nb - (intOf iv).toNat)
  case atStart => exact ⟨0, by omega, rfl, AccAt.start wb⟩
  case round =>
    obtain ⟨i, hi, rfl, hac⟩ := hrel
    by_cases hil : i < nb
    · obtain ⟨oa, oc, rfl, hseg, hf, hbl⟩ := hac
      have hlen := accL_len q i
      obtain ⟨L, hL⟩ : ∃ L, L = accL q i := ⟨_, rfl⟩
      have HL := Lib.hid hL
      rw [← hL] at hlen hseg ⊢
      have HS := Lib.hid hseg
      have HBL := Lib.hid hbl
      have HF := Lib.hid hf
      have HBR := Lib.hid (hf.blk HB.out (by simp))
      have cr := C1.out wr hf
      have HC := Lib.hid (HSEE.out wr (HWB.out.trans hf (by simp [Ext])) (i : Int))
      obtain ⟨b, hb⟩ : ∃ b, b = q i := ⟨_, rfl⟩
      rw [← HQE.out i, ← hb] at HC
      have HP := Lib.hid hb
      have hini : (i : Int) < (nb : Int) := by omega
      clear hL hseg hbl hf hb
      cases b
      · go_wp2_with (first | (refine wpList_loadB rfl 49 (Operand.tmp 3) rfl bx 16 rfl C 49 (0, 0) HBR.out _ Try.underlying49 rfl HCS.out infoSetup ?_) | (go_at_call 56; refine HC.out.mono ?_; rintro e w1 ⟨rfl, hf1⟩; have HF1 := Lib.hid hf1; clear hf1))
        go_roundw
        case rel => exact ⟨i + 1, by omega, by go_num, by rw [accL_no HP.out.symm, ← HL.out]; exact ⟨oa, oc, rfl, HS.out.fr HF1.out (by simp), HF.out.trans HF1.out (by simp [Ext]), HBL.out⟩⟩
        case measure => simp [intOf]; omega
      · go_wp2_with (first | (refine wpList_loadB rfl 49 (Operand.tmp 3) rfl bx 16 rfl C 49 (0, 0) HBR.out _ Try.underlying49 rfl HCS.out infoSetup ?_) | (go_at_call 56; refine HC.out.mono ?_; rintro e w1 ⟨rfl, hf1⟩; have HF1 := Lib.hid hf1; clear hf1; have HSA := Lib.hid fun (o : Obj) => (HS.out.fr HF1.out (by simp)).alloc o; have HNE := Lib.hid (one_new w1)) | (at_builtin; refine wpList_append_seg rfl _ _ 22 rfl 3 ii _ 1 8 Try.underlying22 hii hii0 hii1 hii2 rfl (by decide) oa L.length oc (ints L) rfl (HSA.out _) ⟨_, 0, none⟩ 1 1 [_] rfl rfl (HNE.out _ _) (by simp [Value.oneCell']) (by unfold maxLen; omega) (by omega) ?_; intro ao' cap' w5 hs5 hf5 hx5; have HS5 := Lib.hid hs5; have HF5 := Lib.hid hf5; have HX5 := Lib.hid hx5; clear hs5 hf5 hx5))
        go_roundw
        case rel =>
          refine ⟨i + 1, by omega, by go_num, ?_⟩
          rw [accL_yes HP.out.symm, ← HL.out]
          have hbo := HBL.out
          have hf1 := HF.out.trans HF1.out (by simp [Ext])
          refine ⟨ao', cap', by simp, by rw [ints_append]; simpa [ints] using HS5.out, ?_, fun k hk => ?_⟩
          · exact ((hf1.alloc _).trans HF5.out fun k hk => .inr (hbo k hk))
          · rcases HX5.out k hk with h | h
            · exact hbo k h
            · have := hf1.size; simp at h; omega
        case measure => simp [intOf]; omega
    · have hke : i = nb := by omega
      have HR := Lib.hid (by rw [hke] at hac; exact (hac.from HWB.out).to)
      have cr := C1.out wr (by obtain ⟨_, _, _, _, hf, _⟩ := hac; exact hf)
      clear hke hac
      go_wp2_with fail
      go_ret
      rw [HQ.out]
      exact HR.out
end
end Go.Proofs.Ytcgndeggemceaaa
/- Package layout: Initial. -/
namespace Go.Proofs.Ytcgndeggemceaaa
open Go.RowKit

def bodyRow (d : Bd) : List Int := [d.px, d.py, d.vx, d.vy, d.a, d.b, 0, 0]
def initK (pl : Nat) (bodies : List Bd) (i : Nat) : List Int := (List.replicate (48 + 4 * pl) 0 ++ (bodies.take i).flatMap bodyRow) ++ List.replicate (8 * (bodies.length - i)) 0
def initL (pl : Nat) (bodies : List Bd) : List Int := initK pl bodies bodies.length

theorem rows_len (l : List Bd) : (l.flatMap bodyRow).length = 8 * l.length := by
  induction l with
  | nil => rfl
  | cons d l ih => rw [List.flatMap_cons, List.length_append, ih]; simp [bodyRow]; omega
theorem initK_len (pl : Nat) (bodies : List Bd) (i : Nat) (hi : i ≤ bodies.length) : (initK pl bodies i).length = 48 + 4 * pl + 8 * bodies.length := by
  unfold initK
  rw [List.length_append, List.length_append, rows_len, List.length_take]
  simp; omega
theorem initK_zero (pl : Nat) (bodies : List Bd) : initK pl bodies 0 = List.replicate (48 + 4 * pl + 8 * bodies.length) 0 := by
  unfold initK
  simp only [List.take_zero, List.flatMap_nil, List.append_nil, Nat.sub_zero]
  rw [List.replicate_append_replicate]
theorem set_far (A L : List Int) (j : Nat) (x : Int) : (A ++ L).set (A.length + j) x = A ++ L.set j x := by
  rw [List.set_append_right _ _ (by omega)]; congr 2; omega
theorem initK_head (pl : Nat) (bodies : List Bd) (i : Nat) (hi : i < bodies.length) : (List.replicate (48 + 4 * pl) (0 : Int) ++ (bodies.take i).flatMap bodyRow).length = 48 + 4 * pl + 8 * i := by
  rw [List.length_append, rows_len, List.length_take]; simp; omega
theorem initK_step (pl : Nat) (bodies : List Bd) (i : Nat) (hi : i < bodies.length) (b : Nat) (hb : b = 48 + 4 * pl + 8 * i) (d : Bd) (hd : d = bodies[i]) :
    ((((((initK pl bodies i).set b d.px).set (b + 1) d.py).set (b + 2) d.vx).set (b + 3) d.vy).set (b + 4) d.a).set (b + 5) d.b = initK pl bodies (i + 1) := by
  have hl := initK_head pl bodies i hi
  unfold initK
  rw [List.take_succ_eq_append_getElem hi, List.flatMap_append, ← hd]
  obtain ⟨A, hA⟩ : ∃ A, A = List.replicate (48 + 4 * pl) (0 : Int) ++ (bodies.take i).flatMap bodyRow := ⟨_, rfl⟩
  rw [← List.append_assoc, ← hA]
  rw [← hA] at hl
  rw [hb, ← hl, show 8 * (bodies.length - i) = 8 * (bodies.length - (i + 1)) + 1 + 1 + 1 + 1 + 1 + 1 + 1 + 1 by omega]
  simp only [List.replicate_succ]
  have h0 : ∀ L x, (A ++ L).set A.length x = A ++ L.set 0 x := fun L x => by have h := set_far A L 0 x; rwa [Nat.add_zero] at h
  simp only [h0, set_far]
  simp [bodyRow]

theorem Bd.flat_get (bodies : List Bd) (k j : Nat) (hk : k < bodies.length) (hj : j < 9) : (bodies.flatMap Bd.cells)[k * 9 + j]? = ((bodies[k]).cells)[j]? := by
  induction bodies generalizing k with
  | nil => simp at hk
  | cons d l ih =>
    rw [List.flatMap_cons]
    cases k with
    | zero => rw [List.getElem?_append_left (by simp [Bd.cells]; omega)]; simp
    | succ k =>
      rw [List.getElem?_append_right (by simp [Bd.cells]; omega)]
      have h := ih k (by simpa using hk)
      rw [show (k + 1) * 9 + j - d.cells.length = k * 9 + j by simp [Bd.cells]; omega]
      simpa using h

/-- the bodies as far as i are laid -/
def InitQ (w : World) (s : St) (pl : Nat) (bodies : List Bd) (bs bu i : Nat) (wr : World) : Prop :=
  wr.heap[bu]? = some (row (initK pl bodies i)) ∧ wr.heap[bs]? = some (.cells #[.int .i64 s.players, .slice s.bo s.nb s.bc, .int .i64 s.x0, .int .i64 s.y0, .int .i64 s.x1, .int .i64 s.y1, .slice s.ro s.rn s.rc, .slice s.dO s.dn s.dc, .int .i64 s.fog, .int .i64 s.gx, .int .i64 s.gy, .int .i64 s.push, .int .i64 s.drag, .int .i64 s.rest, .int .i64 s.rounds, .int .i64 s.fuel] 49 (0, 0)) ∧ Fr [] w wr

end Go.Proofs.Ytcgndeggemceaaa
/- The reference's Initial. -/
namespace Go.Proofs.Ytcgndeggemceaaa
open Go.RowKit

set_option maxRecDepth 100000 in
set_option maxHeartbeats 8000000 in
theorem rinitial_any (w : World) (s : St) (bodies : List Bd) (hok : s.Ok) (pl : Nat) (hpl : s.players = (pl : Int)) (hp3 : pl ≤ 1000) (hbd : BodiesAt w s bodies) (h5 : bodies.length ≤ 1000) :
    Calls Try.prog 41 #[s.val] w fun e w' => ∃ b, e = .returned (.slice (some ⟨b, 0, none⟩) (48 + 4 * pl + 8 * bodies.length) (48 + 4 * pl + 8 * bodies.length)) ∧ w.heap.size ≤ b ∧ RowNew w b (initL pl bodies) w' := by
  obtain ⟨n, hn⟩ : ∃ n, n = 48 + 4 * pl + 8 * bodies.length := ⟨_, rfl⟩
  have hnb : s.nb = bodies.length := hbd.nb
  obtain ⟨nb, hnbe⟩ : ∃ nb, nb = bodies.length := ⟨_, rfl⟩
  have HSZ := Lib.hid (fun (u : World) => (by have h := rsize_any u s hok; rw [show szOf s = (n : Int) by unfold szOf; rw [hpl, hn, hnb]; omega] at h; exact h : Calls Try.prog 55 #[s.val] u fun e w' => e = .returned (.int .i64 (n : Int)) ∧ Fr [] u w'))
  have HBD := Lib.hid (fun (u : World) (p : Nat) (hp : p < nb) (a : Nat) (ha : a = 48 + 4 * pl + 8 * p) => (by have h := rbody_any u s hok (p : Int); rw [show bdOf s (p : Int) = (a : Int) by unfold bdOf; rw [if_neg (by rw [hnb, ← hnbe]; omega), hpl]; omega] at h; exact h : Calls Try.prog 42 #[s.val, .int .i64 (p : Int)] u fun e w' => e = .returned (.int .i64 (a : Int)) ∧ Fr [] u w'))
  have HRD := Lib.hid hbd.rd
  have hmk := make_ints n (by omega)
  have hn1 : n ≤ 20000 := by omega
  have HNE := Lib.hid hn
  have HNBE := Lib.hid hnbe
  have hp0 : decide (s.players < 0) = false := decide_eq_false (by omega)
  have hp1 : decide (1048576 < s.players) = false := decide_eq_false (by omega)
  have hnb1 : nb ≤ 1000 := by omega
  rw [← hn]
  have HNB := Lib.hid (hnb.trans hnbe.symm)
  have HPL := Lib.hid hpl
  clear hbd hn hnb hpl hok hnbe
  unfold St.val at HSZ HBD ⊢
  go_enter Try.func41, Try.ntmps41
  go_wp2_with fail
  refine (HSZ.out _).mono ?_
  rintro e w1 ⟨rfl, f1⟩
  obtain ⟨bs, hbs⟩ : ∃ bs, bs = w.heap.size := ⟨_, rfl⟩
  rw [← hbs]
  have hb1 := f1.blk (alloc_new w _) (by simp)
  have F1 := Lib.hid (((Fr.refl [] w).alloc _).trans f1 (by simp [Ext]))
  obtain ⟨bu, hbu⟩ : ∃ bu, bu = w1.heap.size := ⟨_, rfl⟩
  have hq : InitQ w s pl bodies bs bu 0 (w1.alloc (row (List.replicate n 0))) := ⟨by rw [initK_zero, ← HNE.out, hbu]; exact alloc_new _ _, by rw [hbs]; exact alloc_old hb1, F1.out.alloc _⟩
  have hne : bs ≠ bu := by have := lt_of_blk hb1; omega
  have hbw : w.heap.size ≤ bu := by have := F1.out.size; omega
  have hsz : w.heap.size ≤ bs := by omega
  have q1 : w1.cell? ⟨bs, 1, none⟩ = some (.slice s.bo s.nb s.bc) := by rw [hbs]; exact cell_blk hb1 1
  have hbsl : bs < w1.heap.size := by have := lt_of_blk hb1; omega
  have HQ := Lib.hid hq
  have HBU := Lib.hid hbu
  have hnbN := HNB.out
  clear hb1 f1 hbs hq hbu
  rw [hnbN] at q1
  clear hnbN
  go_wp2_with fail
  rw [← HBU.out]
  go_loopw [4] (fun iv wr => ∃ i : Nat, i ≤ nb ∧ iv = .int .i64 (i : Int) ∧ InitQ w s pl bodies bs bu i wr) (fun iv _ => nb - (intOf iv).toNat)
  case atStart => exact ⟨0, by omega, rfl, HQ.out⟩
  case round =>
    clear HQ q1 hbsl
    obtain ⟨i, hi, rfl, hq⟩ := hrel
    have HQ := Lib.hid hq
    have q1 : wr.cell? ⟨bs, 1, none⟩ = some (.slice s.bo nb s.bc) := by rw [← HNB.out]; exact cell_blk hq.2.1 1
    clear hq
    by_cases hlt : i < nb
    · obtain ⟨d, hd⟩ : ∃ d, d = bodies[i]'(by have := HNBE.out; omega) := ⟨_, rfl⟩
      obtain ⟨bg, boff, hbo, hbg, hbc⟩ := (HRD.out.fr HQ.out.2.2 (by simp)).at (by have := HNBE.out; omega)
      have hcx : ∀ j, j < 9 → wr.cell? ⟨bg, boff + i * 9 + j, none⟩ = (d.cells)[j]? := fun j hj => by
        rw [Nat.add_assoc, hbc _ (by have := HNBE.out; omega), Bd.flat_get bodies i j (by have := HNBE.out; omega) hj, hd]
      have k0 : wr.cell? ⟨bg, boff + i * 9, none⟩ = some (.int .i64 d.rad) := hcx 0 (by omega)
      have k1 : wr.cell? ⟨bg, boff + i * 9 + 1, none⟩ = some (.slice d.po d.pn d.pc) := hcx 1 (by omega)
      have k2 : wr.cell? ⟨bg, boff + i * 9 + 2, none⟩ = some (.int .i64 d.px) := hcx 2 (by omega)
      have k3 : wr.cell? ⟨bg, boff + i * 9 + 3, none⟩ = some (.int .i64 d.py) := hcx 3 (by omega)
      have k4 : wr.cell? ⟨bg, boff + i * 9 + 4, none⟩ = some (.int .i64 d.vx) := hcx 4 (by omega)
      have k5 : wr.cell? ⟨bg, boff + i * 9 + 5, none⟩ = some (.int .i64 d.vy) := hcx 5 (by omega)
      have k6 : wr.cell? ⟨bg, boff + i * 9 + 6, none⟩ = some (.int .i64 d.im) := hcx 6 (by omega)
      have k7 : wr.cell? ⟨bg, boff + i * 9 + 7, none⟩ = some (.int .i64 d.a) := hcx 7 (by omega)
      have k8 : wr.cell? ⟨bg, boff + i * 9 + 8, none⟩ = some (.int .i64 d.b) := hcx 8 (by omega)
      obtain ⟨b, hbe⟩ : ∃ b, b = 48 + 4 * pl + 8 * i := ⟨_, rfl⟩
      have HB := Lib.hid (fun u => HBD.out u i hlt b hbe)
      have HBO := Lib.hid hbo
      have HDE := Lib.hid hd
      have HBE := Lib.hid hbe
      obtain ⟨m, hm⟩ : ∃ m, m = n - b := ⟨_, rfl⟩
      have hm8 : 8 ≤ m := by have := HNE.out; have := HNBE.out; omega
      have HM8 := Lib.hid hm8
      have hbsw : bs < wr.heap.size := lt_of_blk HQ.out.2.1
      have B0 := Lib.hid HQ.out.2.1
      clear hcx hbc hd hbe hm hm8 hp0 hp1
      rw [hbo] at B0 HB q1 ⊢
      clear hbo
      go_wp2_with (refine wpList_loadB rfl 49 (Operand.tmp 1) rfl bs 16 rfl #[.int .i64 s.players, .slice (some ⟨bg, boff, none⟩) s.nb s.bc, .int .i64 s.x0, .int .i64 s.y0, .int .i64 s.x1, .int .i64 s.y1, .slice s.ro s.rn s.rc, .slice s.dO s.dn s.dc, .int .i64 s.fog, .int .i64 s.gx, .int .i64 s.gy, .int .i64 s.push, .int .i64 s.drag, .int .i64 s.rest, .int .i64 s.rounds, .int .i64 s.fuel] 49 (0, 0) (by exact B0.out) _ Try.underlying49 rfl rfl infoSetup ?_)
      refine (HB.out _).mono ?_
      rintro e w6 ⟨rfl, f6⟩
      have R6 := Lib.hid (f6.blk HQ.out.1 (by simp))
      have S6 := Lib.hid (f6.blk HQ.out.2.1 (by simp))
      have F6 := Lib.hid (HQ.out.2.2.trans f6 (by simp [Ext]))
      have hil := initK_len pl bodies i (by have := HNBE.out; omega)
      have hbn : b + 8 ≤ (initK pl bodies i).length := by rw [hil]; have := HBE.out; have := HNBE.out; omega
      have g1 : w6.cell? ⟨bs, 1, none⟩ = some (.slice (some ⟨bg, boff, none⟩) nb s.bc) := (World.cell?_of_block (a := ⟨bs, 1, none⟩) (f6.block bs hbsw (by simp))).trans q1
      have hbgw : bg < wr.heap.size := hbg
      have l0 : w6.cell? ⟨bg, boff + i * 9, none⟩ = some (.int .i64 d.rad) := (World.cell?_of_block (a := ⟨bg, boff + i * 9, none⟩) (f6.block bg hbgw (by simp))).trans k0
      have l1 : w6.cell? ⟨bg, boff + i * 9 + 1, none⟩ = some (.slice d.po d.pn d.pc) := (World.cell?_of_block (a := ⟨bg, boff + i * 9 + 1, none⟩) (f6.block bg hbgw (by simp))).trans k1
      have l2 : w6.cell? ⟨bg, boff + i * 9 + 2, none⟩ = some (.int .i64 d.px) := (World.cell?_of_block (a := ⟨bg, boff + i * 9 + 2, none⟩) (f6.block bg hbgw (by simp))).trans k2
      have l3 : w6.cell? ⟨bg, boff + i * 9 + 3, none⟩ = some (.int .i64 d.py) := (World.cell?_of_block (a := ⟨bg, boff + i * 9 + 3, none⟩) (f6.block bg hbgw (by simp))).trans k3
      have l4 : w6.cell? ⟨bg, boff + i * 9 + 4, none⟩ = some (.int .i64 d.vx) := (World.cell?_of_block (a := ⟨bg, boff + i * 9 + 4, none⟩) (f6.block bg hbgw (by simp))).trans k4
      have l5 : w6.cell? ⟨bg, boff + i * 9 + 5, none⟩ = some (.int .i64 d.vy) := (World.cell?_of_block (a := ⟨bg, boff + i * 9 + 5, none⟩) (f6.block bg hbgw (by simp))).trans k5
      have l6 : w6.cell? ⟨bg, boff + i * 9 + 6, none⟩ = some (.int .i64 d.im) := (World.cell?_of_block (a := ⟨bg, boff + i * 9 + 6, none⟩) (f6.block bg hbgw (by simp))).trans k6
      have l7 : w6.cell? ⟨bg, boff + i * 9 + 7, none⟩ = some (.int .i64 d.a) := (World.cell?_of_block (a := ⟨bg, boff + i * 9 + 7, none⟩) (f6.block bg hbgw (by simp))).trans k7
      have l8 : w6.cell? ⟨bg, boff + i * 9 + 8, none⟩ = some (.int .i64 d.b) := (World.cell?_of_block (a := ⟨bg, boff + i * 9 + 8, none⟩) (f6.block bg hbgw (by simp))).trans k8
      obtain ⟨x0, y0⟩ : ∃ x, w6.cell? ⟨bu, b, none⟩ = some x := ⟨_, row_cell R6.out (by omega)⟩
      obtain ⟨x1, y1⟩ : ∃ x, w6.cell? ⟨bu, b + 1, none⟩ = some x := ⟨_, row_cell R6.out (by omega)⟩
      obtain ⟨x2, y2⟩ : ∃ x, w6.cell? ⟨bu, b + 2, none⟩ = some x := ⟨_, row_cell R6.out (by omega)⟩
      obtain ⟨x3, y3⟩ : ∃ x, w6.cell? ⟨bu, b + 3, none⟩ = some x := ⟨_, row_cell R6.out (by omega)⟩
      obtain ⟨x4, y4⟩ : ∃ x, w6.cell? ⟨bu, b + 4, none⟩ = some x := ⟨_, row_cell R6.out (by omega)⟩
      obtain ⟨x5, y5⟩ : ∃ x, w6.cell? ⟨bu, b + 5, none⟩ = some x := ⟨_, row_cell R6.out (by omega)⟩
      have yf : ∀ j, w6.frozen? ⟨bu, j, none⟩ = false := fun j => row_frozen R6.out j
      have hbN : b + 8 ≤ n := by have := HM8.out; have := HNE.out; have := HBE.out; have := HNBE.out; omega
      have hb0 : (b : Int) < (n : Int) := by omega
      have hb1 : (b : Int) + 1 < (n : Int) := by omega
      have hb2 : (b : Int) + 2 < (n : Int) := by omega
      have hb3 : (b : Int) + 3 < (n : Int) := by omega
      have hb4 : (b : Int) + 4 < (n : Int) := by omega
      have hb5 : (b : Int) + 5 < (n : Int) := by omega
      have hbuw : bu < w6.heap.size := lt_of_blk R6.out
      clear f6 k0 k1 k2 k3 k4 k5 k6 k7 k8 hil hbn q1
      go_wp2_with fail
      obtain ⟨w9, hw9⟩ : ∃ x, x = ((((((w6.setCell ⟨bu, b, none⟩ (.int .i64 d.px)).setCell ⟨bu, b + 1, none⟩ (.int .i64 d.py)).setCell ⟨bu, b + 2, none⟩ (.int .i64 d.vx)).setCell ⟨bu, b + 3, none⟩ (.int .i64 d.vy)).setCell ⟨bu, b + 4, none⟩ (.int .i64 d.a)).setCell ⟨bu, b + 5, none⟩ (.int .i64 d.b)) := ⟨_, rfl⟩
      rw [← hw9]
      have R9 := Lib.hid (by rw [hw9]; exact (row_set (row_set (row_set (row_set (row_set (row_set R6.out (b) d.px) (b + 1) d.py) (b + 2) d.vx) (b + 3) d.vy) (b + 4) d.a) (b + 5) d.b) : w9.heap[bu]? = some (row ((((((initK pl bodies i).set b d.px).set (b + 1) d.py).set (b + 2) d.vx).set (b + 3) d.vy).set (b + 4) d.a |>.set (b + 5) d.b)))
      have S9 := Lib.hid ((by rw [hw9]; exact (setCell_ne (by simpa using hne)).trans ((setCell_ne (by simpa using hne)).trans ((setCell_ne (by simpa using hne)).trans ((setCell_ne (by simpa using hne)).trans ((setCell_ne (by simpa using hne)).trans (setCell_ne (by simpa using hne)))))) : w9.heap[bs]? = w6.heap[bs]?).trans S6.out)
      have F9 := Lib.hid (by rw [hw9]; exact ((((((F6.out.setCell (p := ⟨bu, b, none⟩) (.inr hbw) _).setCell (p := ⟨bu, b + 1, none⟩) (.inr hbw) _).setCell (p := ⟨bu, b + 2, none⟩) (.inr hbw) _).setCell (p := ⟨bu, b + 3, none⟩) (.inr hbw) _).setCell (p := ⟨bu, b + 4, none⟩) (.inr hbw) _).setCell (p := ⟨bu, b + 5, none⟩) (.inr hbw) _) : Fr [] w w9)
      clear hw9
      go_roundw
      case rel =>
        refine ⟨i + 1, by omega, by go_num, ?_, ?_, F9.out.alloc _⟩
        · have h := alloc_old (o' := .cells #[.int .i64 d.rad, .slice d.po d.pn d.pc, .int .i64 d.px, .int .i64 d.py, .int .i64 d.vx, .int .i64 d.vy, .int .i64 d.im, .int .i64 d.a, .int .i64 d.b] 92) R9.out
          rw [initK_step pl bodies i (by have := HNBE.out; omega) b HBE.out d HDE.out] at h
          exact h
        · have h := alloc_old (o' := .cells #[.int .i64 d.rad, .slice d.po d.pn d.pc, .int .i64 d.px, .int .i64 d.py, .int .i64 d.vx, .int .i64 d.vy, .int .i64 d.im, .int .i64 d.a, .int .i64 d.b] 92) S9.out
          exact h
      case measure => simp [intOf]; omega
    · have hie : i = bodies.length := by have := HNBE.out; omega
      have HIE := Lib.hid hie
      clear hie
      go_wp2_with fail
      go_ret
      refine ⟨bu, rfl, hbw, ?_, HQ.out.2.2⟩
      unfold initL
      rw [← HIE.out]
      exact HQ.out.1
end Go.Proofs.Ytcgndeggemceaaa
