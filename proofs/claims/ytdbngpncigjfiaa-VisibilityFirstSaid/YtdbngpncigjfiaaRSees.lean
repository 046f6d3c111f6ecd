/- The reference's Sees. -/
import Derived.Test.YtdbngpncigjfiaaSees
namespace Go.Proofs.Ytdbngpncigjfiaa
open Go.RowKit

section
variable {w : World} {s : St} {bodies : List Bd} {rooms : List Bx} {doors : List (Int × Int)} {co : Option Addr} {cc : Nat} {cells : List Int}

set_option maxRecDepth 100000 in
set_option maxHeartbeats 8000000 in
theorem rsees_any (h : VPre w s bodies rooms doors co cc cells) (p b : Int) :
    Calls Try.prog 22 #[s.val, .slice co cells.length cc, .int .i64 p, .int .i64 b] w fun e w' => e = .returned (.bool (seesB s rooms doors cells p b)) ∧ Fr [] w w' := by
  have hpn := h.pn
  obtain ⟨C, hC⟩ := cAt s
  have HRO := Lib.hid fun u (hu : Fr [] w u) x y => (by rw [← hC.val]; exact rroom_any u s rooms doors (h.map.old hu) x y : Calls Try.prog 13 #[.agg C, .agg #[.int .i64 x, .int .i64 y]] u fun e w' => e = .returned (.int .i64 (roomOf rooms x y)) ∧ Fr [] u w')
  have HCN := Lib.hid fun u (hu : Fr [] w u) x y => (by rw [← hC.val]; exact conn_any u s rooms doors (h.map.old hu) x y : Calls Try.prog 35 #[.agg C, .int .i64 x, .int .i64 y] u fun e w' => e = .returned (.bool (connB doors x y)) ∧ Fr [] u w')
  have HP1 := Lib.hid fun (hp : 0 ≤ p ∧ p < (s.nb : Int)) u (hu : Fr [] w u) => (by rw [← hC.val]; exact position_any (h.old hu) p hp.1 hp.2 : Calls Try.prog 43 #[.agg C, .slice co cells.length cc, .int .i64 p] u fun e w' => e = .returned (.agg #[.int .i64 (posX s cells p), .int .i64 (posY s cells p)]) ∧ Fr [] u w')
  have HP2 := Lib.hid fun (hp : 0 ≤ b ∧ b < (s.nb : Int)) u (hu : Fr [] w u) => (by rw [← hC.val]; exact position_any (h.old hu) b hp.1 hp.2 : Calls Try.prog 43 #[.agg C, .slice co cells.length cc, .int .i64 b] u fun e w' => e = .returned (.agg #[.int .i64 (posX s cells b), .int .i64 (posY s cells b)]) ∧ Fr [] u w')
  have HCS := Lib.hid hC.size
  have HC8 := Lib.hid hC.c8
  have HPRE := Lib.hid h
  obtain ⟨bx, hbx⟩ : ∃ bx, bx = w.heap.size := ⟨_, rfl⟩
  obtain ⟨wb, hwb⟩ : ∃ wb, wb = w.alloc (.cells C 31) := ⟨_, rfl⟩
  have HB := Lib.hid (by rw [hwb, hbx]; exact alloc_new w _ : wb.heap[bx]? = some (.cells C 31 (0, 0)))
  have HWB := Lib.hid (by rw [hwb]; exact (Fr.refl [] w).alloc _ : Fr [] w wb)
  have HBX := Lib.hid hbx
  have HWE := Lib.hid hwb
  have c0 := (cell_blk HB.out 0).trans hC.c0
  have c1 := (cell_blk HB.out 1).trans hC.c1
  rw [hC.val]
  clear hbx hwb h hC
  by_cases hinv : p < 0 ∨ s.players ≤ p ∨ b < 0 ∨ (s.nb : Int) ≤ b
  · have HR := Lib.hid (by unfold seesB; rw [if_pos hinv] : seesB s rooms doors cells p b = false)
    have HINV := Lib.hid hinv
    clear hinv
    by_cases h0 : p < 0
    · have e0 : decide (p < 0) = true := decide_eq_true h0
      clear HPRE HP1 HP2
      go_enter Try.func22, Try.ntmps22
      go_upto_region 1 with (fail)
      rw [← HBX.out, ← HWE.out]
      go_wp2_with fail
      go_ret
      exact ⟨ret_bool HR.out.symm, HWB.out⟩
    have e0 : decide (p < 0) = false := decide_eq_false h0
    by_cases h1 : s.players ≤ p
    · have e1 : decide (s.players ≤ p) = true := decide_eq_true h1
      clear HPRE HP1 HP2
      go_enter Try.func22, Try.ntmps22
      go_upto_region 1 with (fail)
      rw [← HBX.out, ← HWE.out]
      go_wp2_with fail
      go_ret
      exact ⟨ret_bool HR.out.symm, HWB.out⟩
    have e1 : decide (s.players ≤ p) = false := decide_eq_false h1
    by_cases h2 : b < 0
    · have e2 : decide (b < 0) = true := decide_eq_true h2
      clear HPRE HP1 HP2
      go_enter Try.func22, Try.ntmps22
      go_upto_region 1 with (fail)
      rw [← HBX.out, ← HWE.out]
      go_wp2_with fail
      go_ret
      exact ⟨ret_bool HR.out.symm, HWB.out⟩
    have e2 : decide (b < 0) = false := decide_eq_false h2
    by_cases h3 : (s.nb : Int) ≤ b
    · have e3 : decide ((s.nb : Int) ≤ b) = true := decide_eq_true h3
      clear HPRE HP1 HP2
      go_enter Try.func22, Try.ntmps22
      go_upto_region 1 with (fail)
      rw [← HBX.out, ← HWE.out]
      go_wp2_with fail
      go_ret
      exact ⟨ret_bool HR.out.symm, HWB.out⟩
    exact absurd HINV.out (by omega)
  · have hbv' : 0 ≤ b ∧ b < (s.nb : Int) := by omega
    have hpv' : 0 ≤ p ∧ p < (s.nb : Int) := by omega
    have e0 : decide (p < 0) = false := decide_eq_false (by omega)
    have e1 : decide (s.players ≤ p) = false := decide_eq_false (by omega)
    have e2 : decide (b < 0) = false := decide_eq_false (by omega)
    have e3 : decide ((s.nb : Int) ≤ b) = false := decide_eq_false (by omega)
    have HNV := Lib.hid hinv
    by_cases hbp : b = p
    · have HR := Lib.hid (by unfold seesB; rw [if_neg hinv, if_pos hbp] : seesB s rooms doors cells p b = true)
      have hbe : (p == b) = true := beq_iff_eq.2 hbp.symm
      clear hinv hbp hbv' hpv' hpn
      go_enter Try.func22, Try.ntmps22
      go_upto_region 1 with (fail)
      rw [← HBX.out, ← HWE.out]
      go_wp2_with fail
      go_ret
      exact ⟨ret_bool HR.out.symm, HWB.out⟩
    · have HR := Lib.hid (by unfold seesB; rw [if_neg hinv, if_neg hbp] : seesB s rooms doors cells p b = farB s rooms doors (posX s cells p) (posY s cells p) (posX s cells b) (posY s cells b))
      have hbe : (p == b) = false := beq_eq_false_iff_ne.2 fun e => hbp e.symm
      have HMP := Lib.hid (HP1.out hpv')
      have HMQ := Lib.hid (HP2.out hbv')
      obtain ⟨hcp1, hcp2⟩ := HPRE.out.pos p hpv'.1 hpv'.2
      obtain ⟨hcq1, hcq2⟩ := HPRE.out.pos b hbv'.1 hbv'.2
      have hf0 := HPRE.out.f0
      obtain ⟨px, hpx⟩ : ∃ px, px = posX s cells p := ⟨_, rfl⟩
      obtain ⟨py, hpy⟩ : ∃ py, py = posY s cells p := ⟨_, rfl⟩
      obtain ⟨qx, hqx⟩ : ∃ qx, qx = posX s cells b := ⟨_, rfl⟩
      obtain ⟨qy, hqy⟩ : ∃ qy, qy = posY s cells b := ⟨_, rfl⟩
      rw [← hpx, ← hpy] at HMP
      rw [← hqx, ← hqy] at HMQ
      rw [← hpx, ← hpy, ← hqx, ← hqy] at HR
      rw [← hpx] at hcp1
      rw [← hpy] at hcp2
      rw [← hqx] at hcq1
      rw [← hqy] at hcq2
      have HC1 := Lib.hid hcp1
      have HC2 := Lib.hid hcp2
      have HC3 := Lib.hid hcq1
      have HC4 := Lib.hid hcq2
      clear hinv hbp hbv' hpv' hpn HP1 HP2 hcp1 hcp2 hcq1 hcq2 hpx hpy hqx hqy
      go_enter Try.func22, Try.ntmps22
      go_upto_region 1 with (fail)
      rw [← HBX.out, ← HWE.out]
      go_upto_region 5 with fail
      go_upto_region 6 with (first | (refine wpList_loadB rfl 31 (Operand.tmp 4) rfl bx 16 rfl C 31 (0, 0) HB.out _ Try.underlying31 rfl HCS.out infoSetup ?_) | (go_at_call 43; refine (HMP.out wb HWB.out).mono ?_; rintro e w3 ⟨rfl, hf3⟩; have HF3 := Lib.hid hf3; have HB3 := Lib.hid (hf3.blk HB.out (by simp)); clear hf3))
      obtain ⟨W3, hW3⟩ : ∃ W3, W3 = w3.alloc (.cells #[.int .i64 px, .int .i64 py] 29) := ⟨_, rfl⟩
      obtain ⟨b9, hb9⟩ : ∃ b9, b9 = w3.heap.size := ⟨_, rfl⟩
      have HW3 := Lib.hid (by rw [hW3]; exact (HWB.out.trans HF3.out (by simp [Ext])).alloc _ : Fr [] w W3)
      have HBW3 := Lib.hid (by rw [hW3]; exact alloc_old HB3.out : W3.heap[bx]? = some (.cells C 31 (0, 0)))
      have H9 := Lib.hid (by rw [hW3, hb9]; exact alloc_new w3 _ : W3.heap[b9]? = some (.cells #[.int .i64 px, .int .i64 py] 29 (0, 0)))
      rw [← hW3, ← hb9]
      clear hW3 hb9 c0 c1
      go_upto_region 7 with (first | (refine wpList_loadB rfl 31 (Operand.tmp 4) rfl bx 16 rfl C 31 (0, 0) HBW3.out _ Try.underlying31 rfl HCS.out infoSetup ?_) | (go_at_call 43; refine (HMQ.out W3 HW3.out).mono ?_; rintro e w4 ⟨rfl, hf4⟩; have HF4 := Lib.hid hf4; have HB4 := Lib.hid (hf4.blk HBW3.out (by simp)); have H94 := Lib.hid (hf4.blk H9.out (by simp)); clear hf4))
      obtain ⟨W4, hW4⟩ : ∃ W4, W4 = w4.alloc (.cells #[.int .i64 qx, .int .i64 qy] 29) := ⟨_, rfl⟩
      obtain ⟨b10, hb10⟩ : ∃ b10, b10 = w4.heap.size := ⟨_, rfl⟩
      have HW4 := Lib.hid (by rw [hW4]; exact (HW3.out.trans HF4.out (by simp [Ext])).alloc _ : Fr [] w W4)
      have HBW4 := Lib.hid (by rw [hW4]; exact alloc_old HB4.out : W4.heap[bx]? = some (.cells C 31 (0, 0)))
      have H9W := Lib.hid (by rw [hW4]; exact alloc_old H94.out : W4.heap[b9]? = some (.cells #[.int .i64 px, .int .i64 py] 29 (0, 0)))
      have H10 := Lib.hid (by rw [hW4, hb10]; exact alloc_new w4 _ : W4.heap[b10]? = some (.cells #[.int .i64 qx, .int .i64 qy] 29 (0, 0)))
      rw [← hW4, ← hb10]
      clear hW4 hb10
      have q0 := cell_blk H9W.out 0
      have q1 := cell_blk H9W.out 1
      obtain ⟨ra, hra⟩ : ∃ ra, ra = roomOf rooms px py := ⟨_, rfl⟩
      obtain ⟨rb, hrb⟩ : ∃ rb, rb = roomOf rooms qx qy := ⟨_, rfl⟩
      have HRA := Lib.hid hra
      have HRB := Lib.hid hrb
      clear hra hrb
      go_upto_region 8 with (first | (refine wpList_loadB rfl 31 (Operand.tmp 4) rfl bx 16 rfl C 31 (0, 0) HBW4.out _ Try.underlying31 rfl HCS.out infoSetup ?_) | (go_at_call 13; refine (HRO.out W4 HW4.out px py).mono ?_; rintro e w5 ⟨rfl, hf5⟩; rw [← HRA.out]; have HF5 := Lib.hid hf5; have HB5 := Lib.hid (hf5.blk HBW4.out (by simp)); have r0 := cell_blk (hf5.blk H10.out (by simp)) 0; have r1 := cell_blk (hf5.blk H10.out (by simp)) 1; have HW5 := Lib.hid (HW4.out.trans hf5 (by simp [Ext])); clear hf5))
      clear q0 q1
      go_upto_region 9 with (first | (refine wpList_loadB rfl 31 (Operand.tmp 4) rfl bx 16 rfl C 31 (0, 0) HB5.out _ Try.underlying31 rfl HCS.out infoSetup ?_) | (go_at_call 13; refine (HRO.out w5 HW5.out qx qy).mono ?_; rintro e w6 ⟨rfl, hf6⟩; rw [← HRB.out]; have HF6 := Lib.hid (HF5.out.trans hf6 (by simp [Ext])); clear hf6))
      clear r0 r1
      by_cases hna : ra < 0
      · have HNO := Lib.hid (by unfold farB roomsSee; rw [← HRA.out, decide_eq_false (by omega : ¬ 0 ≤ ra)]; simp : farB s rooms doors px py qx qy = false)
        have hnd : decide (ra < 0) = true := decide_eq_true hna
        clear hna
        go_wp2_with fail
        go_ret
        exact ⟨ret_bool (by rw [HR.out, HNO.out]), (HW4.out.trans HF6.out (by simp [Ext]))⟩
      have hnd : decide (ra < 0) = false := decide_eq_false hna
      by_cases hnb : rb < 0
      · have HNO := Lib.hid (by unfold farB roomsSee; rw [← HRB.out, decide_eq_false (by omega : ¬ 0 ≤ rb)]; simp : farB s rooms doors px py qx qy = false)
        have hnd2 : decide (rb < 0) = true := decide_eq_true hnb
        clear hnb
        go_wp2_with fail
        go_ret
        exact ⟨ret_bool (by rw [HR.out, HNO.out]), (HW4.out.trans HF6.out (by simp [Ext]))⟩
      have hnd2 : decide (rb < 0) = false := decide_eq_false hnb
      have HYES := Lib.hid (by unfold farB roomsSee; rw [← HRA.out, ← HRB.out, decide_eq_true (by omega : 0 ≤ ra), decide_eq_true (by omega : 0 ≤ rb), Bool.true_and, Bool.true_and] : farB s rooms doors px py qx qy = (connB doors ra rb && decide ((qx - px) * (qx - px) + (qy - py) * (qy - py) < (s.fog + 1) * (s.fog + 1))))
      have HDX := Lib.hid (dd_bound HC3.out HC1.out)
      have HDY := Lib.hid (dd_bound HC4.out HC2.out)
      have HSU := Lib.hid fun u => rsub_any u qx qy px py HC3.out HC4.out HC1.out HC2.out
      have HLE := Lib.hid fun u => rlen_any u (qx - px) (qy - py) HDX.out HDY.out
      have K10 := Lib.hid (fun (u : World) (hu : Fr [] w6 u) => (⟨cell_blk ((HF6.out.trans hu (by simp [Ext])).blk H10.out (by simp)) 0, cell_blk ((HF6.out.trans hu (by simp [Ext])).blk H10.out (by simp)) 1, cell_blk ((HF6.out.trans hu (by simp [Ext])).blk H9W.out (by simp)) 0, cell_blk ((HF6.out.trans hu (by simp [Ext])).blk H9W.out (by simp)) 1, (cell_blk ((HF6.out.trans hu (by simp [Ext])).blk HBW4.out (by simp)) 8).trans HC8.out⟩ :
            u.cell? ⟨b10, 0, none⟩ = some (.int .i64 qx) ∧ u.cell? ⟨b10, 1, none⟩ = some (.int .i64 qy) ∧ u.cell? ⟨b9, 0, none⟩ = some (.int .i64 px) ∧ u.cell? ⟨b9, 1, none⟩ = some (.int .i64 py) ∧ u.cell? ⟨bx, 8, none⟩ = some (.int .i64 s.fog)))
      clear hna hnb
      go_upto_region 11 with fail
      go_region_held3 (fun u => u.cell? ⟨b10, 0, none⟩ = some (.int .i64 qx) ∧ u.cell? ⟨b10, 1, none⟩ = some (.int .i64 qy) ∧ u.cell? ⟨b9, 0, none⟩ = some (.int .i64 px) ∧ u.cell? ⟨b9, 1, none⟩ = some (.int .i64 py) ∧ u.cell? ⟨bx, 8, none⟩ = some (.int .i64 s.fog)) (first | exact K10.out _ ((Fr.refl _ _).drew) | exact K10.out _ HG1.out | exact K10.out _ HG2.out) (first | (go_at_call 45; refine (HSU.out _).mono ?_; rintro e w7 ⟨rfl, hg1⟩; have HG1 := Lib.hid (by exact ((Fr.refl [] w6).drew).trans hg1 (by simp [Ext]) : Fr [] w6 w7); clear hg1) | (go_at_call 44; refine (HLE.out _).mono ?_; rintro e w8 ⟨r, rfl, hr, hrs, hg2⟩; have HG2 := Lib.hid (by exact HG1.out.trans hg2 (by simp [Ext]) : Fr [] w6 w8); have HB8 := Lib.hid ((HF6.out.trans HG2.out (by simp [Ext])).blk HBW4.out (by simp)); have HW8 := Lib.hid ((HW4.out.trans HF6.out (by simp [Ext])).trans HG2.out (by simp [Ext])); have HRT := Lib.hid hr; clear hr hg2))
      have hnn : 0 ≤ (qx - px) * (qx - px) + (qy - py) * (qy - py) := by have := mul_self_nn (qx - px); have := mul_self_nn (qy - py); omega
      have HFG := Lib.hid (root_fog HRT.out hf0 (Int.toNat_of_nonneg hnn).symm)
      clear hnn
      by_cases hle : (r : Int) ≤ s.fog
      · have hled : decide ((r : Int) ≤ s.fog) = true := decide_eq_true hle
        rw [hled] at HFG ⊢
        clear hle
        go_wp2_with (first | (refine wpList_loadG (by rfl) 31 (Operand.tmp 4) rfl bx 16 rfl C 31 (0, 0) HB8.out _ Try.underlying31 rfl HCS.out infoSetup ?_) | (go_at_call 35; refine (HCN.out w8 HW8.out _ _).mono ?_; rintro e w9 ⟨rfl, hf9⟩; have HF9 := Lib.hid hf9; clear hf9))
        go_ret
        exact ⟨ret_bool (by rw [HR.out, HYES.out, ← HFG.out, Bool.and_true]), HW8.out.trans HF9.out (by simp [Ext])⟩
      · have hled : decide ((r : Int) ≤ s.fog) = false := decide_eq_false hle
        rw [hled] at HFG ⊢
        clear hle
        go_wp2_with fail
        go_ret
        exact ⟨ret_bool (by rw [HR.out, HYES.out, ← HFG.out, Bool.and_false]), HW8.out⟩
end
end Go.Proofs.Ytdbngpncigjfiaa
