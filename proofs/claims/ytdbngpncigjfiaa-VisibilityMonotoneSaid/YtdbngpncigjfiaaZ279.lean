/- RSees, Seen, RSeen, Same (merged by merge.py). -/
import Derived.Test.YtdbngpncigjfiaaZ278
import Derived.Test.YtdbngpncigjfiaaZ275
import Derived.Test.YtdbngpncigjfiaaZ271
/- The reference's Sees. -/
namespace Go.Proofs.Ytdbngpncigjfiaa
open Go.RowKit

section
variable {w : World} {s : St} {bodies : List Bd} {rooms : List Bx} {doors : List (Int × Int)} {co : Option Addr} {cc : Nat} {cells : List Int}

set_option maxRecDepth 100000 in
set_option maxHeartbeats 8000000 in
theorem rsees_any (h : VPre w s bodies rooms doors co cc cells) (p b : Int) :
    Calls Try.prog 22 #[s.val, .slice co cells.length cc, .int .i64 p, .int .i64 b] w fun e w' => e = .returned (.bool (seesB s rooms doors cells p b)) ∧ Fr [] w w' := by
  have hpn := h.pn
  obtain ⟨C, hC⟩ := cAt s
  have HRO := Lib.hid fun u (hu : Fr [] w u) x y => (by rw [← hC.val]; exact rroom_any u s rooms doors (h.map.old hu) x y : Calls Try.prog 13 #[.agg C, .agg #[.int .i64 x, .int .i64 y]] u fun e w' => e = .returned (.int .i64 (roomOf rooms x y)) ∧ Fr [] u w')
  have HCN := Lib.hid fun u (hu : Fr [] w u) x y => (by rw [← hC.val]; exact conn_any u s rooms doors (h.map.old hu) x y : Calls Try.prog 35 #[.agg C, .int .i64 x, .int .i64 y] u fun e w' => e = .returned (.bool (connB doors x y)) ∧ Fr [] u w')
  have HP1 := Lib.hid fun (hp : 0 ≤ p ∧ p < (s.nb : Int)) u (hu : Fr [] w u) => (by rw [← hC.val]; exact position_any (h.old hu) p hp.1 hp.2 : Calls Try.prog 43 #[.agg C, .slice co cells.length cc, .int .i64 p] u fun e w' => e = .returned (.agg #[.int .i64 (posX s cells p), .int .i64 (posY s cells p)]) ∧ Fr [] u w')
  have HP2 := Lib.hid fun (hp : 0 ≤ b ∧ b < (s.nb : Int)) u (hu : Fr [] w u) => (by rw [← hC.val]; exact position_any (h.old hu) b hp.1 hp.2 : Calls Try.prog 43 #[.agg C, .slice co cells.length cc, .int .i64 b] u fun e w' => e = .returned (.agg #[.int .i64 (posX s cells b), .int .i64 (posY s cells b)]) ∧ Fr [] u w')
  have HCS := Lib.hid hC.size
  have HC8 := Lib.hid hC.c8
  have HPRE := Lib.hid h
  obtain ⟨bx, hbx⟩ : ∃ bx, bx = w.heap.size := ⟨_, rfl⟩
  obtain ⟨wb, hwb⟩ : ∃ wb, wb = w.alloc (.cells C 31) := ⟨_, rfl⟩
  have HB := Lib.hid (by rw [hwb, hbx]; exact alloc_new w _ : wb.heap[bx]? = some (.cells C 31 (0, 0)))
  have HWB := Lib.hid (by rw [hwb]; exact (Fr.refl [] w).alloc _ : Fr [] w wb)
  have HBX := Lib.hid hbx
  have HWE := Lib.hid hwb
  have c0 := (cell_blk HB.out 0).trans hC.c0
  have c1 := (cell_blk HB.out 1).trans hC.c1
  rw [hC.val]
  clear hbx hwb h hC
  by_cases hinv : p < 0 ∨ s.players ≤ p ∨ b < 0 ∨ (s.nb : Int) ≤ b
  · have HR := Lib.hid (by unfold seesB; rw [if_pos hinv] : seesB s rooms doors cells p b = false)
    have HINV := Lib.hid hinv
    clear hinv
    by_cases h0 : p < 0
    · have e0 : decide (p < 0) = true := decide_eq_true h0
      clear HPRE HP1 HP2
      go_enter Try.func22, Try.ntmps22
      go_upto_region 1 with (fail)
      rw [← HBX.out, ← HWE.out]
      go_wp2_with fail
      go_ret
      exact ⟨ret_bool HR.out.symm, HWB.out⟩
    have e0 : decide (p < 0) = false := decide_eq_false h0
    by_cases h1 : s.players ≤ p
    · have e1 : decide (s.players ≤ p) = true := decide_eq_true h1
      clear HPRE HP1 HP2
      go_enter Try.func22, Try.ntmps22
      go_upto_region 1 with (fail)
      rw [← HBX.out, ← HWE.out]
      go_wp2_with fail
      go_ret
      exact ⟨ret_bool HR.out.symm, HWB.out⟩
    have e1 : decide (s.players ≤ p) = false := decide_eq_false h1
    by_cases h2 : b < 0
    · have e2 : decide (b < 0) = true := decide_eq_true h2
      clear HPRE HP1 HP2
      go_enter Try.func22, Try.ntmps22
      go_upto_region 1 with (fail)
      rw [← HBX.out, ← HWE.out]
      go_wp2_with fail
      go_ret
      exact ⟨ret_bool HR.out.symm, HWB.out⟩
    have e2 : decide (b < 0) = false := decide_eq_false h2
    by_cases h3 : (s.nb : Int) ≤ b
    · have e3 : decide ((s.nb : Int) ≤ b) = true := decide_eq_true h3
      clear HPRE HP1 HP2
      go_enter Try.func22, Try.ntmps22
      go_upto_region 1 with (fail)
      rw [← HBX.out, ← HWE.out]
      go_wp2_with fail
      go_ret
      exact ⟨ret_bool HR.out.symm, HWB.out⟩
    exact absurd HINV.out (by omega)
  · have hbv' : 0 ≤ b ∧ b < (s.nb : Int) := by omega
    have hpv' : 0 ≤ p ∧ p < (s.nb : Int) := by omega
    have e0 : decide (p < 0) = false := decide_eq_false (by omega)
    have e1 : decide (s.players ≤ p) = false := decide_eq_false (by omega)
    have e2 : decide (b < 0) = false := decide_eq_false (by omega)
    have e3 : decide ((s.nb : Int) ≤ b) = false := decide_eq_false (by omega)
    have HNV := Lib.hid hinv
    by_cases hbp : b = p
    · have HR := Lib.hid (by unfold seesB; rw [if_neg hinv, if_pos hbp] : seesB s rooms doors cells p b = true)
      have hbe : (p == b) = true := beq_iff_eq.2 hbp.symm
      clear hinv hbp hbv' hpv' hpn
      go_enter Try.func22, Try.ntmps22
      go_upto_region 1 with (fail)
      rw [← HBX.out, ← HWE.out]
      go_wp2_with fail
      go_ret
      exact ⟨ret_bool HR.out.symm, HWB.out⟩
    · have HR := Lib.hid (by unfold seesB; rw [if_neg hinv, if_neg hbp] : seesB s rooms doors cells p b = farB s rooms doors (posX s cells p) (posY s cells p) (posX s cells b) (posY s cells b))
      have hbe : (p == b) = false := beq_eq_false_iff_ne.2 fun e => hbp e.symm
      have HMP := Lib.hid (HP1.out hpv')
      have HMQ := Lib.hid (HP2.out hbv')
      obtain ⟨hcp1, hcp2⟩ := HPRE.out.pos p hpv'.1 hpv'.2
      obtain ⟨hcq1, hcq2⟩ := HPRE.out.pos b hbv'.1 hbv'.2
      have hf0 := HPRE.out.f0
      obtain ⟨px, hpx⟩ : ∃ px, px = posX s cells p := ⟨_, rfl⟩
      obtain ⟨py, hpy⟩ : ∃ py, py = posY s cells p := ⟨_, rfl⟩
      obtain ⟨qx, hqx⟩ : ∃ qx, qx = posX s cells b := ⟨_, rfl⟩
      obtain ⟨qy, hqy⟩ : ∃ qy, qy = posY s cells b := ⟨_, rfl⟩
      rw [← hpx, ← hpy] at HMP
      rw [← hqx, ← hqy] at HMQ
      rw [← hpx, ← hpy, ← hqx, ← hqy] at HR
      rw [← hpx] at hcp1
      rw [← hpy] at hcp2
      rw [← hqx] at hcq1
      rw [← hqy] at hcq2
      have HC1 := Lib.hid hcp1
      have HC2 := Lib.hid hcp2
      have HC3 := Lib.hid hcq1
      have HC4 := Lib.hid hcq2
      clear hinv hbp hbv' hpv' hpn HP1 HP2 hcp1 hcp2 hcq1 hcq2 hpx hpy hqx hqy
      go_enter Try.func22, Try.ntmps22
      go_upto_region 1 with (fail)
      rw [← HBX.out, ← HWE.out]
      go_upto_region 5 with fail
      go_upto_region 6 with (first | (refine wpList_loadB rfl 31 (Operand.tmp 4) rfl bx 16 rfl C 31 (0, 0) HB.out _ Try.underlying31 rfl HCS.out infoSetup ?_) | (go_at_call 43; refine (HMP.out wb HWB.out).mono ?_; rintro e w3 ⟨rfl, hf3⟩; have HF3 := Lib.hid hf3; have HB3 := Lib.hid (hf3.blk HB.out (by simp)); clear hf3))
      obtain ⟨W3, hW3⟩ : ∃ W3, W3 = w3.alloc (.cells #[.int .i64 px, .int .i64 py] 29) := ⟨_, rfl⟩
      obtain ⟨b9, hb9⟩ : ∃ b9, b9 = w3.heap.size := ⟨_, rfl⟩
      have HW3 := Lib.hid (by rw [hW3]; exact (HWB.out.trans HF3.out (by simp [Ext])).alloc _ : Fr [] w W3)
      have HBW3 := Lib.hid (by rw [hW3]; exact alloc_old HB3.out : W3.heap[bx]? = some (.cells C 31 (0, 0)))
      have H9 := Lib.hid (by rw [hW3, hb9]; exact alloc_new w3 _ : W3.heap[b9]? = some (.cells #[.int .i64 px, .int .i64 py] 29 (0, 0)))
      rw [← hW3, ← hb9]
      clear hW3 hb9 c0 c1
      go_upto_region 7 with (first | (refine wpList_loadB rfl 31 (Operand.tmp 4) rfl bx 16 rfl C 31 (0, 0) HBW3.out _ Try.underlying31 rfl HCS.out infoSetup ?_) | (go_at_call 43; refine (HMQ.out W3 HW3.out).mono ?_; rintro e w4 ⟨rfl, hf4⟩; have HF4 := Lib.hid hf4; have HB4 := Lib.hid (hf4.blk HBW3.out (by simp)); have H94 := Lib.hid (hf4.blk H9.out (by simp)); clear hf4))
      obtain ⟨W4, hW4⟩ : ∃ W4, W4 = w4.alloc (.cells #[.int .i64 qx, .int .i64 qy] 29) := ⟨_, rfl⟩
      obtain ⟨b10, hb10⟩ : ∃ b10, b10 = w4.heap.size := ⟨_, rfl⟩
      have HW4 := Lib.hid (by rw [hW4]; exact (HW3.out.trans HF4.out (by simp [Ext])).alloc _ : Fr [] w W4)
      have HBW4 := Lib.hid (by rw [hW4]; exact alloc_old HB4.out : W4.heap[bx]? = some (.cells C 31 (0, 0)))
      have H9W := Lib.hid (by rw [hW4]; exact alloc_old H94.out : W4.heap[b9]? = some (.cells #[.int .i64 px, .int .i64 py] 29 (0, 0)))
      have H10 := Lib.hid (by rw [hW4, hb10]; exact alloc_new w4 _ : W4.heap[b10]? = some (.cells #[.int .i64 qx, .int .i64 qy] 29 (0, 0)))
      rw [← hW4, ← hb10]
      clear hW4 hb10
      have q0 := cell_blk H9W.out 0
      have q1 := cell_blk H9W.out 1
      obtain ⟨ra, hra⟩ : ∃ ra, ra = roomOf rooms px py := ⟨_, rfl⟩
      obtain ⟨rb, hrb⟩ : ∃ rb, rb = roomOf rooms qx qy := ⟨_, rfl⟩
      have HRA := Lib.hid hra
      have HRB := Lib.hid hrb
      clear hra hrb
      go_upto_region 8 with (first | (refine wpList_loadB rfl 31 (Operand.tmp 4) rfl bx 16 rfl C 31 (0, 0) HBW4.out _ Try.underlying31 rfl HCS.out infoSetup ?_) | (go_at_call 13; refine (HRO.out W4 HW4.out px py).mono ?_; rintro e w5 ⟨rfl, hf5⟩; rw [← HRA.out]; have HF5 := Lib.hid hf5; have HB5 := Lib.hid (hf5.blk HBW4.out (by simp)); have r0 := cell_blk (hf5.blk H10.out (by simp)) 0; have r1 := cell_blk (hf5.blk H10.out (by simp)) 1; have HW5 := Lib.hid (HW4.out.trans hf5 (by simp [Ext])); clear hf5))
      clear q0 q1
      go_upto_region 9 with (first | (refine wpList_loadB rfl 31 (Operand.tmp 4) rfl bx 16 rfl C 31 (0, 0) HB5.out _ Try.underlying31 rfl HCS.out infoSetup ?_) | (go_at_call 13; refine (HRO.out w5 HW5.out qx qy).mono ?_; rintro e w6 ⟨rfl, hf6⟩; rw [← HRB.out]; have HF6 := Lib.hid (HF5.out.trans hf6 (by simp [Ext])); clear hf6))
      clear r0 r1
      by_cases hna : ra < 0
      · have HNO := Lib.hid (by unfold farB roomsSee; rw [← HRA.out, decide_eq_false (by omega : ¬ 0 ≤ ra)]; simp : farB s rooms doors px py qx qy = false)
        have hnd : decide (ra < 0) = true := decide_eq_true hna
        clear hna
        go_wp2_with fail
        go_ret
        exact ⟨ret_bool (by rw [HR.out, HNO.out]), (HW4.out.trans HF6.out (by simp [Ext]))⟩
      have hnd : decide (ra < 0) = false := decide_eq_false hna
      by_cases hnb : rb < 0
      · have HNO := Lib.hid (by unfold farB roomsSee; rw [← HRB.out, decide_eq_false (by omega : ¬ 0 ≤ rb)]; simp : farB s rooms doors px py qx qy = false)
        have hnd2 : decide (rb < 0) = true := decide_eq_true hnb
        clear hnb
        go_wp2_with fail
        go_ret
        exact ⟨ret_bool (by rw [HR.out, HNO.out]), (HW4.out.trans HF6.out (by simp [Ext]))⟩
      have hnd2 : decide (rb < 0) = false := decide_eq_false hnb
      have HYES := Lib.hid (by unfold farB roomsSee; rw [← HRA.out, ← HRB.out, decide_eq_true (by omega : 0 ≤ ra), decide_eq_true (by omega : 0 ≤ rb), Bool.true_and, Bool.true_and] : farB s rooms doors px py qx qy = (connB doors ra rb && decide ((qx - px) * (qx - px) + (qy - py) * (qy - py) < (s.fog + 1) * (s.fog + 1))))
      have HDX := Lib.hid (dd_bound HC3.out HC1.out)
      have HDY := Lib.hid (dd_bound HC4.out HC2.out)
      have HSU := Lib.hid fun u => rsub_any u qx qy px py HC3.out HC4.out HC1.out HC2.out
      have HLE := Lib.hid fun u => rlen_any u (qx - px) (qy - py) HDX.out HDY.out
      have K10 := Lib.hid (fun (u : World) (hu : Fr [] w6 u) => (⟨cell_blk ((HF6.out.trans hu (by simp [Ext])).blk H10.out (by simp)) 0, cell_blk ((HF6.out.trans hu (by simp [Ext])).blk H10.out (by simp)) 1, cell_blk ((HF6.out.trans hu (by simp [Ext])).blk H9W.out (by simp)) 0, cell_blk ((HF6.out.trans hu (by simp [Ext])).blk H9W.out (by simp)) 1, (cell_blk ((HF6.out.trans hu (by simp [Ext])).blk HBW4.out (by simp)) 8).trans HC8.out⟩ :
            u.cell? ⟨b10, 0, none⟩ = some (.int .i64 qx) ∧ u.cell? ⟨b10, 1, none⟩ = some (.int .i64 qy) ∧ u.cell? ⟨b9, 0, none⟩ = some (.int .i64 px) ∧ u.cell? ⟨b9, 1, none⟩ = some (.int .i64 py) ∧ u.cell? ⟨bx, 8, none⟩ = some (.int .i64 s.fog)))
      clear hna hnb
      go_upto_region 11 with fail
      go_region_held3 (fun u => u.cell? ⟨b10, 0, none⟩ = some (.int .i64 qx) ∧ u.cell? ⟨b10, 1, none⟩ = some (.int .i64 qy) ∧ u.cell? ⟨b9, 0, none⟩ = some (.int .i64 px) ∧ u.cell? ⟨b9, 1, none⟩ = some (.int .i64 py) ∧ u.cell? ⟨bx, 8, none⟩ = some (.int .i64 s.fog)) (first | exact K10.out _ ((Fr.refl _ _).drew) | exact K10.out _ HG1.out | exact K10.out _ HG2.out) (first | (go_at_call 45; refine (HSU.out _).mono ?_; rintro e w7 ⟨rfl, hg1⟩; have HG1 := Lib.hid (by exact ((Fr.refl [] w6).drew).trans hg1 (by simp [Ext]) : Fr [] w6 w7); clear hg1) | (go_at_call 44; refine (HLE.out _).mono ?_; rintro e w8 ⟨r, rfl, hr, hrs, hg2⟩; have HG2 := Lib.hid (by exact HG1.out.trans hg2 (by simp [Ext]) : Fr [] w6 w8); have HB8 := Lib.hid ((HF6.out.trans HG2.out (by simp [Ext])).blk HBW4.out (by simp)); have HW8 := Lib.hid ((HW4.out.trans HF6.out (by simp [Ext])).trans HG2.out (by simp [Ext])); have HRT := Lib.hid hr; clear hr hg2))
      have hnn : 0 ≤ (qx - px) * (qx - px) + (qy - py) * (qy - py) := by have := mul_self_nn (qx - px); have := mul_self_nn (qy - py); omega
      have HFG := Lib.hid (root_fog HRT.out hf0 (Int.toNat_of_nonneg hnn).symm)
      clear hnn
      by_cases hle : (r : Int) ≤ s.fog
      · have hled : decide ((r : Int) ≤ s.fog) = true := decide_eq_true hle
        rw [hled] at HFG ⊢
        clear hle
        go_wp2_with (first | (refine wpList_loadG (by rfl) 31 (Operand.tmp 4) rfl bx 16 rfl C 31 (0, 0) HB8.out _ Try.underlying31 rfl HCS.out infoSetup ?_) | (go_at_call 35; refine (HCN.out w8 HW8.out _ _).mono ?_; rintro e w9 ⟨rfl, hf9⟩; have HF9 := Lib.hid hf9; clear hf9))
        go_ret
        exact ⟨ret_bool (by rw [HR.out, HYES.out, ← HFG.out, Bool.and_true]), HW8.out.trans HF9.out (by simp [Ext])⟩
      · have hled : decide ((r : Int) ≤ s.fog) = false := decide_eq_false hle
        rw [hled] at HFG ⊢
        clear hle
        go_wp2_with fail
        go_ret
        exact ⟨ret_bool (by rw [HR.out, HYES.out, ← HFG.out, Bool.and_false]), HW8.out⟩
end
end Go.Proofs.Ytdbngpncigjfiaa
/- Package visibility: Seen; the reference's Seen. -/
namespace Go.Proofs.Ytdbngpncigjfiaa
open Go.RowKit

section
variable {w : World} {s : St} {bodies : List Bd} {rooms : List Bx} {doors : List (Int × Int)} {co : Option Addr} {cc : Nat} {cells : List Int}

/-- what a player sees -/
def seenL (s : St) (rooms : List Bx) (doors : List (Int × Int)) (cells : List Int) (p : Int) : List Int := accL (fun k => seesB s rooms doors cells p (k : Int)) s.nb

set_option maxRecDepth 100000 in
set_option maxHeartbeats 4000000 in
theorem seenC_any (h : VPre w s bodies rooms doors co cc cells) (C : Array Value) (hC : CAt s C) (p : Int) (tb t2 t3 : Nat) (hb : w.heap[tb]? = some (.cells C 31 (0, 0)))
    (c2 : w.cell? ⟨t2, 0, none⟩ = some (.slice co cells.length cc)) (c3 : w.cell? ⟨t3, 0, none⟩ = some (.int .i64 p)) (k : Int) :
    Calls Try.prog 39 #[.int .i64 k, .pointer (some ⟨tb, 0, none⟩), .pointer (some ⟨t2, 0, none⟩), .pointer (some ⟨t3, 0, none⟩)] w fun e w' => e = .returned (.bool (seesB s rooms doors cells p k)) ∧ Fr [] w w' := by
  have HS := Lib.hid (by have := sees_any h p k; rw [hC.val] at this; exact this)
  have HB := Lib.hid hb
  have HCS := Lib.hid hC.size
  clear h hC hb
  go_enter Try.func39, Try.ntmps39
  go_wp2_with (first | (refine wpList_loadB rfl 31 (Operand.tmp 1) rfl tb 16 rfl C 31 (0, 0) HB.out _ Try.underlying31 rfl HCS.out infoSetup ?_) | (go_at_call 21; refine HS.out.mono ?_; rintro e w1 ⟨rfl, hf1⟩; have HF1 := Lib.hid hf1; clear hf1))
  go_ret
  exact ⟨rfl, HF1.out⟩

set_option maxRecDepth 100000 in
set_option maxHeartbeats 4000000 in
theorem seen_any (h : VPre w s bodies rooms doors co cc cells) (p : Int) :
    Calls Try.prog 19 #[s.val, .slice co cells.length cc, .int .i64 p] w (IntsTo w (seenL s rooms doors cells p)) := by
  have hnb := h.mp.ok.b1
  obtain ⟨C, hC⟩ := cAt s
  obtain ⟨bx, hbx⟩ : ∃ bx, bx = w.heap.size := ⟨_, rfl⟩
  obtain ⟨wb, hwb⟩ : ∃ wb, wb = ((w.alloc (.cells C 31)).alloc (.cells #[.slice co cells.length cc] 22)).alloc (.cells #[.int .i64 p] 3) := ⟨_, rfl⟩
  have hB : wb.heap[bx]? = some (.cells C 31 (0, 0)) := by rw [hwb, hbx]; exact alloc_old (alloc_old (alloc_new w _))
  have hB2 : wb.heap[bx + 1]? = some (.cells #[.slice co cells.length cc] 22 (0, 0)) := by rw [hwb, hbx]; exact alloc_old (alloc_new2 w _ _)
  have hB3 : wb.heap[bx + 1 + 1]? = some (.cells #[.int .i64 p] 3 (0, 0)) := by
    rw [hwb, hbx, show w.heap.size + 1 + 1 = ((w.alloc (.cells C 31)).alloc (.cells #[.slice co cells.length cc] 22)).heap.size by simp]; exact alloc_new _ _
  have hWB : Fr [] w wb := by rw [hwb]; exact (((Fr.refl [] w).alloc _).alloc _).alloc _
  have HBEL := Lib.hid (below_seen wb s.nb hnb bx (bx + 1) (bx + 1 + 1) (fun k => seesB s rooms doors cells p (k : Int)) fun k wr _ hf =>
    seenC_any (h.old (hWB.trans hf (by simp [Ext]))) C hC p bx (bx + 1) (bx + 1 + 1) (hf.blk hB (by simp)) (cell_blk (hf.blk hB2 (by simp)) 0) (cell_blk (hf.blk hB3 (by simp)) 0) (k : Int))
  have c1 := (cell_blk hB 1).trans hC.c1
  have HWB := Lib.hid hWB
  have HBX := Lib.hid hbx
  have HWE := Lib.hid hwb
  rw [hC.val]
  clear h hC hbx hwb hB hB2 hB3 hWB
  go_enter Try.func19, Try.ntmps19
  go_upto_region 1 with (fail)
  rw [← HBX.out, ← HWE.out]
  go_wp2_with (go_at_call 32; refine HBEL.out.mono ?_; rintro e w2 ⟨oa, oc, rfl, hs2, hf2, hb2⟩; have HS2 := Lib.hid hs2; have HF2 := Lib.hid hf2; have HB2 := Lib.hid hb2; clear hs2 hf2 hb2)
  go_ret
  exact ⟨oa, oc, rfl, HS2.out, HWB.out.trans HF2.out (by simp [Ext]), fun k hk => by have := HB2.out k hk; have := HWB.out.size; omega⟩
end
end Go.Proofs.Ytdbngpncigjfiaa
/- The reference's Seen. -/
namespace Go.Proofs.Ytdbngpncigjfiaa
open Go.RowKit

section
variable {w : World} {s : St} {bodies : List Bd} {rooms : List Bx} {doors : List (Int × Int)} {co : Option Addr} {cc : Nat} {cells : List Int}

set_option maxRecDepth 100000 in
set_option maxHeartbeats 4000000 in
theorem rseen_any (h : VPre w s bodies rooms doors co cc cells) (p : Int) :
    Calls Try.prog 20 #[s.val, .slice co cells.length cc, .int .i64 p] w (IntsTo w (seenL s rooms doors cells p)) := by
  have hnb := h.mp.ok.b1
  obtain ⟨C, hC⟩ := cAt s
  have HSEE := Lib.hid fun u (hu : Fr [] w u) b => (by rw [← hC.val]; exact rsees_any (h.old hu) p b : Calls Try.prog 22 #[.agg C, .slice co cells.length cc, .int .i64 p, .int .i64 b] u fun e w' => e = .returned (.bool (seesB s rooms doors cells p b)) ∧ Fr [] u w')
  obtain ⟨q, hq⟩ : ∃ q : Nat → Bool, q = fun k : Nat => seesB s rooms doors cells p (k : Int) := ⟨_, rfl⟩
  have HQ := Lib.hid (by unfold seenL; rw [hq] : seenL s rooms doors cells p = accL q s.nb)
  have HQE := Lib.hid (fun k : Nat => (by rw [hq] : q k = seesB s rooms doors cells p (k : Int)))
  have HCS := Lib.hid hC.size
  have HC1 := Lib.hid hC.c1
  rw [hC.val]
  clear h hC hq
  obtain ⟨nb, hnbe⟩ : ∃ nb, nb = s.nb := ⟨_, rfl⟩
  obtain ⟨bx, hbx⟩ : ∃ bx, bx = w.heap.size := ⟨_, rfl⟩
  obtain ⟨wb, hwb⟩ : ∃ wb, wb = w.alloc (.cells C 31) := ⟨_, rfl⟩
  have HB := Lib.hid (by rw [hwb, hbx]; exact alloc_new w _ : wb.heap[bx]? = some (.cells C 31 (0, 0)))
  have HWB := Lib.hid (by rw [hwb]; exact (Fr.refl [] w).alloc _ : Fr [] w wb)
  have HBX := Lib.hid hbx
  have HWE := Lib.hid hwb
  have C1 := Lib.hid fun wr (hf : Fr [] wb wr) => (by rw [hnbe]; exact (cell_blk (hf.blk HB.out (by simp)) 1).trans HC1.out : wr.cell? ⟨bx, 1, none⟩ = some (.slice s.bo nb s.bc))
  rw [← hnbe] at HQ hnb
  clear hbx hwb hnbe
  obtain ⟨ii, hii, hii0, hii1, hii2⟩ := info_parts infoInt
  go_enter Try.func20, Try.ntmps20
  go_upto_region 1 with (fail)
  rw [← HBX.out, ← HWE.out]
  go_wp2_with fail
  go_loopw [7, 8] (fun vv iv wr => ∃ i : Nat, i ≤ nb ∧ iv = .int .i64 (i : Int) ∧ AccAt wb (accL q i) vv wr) (fun _ iv _ => nb - (intOf iv).toNat)
  case atStart => exact ⟨0, by omega, rfl, AccAt.start wb⟩
  case round =>
    obtain ⟨i, hi, rfl, hac⟩ := hrel
    by_cases hil : i < nb
    · obtain ⟨oa, oc, rfl, hseg, hf, hbl⟩ := hac
      have hlen := accL_len q i
      obtain ⟨L, hL⟩ : ∃ L, L = accL q i := ⟨_, rfl⟩
      have HL := Lib.hid hL
      rw [← hL] at hlen hseg ⊢
      have HS := Lib.hid hseg
      have HBL := Lib.hid hbl
      have HF := Lib.hid hf
      have HBR := Lib.hid (hf.blk HB.out (by simp))
      have cr := C1.out wr hf
      have HC := Lib.hid (HSEE.out wr (HWB.out.trans hf (by simp [Ext])) (i : Int))
      obtain ⟨b, hb⟩ : ∃ b, b = q i := ⟨_, rfl⟩
      rw [← HQE.out i, ← hb] at HC
      have HP := Lib.hid hb
      have hini : (i : Int) < (nb : Int) := by omega
      clear hL hseg hbl hf hb
      cases b
      · go_wp2_with (first | (refine wpList_loadB rfl 31 (Operand.tmp 3) rfl bx 16 rfl C 31 (0, 0) HBR.out _ Try.underlying31 rfl HCS.out infoSetup ?_) | (go_at_call 22; refine HC.out.mono ?_; rintro e w1 ⟨rfl, hf1⟩; have HF1 := Lib.hid hf1; clear hf1))
        go_roundw
        case rel => exact ⟨i + 1, by omega, by go_num, by rw [accL_no HP.out.symm, ← HL.out]; exact ⟨oa, oc, rfl, HS.out.fr HF1.out (by simp), HF.out.trans HF1.out (by simp [Ext]), HBL.out⟩⟩
        case measure => simp [intOf]; omega
      · go_wp2_with (first | (refine wpList_loadB rfl 31 (Operand.tmp 3) rfl bx 16 rfl C 31 (0, 0) HBR.out _ Try.underlying31 rfl HCS.out infoSetup ?_) | (go_at_call 22; refine HC.out.mono ?_; rintro e w1 ⟨rfl, hf1⟩; have HF1 := Lib.hid hf1; clear hf1; have HSA := Lib.hid fun (o : Obj) => (HS.out.fr HF1.out (by simp)).alloc o; have HNE := Lib.hid (one_new w1)) | (at_builtin; refine wpList_append_seg rfl _ _ 22 rfl 3 ii _ 1 8 Try.underlying22 hii hii0 hii1 hii2 rfl (by decide) oa L.length oc (ints L) rfl (HSA.out _) ⟨_, 0, none⟩ 1 1 [_] rfl rfl (HNE.out _ _) (by simp [Value.oneCell']) (by unfold maxLen; omega) (by omega) ?_; intro ao' cap' w5 hs5 hf5 hx5; have HS5 := Lib.hid hs5; have HF5 := Lib.hid hf5; have HX5 := Lib.hid hx5; clear hs5 hf5 hx5))
        go_roundw
        case rel =>
          refine ⟨i + 1, by omega, by go_num, ?_⟩
          rw [accL_yes HP.out.symm, ← HL.out]
          have hbo := HBL.out
          have hf1 := HF.out.trans HF1.out (by simp [Ext])
          refine ⟨ao', cap', by simp, by rw [ints_append]; simpa [ints] using HS5.out, ?_, fun k hk => ?_⟩
          · exact ((hf1.alloc _).trans HF5.out fun k hk => .inr (hbo k hk))
          · rcases HX5.out k hk with h | h
            · exact hbo k h
            · have := hf1.size; simp at h; omega
        case measure => simp [intOf]; omega
    · have hke : i = nb := by omega
      have HR := Lib.hid (by rw [hke] at hac; exact (hac.from HWB.out).to)
      have cr := C1.out wr (by obtain ⟨_, _, _, _, hf, _⟩ := hac; exact hf)
      clear hke hac
      go_wp2_with fail
      go_ret
      rw [HQ.out]
      exact HR.out
end
end Go.Proofs.Ytdbngpncigjfiaa
/- arenanetref01.SameInts of two equal rows. -/
namespace Go.Proofs.Ytdbngpncigjfiaa
open Go.RowKit

set_option maxRecDepth 100000 in
set_option maxHeartbeats 1000000 in
theorem same_yes (w : World) (ao bo : Option Addr) (ca cb : Nat) (l : List Int) (ha : Rd w 1 ao l.length (ints l)) (hb : Rd w 1 bo l.length (ints l)) :
    Calls Try.prog 14 #[.slice ao l.length ca, .slice bo l.length cb] w fun e w' => e = .returned (.bool true) ∧ ∃ k, w' = w.drewN k := by
  have hlen : l.length ≤ 9223372036854775807 := by have := ha.2.1; unfold maxLen at this; omega
  have HA := Lib.hid ha
  have HB := Lib.hid hb
  clear ha hb
  go_enter Try.func14, Try.ntmps14
  go_wp2_with fail
  go_loopw [5] (fun i wr => ∃ i' : Nat, i' ≤ l.length ∧ i = .int .i64 i' ∧ ∃ k, wr = w.drewN k) (fun i _ => l.length - (intOf i).toNat)
  case atStart => exact ⟨0, Nat.zero_le _, rfl, 0, rfl⟩
  case round =>
    obtain ⟨i, hi, rfl, k, rfl⟩ := hrel
    by_cases hin : i < l.length
    · have hcx : ∃ g off g2 off2 x, ao = some ⟨g, off, none⟩ ∧ bo = some ⟨g2, off2, none⟩ ∧ w.cell? ⟨g, off + i, none⟩ = some (.int .i64 x) ∧ w.cell? ⟨g2, off2 + i, none⟩ = some (.int .i64 x) := by
        obtain ⟨g, off, h1, _, h2⟩ := HA.out.at (by omega)
        obtain ⟨g2, off2, h3, _, h4⟩ := HB.out.at (by omega)
        exact ⟨g, off, g2, off2, l[i], h1, h3, by rw [h2 i (by omega), ints_get, List.getElem?_eq_getElem hin]; rfl, by rw [h4 i (by omega), ints_get, List.getElem?_eq_getElem hin]; rfl⟩
      obtain ⟨g, off, g2, off2, x, rfl, rfl, c1, c2⟩ := hcx
      go_wp2_with fail
      go_quiet (fail)
      go_wp2_with fail
      go_roundw
      case rel => exact ⟨i + 1, by omega, by go_num, _, rfl⟩
      case measure => simp [intOf]; omega
    · go_wp2_with fail
      go_ret
      exact ⟨rfl, k, rfl⟩
end Go.Proofs.Ytdbngpncigjfiaa
