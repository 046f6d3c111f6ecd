/- The reference's Seen. -/
import Derived.Test.YtdbngpncigjfiaaSeen
namespace Go.Proofs.Ytdbngpncigjfiaa
open Go.RowKit

section
variable {w : World} {s : St} {bodies : List Bd} {rooms : List Bx} {doors : List (Int × Int)} {co : Option Addr} {cc : Nat} {cells : List Int}

set_option maxRecDepth 100000 in
set_option maxHeartbeats 4000000 in
theorem rseen_any (h : VPre w s bodies rooms doors co cc cells) (p : Int) :
    Calls Try.prog 20 #[s.val, .slice co cells.length cc, .int .i64 p] w (IntsTo w (seenL s rooms doors cells p)) := by
  have hnb := h.mp.ok.b1
  obtain ⟨C, hC⟩ := cAt s
  have HSEE := Lib.hid fun u (hu : Fr [] w u) b => (by rw [← hC.val]; exact rsees_any (h.old hu) p b : Calls Try.prog 22 #[.agg C, .slice co cells.length cc, .int .i64 p, .int .i64 b] u fun e w' => e = .returned (.bool (seesB s rooms doors cells p b)) ∧ Fr [] u w')
  obtain ⟨q, hq⟩ : ∃ q : Nat → Bool, q = fun k : Nat => seesB s rooms doors cells p (k : Int) := ⟨_, rfl⟩
  have HQ := Lib.hid (by unfold seenL; rw [hq] : seenL s rooms doors cells p = accL q s.nb)
  have HQE := Lib.hid (fun k : Nat => (by rw [hq] : q k = seesB s rooms doors cells p (k : Int)))
  have HCS := Lib.hid hC.size
  have HC1 := Lib.hid hC.c1
  rw [hC.val]
  clear h hC hq
  obtain ⟨nb, hnbe⟩ : ∃ nb, nb = s.nb := ⟨_, rfl⟩
  obtain ⟨bx, hbx⟩ : ∃ bx, bx = w.heap.size := ⟨_, rfl⟩
  obtain ⟨wb, hwb⟩ : ∃ wb, wb = w.alloc (.cells C 31) := ⟨_, rfl⟩
  have HB := Lib.hid (by rw [hwb, hbx]; exact alloc_new w _ : wb.heap[bx]? = some (.cells C 31 (0, 0)))
  have HWB := Lib.hid (by rw [hwb]; exact (Fr.refl [] w).alloc _ : Fr [] w wb)
  have HBX := Lib.hid hbx
  have HWE := Lib.hid hwb
  have C1 := Lib.hid fun wr (hf : Fr [] wb wr) => (by rw [hnbe]; exact (cell_blk (hf.blk HB.out (by simp)) 1).trans HC1.out : wr.cell? ⟨bx, 1, none⟩ = some (.slice s.bo nb s.bc))
  rw [← hnbe] at HQ hnb
  clear hbx hwb hnbe
  obtain ⟨ii, hii, hii0, hii1, hii2⟩ := info_parts infoInt
  go_enter Try.func20, Try.ntmps20
  go_upto_region 1 with (fail)
  rw [← HBX.out, ← HWE.out]
  go_wp2_with fail
  go_loopw [7, 8] (fun vv iv wr => ∃ i : Nat, i ≤ nb ∧ iv = .int .i64 (i : Int) ∧ AccAt wb (accL q i) vv wr) (fun _ iv _ => nb - (intOf iv).toNat)
  case atStart => exact ⟨0, by omega, rfl, AccAt.start wb⟩
  case round =>
    obtain ⟨i, hi, rfl, hac⟩ := hrel
    by_cases hil : i < nb
    · obtain ⟨oa, oc, rfl, hseg, hf, hbl⟩ := hac
      have hlen := accL_len q i
      obtain ⟨L, hL⟩ : ∃ L, L = accL q i := ⟨_, rfl⟩
      have HL := Lib.hid hL
      rw [← hL] at hlen hseg ⊢
      have HS := Lib.hid hseg
      have HBL := Lib.hid hbl
      have HF := Lib.hid hf
      have HBR := Lib.hid (hf.blk HB.out (by simp))
      have cr := C1.out wr hf
      have HC := Lib.hid (HSEE.out wr (HWB.out.trans hf (by simp [Ext])) (i : Int))
      obtain ⟨b, hb⟩ : ∃ b, b = q i := ⟨_, rfl⟩
      rw [← HQE.out i, ← hb] at HC
      have HP := Lib.hid hb
      have hini : (i : Int) < (nb : Int) := by omega
      clear hL hseg hbl hf hb
      cases b
      · go_wp2_with (first | (refine wpList_loadB rfl 31 (Operand.tmp 3) rfl bx 16 rfl C 31 (0, 0) HBR.out _ Try.underlying31 rfl HCS.out infoSetup ?_) | (go_at_call 22; refine HC.out.mono ?_; rintro e w1 ⟨rfl, hf1⟩; have HF1 := Lib.hid hf1; clear hf1))
        go_roundw
        case rel => exact ⟨i + 1, by omega, by go_num, by rw [accL_no HP.out.symm, ← HL.out]; exact ⟨oa, oc, rfl, HS.out.fr HF1.out (by simp), HF.out.trans HF1.out (by simp [Ext]), HBL.out⟩⟩
        case measure => simp [intOf]; omega
      · go_wp2_with (first | (refine wpList_loadB rfl 31 (Operand.tmp 3) rfl bx 16 rfl C 31 (0, 0) HBR.out _ Try.underlying31 rfl HCS.out infoSetup ?_) | (go_at_call 22; refine HC.out.mono ?_; rintro e w1 ⟨rfl, hf1⟩; have HF1 := Lib.hid hf1; clear hf1; have HSA := Lib.hid fun (o : Obj) => (HS.out.fr HF1.out (by simp)).alloc o; have HNE := Lib.hid (one_new w1)) | (at_builtin; refine wpList_append_seg rfl _ _ 22 rfl 3 ii _ 1 8 Try.underlying22 hii hii0 hii1 hii2 rfl (by decide) oa L.length oc (ints L) rfl (HSA.out _) ⟨_, 0, none⟩ 1 1 [_] rfl rfl (HNE.out _ _) (by simp [Value.oneCell']) (by unfold maxLen; omega) (by omega) ?_; intro ao' cap' w5 hs5 hf5 hx5; have HS5 := Lib.hid hs5; have HF5 := Lib.hid hf5; have HX5 := Lib.hid hx5; clear hs5 hf5 hx5))
        go_roundw
        case rel =>
          refine ⟨i + 1, by omega, by go_num, ?_⟩
          rw [accL_yes HP.out.symm, ← HL.out]
          have hbo := HBL.out
          have hf1 := HF.out.trans HF1.out (by simp [Ext])
          refine ⟨ao', cap', by simp, by rw [ints_append]; simpa [ints] using HS5.out, ?_, fun k hk => ?_⟩
          · exact ((hf1.alloc _).trans HF5.out fun k hk => .inr (hbo k hk))
          · rcases HX5.out k hk with h | h
            · exact hbo k h
            · have := hf1.size; simp at h; omega
        case measure => simp [intOf]; omega
    · have hke : i = nb := by omega
      have HR := Lib.hid (by rw [hke] at hac; exact (hac.from HWB.out).to)
      have cr := C1.out wr (by obtain ⟨_, _, _, _, hf, _⟩ := hac; exact hf)
      clear hke hac
      go_wp2_with fail
      go_ret
      rw [HQ.out]
      exact HR.out
end
end Go.Proofs.Ytdbngpncigjfiaa
