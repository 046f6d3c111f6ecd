/- Package visibility: Rooms; the reference's Rooms. -/
import Derived.Test.YtdbngpncigjfiaaVis1
import Derived.Test.YtdbngpncigjfiaaBlk
import Derived.Test.YtdbngpncigjfiaaLives12
import Derived.Deep.QuietTactic
import Derived.BigQuiet
import Derived.Deep.CutBlock
import Derived.Deep.DeepCutAuto
namespace Go.Proofs.Ytdbngpncigjfiaa
open Go.RowKit

set_option maxRecDepth 100000 in
set_option maxHeartbeats 4000000 in
theorem roomsC_any (w : World) (k : Nat) (hk : k < 8) (tb V : Nat) (hV : V < 256) (ht : w.cell? ⟨tb, 0, none⟩ = some (.int .u64 (V : Int))) :
    Calls Try.prog 33 #[.int .i64 (k : Int), .pointer (some ⟨tb, 0, none⟩)] w (fun e w' => e = .returned (.bool (V.testBit k)) ∧ Fr [] w w') := by
  have hk8 : (k : Int) < 8 := by omega
  have hk0 : 0 ≤ (k : Int) := by omega
  have ha := bits_and_u64 V (bitN (k : Int)) hV (bitN_lt hk8)
  have h0 := and_bitN V hk0
  rw [Int.toNat_natCast] at h0
  by_cases hx : V &&& bitN (k : Int) = 0
  · have HT := Lib.hid (h0.1 hx)
    rw [hx] at ha
    have ha0 : bits .and .u64 (V : Int) ((bitN (k : Int) : Nat) : Int) = 0 := ha
    clear ha h0 hx
    go_enter Try.func33, Try.ntmps33
    go_wp2_with fail
    go_region_held3 (fun w' => w'.cell? ⟨tb, 0, none⟩ = some (.int .u64 (V : Int))) (first | exact ht) (first | (go_at_call 34; refine (bit_any _ _ hk0 hk8).mono ?_; rintro e w' ⟨rfl, rfl⟩))
    all_goals
      go_wp2_with fail
      go_ret
      exact ⟨ret_bool HT.out.symm, (Fr.refl _ _).drew⟩
  · have HT := Lib.hid (by cases e : V.testBit k with | false => exact absurd (h0.2 e) hx | true => rfl : V.testBit k = true)
    obtain ⟨X, hX⟩ : ∃ X, X = V &&& bitN (k : Int) := ⟨_, rfl⟩
    rw [← hX] at ha hx
    have hx1 : ((X : Int) == 0) = false := beq_eq_false_iff_ne.2 (by omega)
    have hx2 : ((X : Int) != 0) = true := by rw [bne, hx1]; rfl
    clear h0 hX hx
    go_enter Try.func33, Try.ntmps33
    go_wp2_with fail
    go_region_held3 (fun w' => w'.cell? ⟨tb, 0, none⟩ = some (.int .u64 (V : Int))) (first | exact ht) (first | (go_at_call 34; refine (bit_any _ _ hk0 hk8).mono ?_; rintro e w' ⟨rfl, rfl⟩))
    all_goals
      go_wp2_with fail
      go_ret
      exact ⟨ret_bool HT.out.symm, (Fr.refl _ _).drew⟩

theorem visOk_acc {rooms : List Bx} {doors : List (Int × Int)} {r : Int} {V : Nat} (h : VisOk rooms doors r V) (h8 : rooms.length ≤ 8) : accL (fun k => V.testBit k) rooms.length = roomsVis rooms doors r := by
  unfold roomsVis
  split
  · exact accL_false fun k hk => by rw [h.2 k (by omega), decide_eq_false (by omega), Bool.false_and]
  · exact accL_congr fun k hk => by rw [h.2 k (by omega), decide_eq_true (by omega), Bool.true_and]

set_option maxRecDepth 100000 in
set_option maxHeartbeats 4000000 in
theorem rooms_any (w : World) (s : St) (rooms : List Bx) (doors : List (Int × Int)) (h : MapAt w s rooms doors) (hfew : Few rooms doors) (r : Int) :
    Calls Try.prog 15 #[s.val, .int .i64 r] w (IntsTo w (roomsVis rooms doors r)) := by
  have h8 := hfew.1
  have HFW := Lib.hid hfew
  have HM := Lib.hid h
  obtain ⟨C, hC⟩ : ∃ C : Array Value, C = #[.int .i64 s.players, .slice s.bo s.nb s.bc, .int .i64 s.x0, .int .i64 s.y0, .int .i64 s.x1, .int .i64 s.y1, .slice s.ro rooms.length s.rc, .slice s.dO doors.length s.dc, .int .i64 s.fog, .int .i64 s.gx, .int .i64 s.gy, .int .i64 s.push, .int .i64 s.drag, .int .i64 s.rest, .int .i64 s.rounds, .int .i64 s.fuel] := ⟨_, rfl⟩
  have HV := Lib.hid (by rw [hC]; exact val_spelt h : s.val = .agg C)
  have HCS := Lib.hid (by rw [hC]; rfl : C.size = 16)
  have HC6 := Lib.hid (by rw [hC]; rfl : C[6]? = some (.slice s.ro rooms.length s.rc))
  have HVIS := Lib.hid fun wb hf => (by rw [← HV.out]; exact vis_any wb s rooms doors (HM.out.old hf) hfew r : Calls Try.prog 31 #[.agg C, .int .i64 r] wb (VisAny rooms doors r wb))
  clear h hC hfew
  obtain ⟨bx, hbx⟩ : ∃ bx, bx = w.heap.size := ⟨_, rfl⟩
  obtain ⟨wb, hwb⟩ : ∃ wb, wb = w.alloc (.cells C 31) := ⟨_, rfl⟩
  have HB := Lib.hid (by rw [hwb, hbx]; exact alloc_new w _ : wb.heap[bx]? = some (.cells C 31 (0, 0)))
  have HWB := Lib.hid (by rw [hwb]; exact (Fr.refl [] w).alloc _ : Fr [] w wb)
  have HBX := Lib.hid hbx
  have HWE := Lib.hid hwb
  clear hbx hwb
  rw [HV.out]
  go_enter Try.func15, Try.ntmps15
  go_upto_region 1 with (fail)
  rw [← HBX.out, ← HWE.out]
  go_wp2_with (first | (refine wpList_loadB rfl 31 (Operand.tmp 2) rfl bx 16 rfl C 31 (0, 0) HB.out _ Try.underlying31 rfl HCS.out infoSetup ?_) | (go_at_call 31; refine (HVIS.out wb HWB.out).mono ?_; rintro e w1 ⟨V, rfl, hV, hf1⟩; have HVO := Lib.hid hV; have HF1 := Lib.hid hf1; have cx : ∀ o, (w1.alloc o).cell? ⟨bx, 6, none⟩ = some (.slice s.ro rooms.length s.rc) := fun o => (cell_blk (alloc_old (hf1.blk HB.out (by simp))) 6).trans HC6.out; have HBEL := Lib.hid (below_rooms (w1.alloc (.cells #[.int .u64 (V : Int)] 57)) rooms.length (by omega) w1.heap.size (fun k => V.testBit k) (fun k wr hk hf => roomsC_any wr k (by omega) w1.heap.size V hV.1 (cell_blk (hf.blk (alloc_new w1 _) (by simp)) 0))); clear hV hf1) | (go_at_call 32; refine HBEL.out.mono ?_; rintro e w2 ⟨oa, oc, rfl, hs2, hf2, hb2⟩; have HS2 := Lib.hid hs2; have HF2 := Lib.hid hf2; have HB2 := Lib.hid hb2; clear hs2 hf2 hb2))
  go_ret
  have hl := visOk_acc HVO.out h8
  have hf := (HWB.out.trans HF1.out (by simp [Ext])).alloc (.cells #[.int .u64 (V : Int)] 57)
  rw [← hl]
  exact ⟨oa, oc, rfl, HS2.out, hf.trans HF2.out (by simp [Ext]), fun k hk => by have := HB2.out k hk; have := hf.size; omega⟩

set_option maxRecDepth 100000 in
set_option maxHeartbeats 4000000 in
theorem rrooms_any (w : World) (s : St) (rooms : List Bx) (doors : List (Int × Int)) (h : MapAt w s rooms doors) (hfew : Few rooms doors) (r : Int) :
    Calls Try.prog 16 #[s.val, .int .i64 r] w (IntsTo w (roomsVis rooms doors r)) := by
  have h8 := hfew.1
  have HFW := Lib.hid hfew
  have HM := Lib.hid h
  obtain ⟨C, hC⟩ : ∃ C : Array Value, C = #[.int .i64 s.players, .slice s.bo s.nb s.bc, .int .i64 s.x0, .int .i64 s.y0, .int .i64 s.x1, .int .i64 s.y1, .slice s.ro rooms.length s.rc, .slice s.dO doors.length s.dc, .int .i64 s.fog, .int .i64 s.gx, .int .i64 s.gy, .int .i64 s.push, .int .i64 s.drag, .int .i64 s.rest, .int .i64 s.rounds, .int .i64 s.fuel] := ⟨_, rfl⟩
  have HV := Lib.hid (by rw [hC]; exact val_spelt h : s.val = .agg C)
  have HCS := Lib.hid (by rw [hC]; rfl : C.size = 16)
  have HC6 := Lib.hid (by rw [hC]; rfl : C[6]? = some (.slice s.ro rooms.length s.rc))
  have HCON := Lib.hid fun wr hf b => (by rw [← HV.out]; exact conn_any wr s rooms doors (HM.out.old hf) r b : Calls Try.prog 35 #[.agg C, .int .i64 r, .int .i64 b] wr fun e w' => e = .returned (.bool (connB doors r b)) ∧ Fr [] wr w')
  clear h hC hfew
  obtain ⟨bx, hbx⟩ : ∃ bx, bx = w.heap.size := ⟨_, rfl⟩
  obtain ⟨wb, hwb⟩ : ∃ wb, wb = w.alloc (.cells C 31) := ⟨_, rfl⟩
  have HB := Lib.hid (by rw [hwb, hbx]; exact alloc_new w _ : wb.heap[bx]? = some (.cells C 31 (0, 0)))
  have HWB := Lib.hid (by rw [hwb]; exact (Fr.refl [] w).alloc _ : Fr [] w wb)
  have HBX := Lib.hid hbx
  have HWE := Lib.hid hwb
  clear hbx hwb
  rw [HV.out]
  have c6 : ∀ wr, Fr [] wb wr → wr.cell? ⟨bx, 6, none⟩ = some (.slice s.ro rooms.length s.rc) := fun wr hf => (cell_blk (hf.blk HB.out (by simp)) 6).trans HC6.out
  have C6 := Lib.hid c6
  have cb := c6 wb (Fr.refl _ _)
  clear c6
  obtain ⟨ii, hii, hii0, hii1, hii2⟩ := info_parts infoInt
  by_cases hin : r < 0 ∨ (rooms.length : Int) ≤ r
  · have HR := Lib.hid (by unfold roomsVis; rw [if_pos hin] : roomsVis rooms doors r = [])
    by_cases h0 : r < 0
    · clear hin
      go_enter Try.func16, Try.ntmps16
      go_upto_region 1 with (fail)
      rw [← HBX.out, ← HWE.out]
      go_wp2_with fail
      go_ret
      rw [HR.out]
      exact ((AccAt.start wb).from HWB.out).to
    · have h1 : 0 ≤ r := by omega
      have h2 : (rooms.length : Int) ≤ r := by omega
      clear hin h0
      go_enter Try.func16, Try.ntmps16
      go_upto_region 1 with (fail)
      rw [← HBX.out, ← HWE.out]
      go_wp2_with fail
      go_ret
      rw [HR.out]
      exact ((AccAt.start wb).from HWB.out).to
  · have HR := Lib.hid (by unfold roomsVis; rw [if_neg hin] : roomsVis rooms doors r = accL (fun k => connB doors r (k : Int)) rooms.length)
    have h1 : 0 ≤ r := by omega
    have h2 : r < (rooms.length : Int) := by omega
    clear hin
    go_enter Try.func16, Try.ntmps16
    go_upto_region 1 with (fail)
    rw [← HBX.out, ← HWE.out]
    go_wp2_with fail
    go_loopw [5, 6] (fun vv iv wr => ∃ i : Nat, i ≤ rooms.length ∧ iv = .int .i64 (i : Int) ∧ AccAt wb (accL (fun k => connB doors r (k : Int)) i) vv wr) (fun _ iv _ => rooms.length - (intOf iv).toNat)
    case atStart => exact ⟨0, by omega, rfl, AccAt.start wb⟩
    case round =>
      obtain ⟨i, hi, rfl, hac⟩ := hrel
      by_cases hil : i < rooms.length
      · obtain ⟨oa, oc, rfl, hseg, hf, hbl⟩ := hac
        have hlen := accL_len (fun k => connB doors r (k : Int)) i
        obtain ⟨L, hL⟩ : ∃ L, L = accL (fun k => connB doors r (k : Int)) i := ⟨_, rfl⟩
        have HL := Lib.hid hL
        rw [← hL] at hlen hseg ⊢
        have HS := Lib.hid hseg
        have HBL := Lib.hid hbl
        have HF := Lib.hid hf
        have hB := hf.blk HB.out (by simp)
        have HBR := Lib.hid hB
        have cr := C6.out wr hf
        have HC := Lib.hid (HCON.out wr (HWB.out.trans hf (by simp [Ext])) (i : Int))
        obtain ⟨b, hb⟩ : ∃ b, b = connB doors r (i : Int) := ⟨_, rfl⟩
        rw [← hb] at HC
        have HP := Lib.hid hb
        have hini : (i : Int) < (rooms.length : Int) := by omega
        clear hL hseg hbl hf hb hB
        cases b
        · go_wp2_with (first | (refine wpList_loadB rfl 31 (Operand.tmp 2) rfl bx 16 rfl C 31 (0, 0) HBR.out _ Try.underlying31 rfl HCS.out infoSetup ?_) | (go_at_call 35; refine HC.out.mono ?_; rintro e w1 ⟨rfl, hf1⟩; have HF1 := Lib.hid hf1; clear hf1))
          go_roundw
          case rel => exact ⟨i + 1, by omega, by go_num, by rw [accL_no HP.out.symm, ← HL.out]; exact ⟨oa, oc, rfl, HS.out.fr HF1.out (by simp), HF.out.trans HF1.out (by simp [Ext]), HBL.out⟩⟩
          case measure => simp [intOf]; omega
        · go_wp2_with (first | (refine wpList_loadB rfl 31 (Operand.tmp 2) rfl bx 16 rfl C 31 (0, 0) HBR.out _ Try.underlying31 rfl HCS.out infoSetup ?_) | (go_at_call 35; refine HC.out.mono ?_; rintro e w1 ⟨rfl, hf1⟩; have HF1 := Lib.hid hf1; clear hf1; have HSA := Lib.hid fun (o : Obj) => (HS.out.fr HF1.out (by simp)).alloc o; have HNE := Lib.hid (one_new w1)) | (at_builtin; refine wpList_append_seg rfl _ _ 22 rfl 3 ii _ 1 8 Try.underlying22 hii hii0 hii1 hii2 rfl (by decide) oa L.length oc (ints L) rfl (HSA.out _) ⟨_, 0, none⟩ 1 1 [_] rfl rfl (HNE.out _ _) (by simp [Value.oneCell']) (by unfold maxLen; omega) (by omega) ?_; intro ao' cap' w5 hs5 hf5 hx5; have HS5 := Lib.hid hs5; have HF5 := Lib.hid hf5; have HX5 := Lib.hid hx5; clear hs5 hf5 hx5))
          go_roundw
          case rel =>
            refine ⟨i + 1, by omega, by go_num, ?_⟩
            rw [accL_yes HP.out.symm, ← HL.out]
            have hbo := HBL.out
            have hf1 := HF.out.trans HF1.out (by simp [Ext])
            refine ⟨ao', cap', by simp, by rw [ints_append]; simpa [ints] using HS5.out, ?_, fun k hk => ?_⟩
            · exact ((hf1.alloc _).trans HF5.out fun k hk => .inr (hbo k hk))
            · rcases HX5.out k hk with h | h
              · exact hbo k h
              · have := hf1.size; simp at h; omega
          case measure => simp [intOf]; omega
      · have hke : i = rooms.length := by omega
        have HQ := Lib.hid (by rw [hke] at hac; exact (hac.from HWB.out).to)
        have cr := C6.out wr (by obtain ⟨_, _, _, _, hf, _⟩ := hac; exact hf)
        clear hke hac
        go_wp2_with fail
        go_ret
        rw [HR.out]
        exact HQ.out
end Go.Proofs.Ytdbngpncigjfiaa
