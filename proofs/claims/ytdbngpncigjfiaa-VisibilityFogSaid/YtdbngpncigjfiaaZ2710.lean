/- Lives27, Pick (merged by merge.py). -/
import Derived.Test.YtdbngpncigjfiaaZ279
import Derived.Test.YtdbngpncigjfiaaZ276
import Derived.Test.YtdbngpncigjfiaaZ271
import Derived.Test.YtdbngpncigjfiaaZ272
/- Chapter 27's lives (written by genlives27.py). -/
namespace Go.Proofs.Ytdbngpncigjfiaa
open Go.RowKit

def tD : Bd := ⟨1024, none, 0, 0, 0, 0, 0, 0, 1024, 0, 0⟩
def tB : Bx := ⟨-1000, -1000, 1000, 1000⟩
def tS (bb br : Nat) : St := ⟨1, some ⟨bb, 0, none⟩, 2, 2, -1000, -1000, 1000, 1000, some ⟨br, 0, none⟩, 1, 1, none, 0, 0, 100, 0, 0, 0, 0, 0, 1, 0⟩
def tN (bb br : Nat) : St := { tS bb br with ro := none, rn := 0, rc := 0 }
def tF (bb br : Nat) : St := { tS bb br with fog := 99 }
def tL : List Int := (List.replicate 68 0).set 60 100

def TwoTo (w : World) (e : Ending) (w' : World) : Prop := ∃ bb br, e = .returned (tS bb br).val ∧ w'.heap[bb]? = some (.cells ([tD, tD].flatMap Bd.cells).toArray 75 (0, 0)) ∧ w'.heap[br]? = some (.cells ([tB].flatMap Bx.cells).toArray 25 (0, 0)) ∧ Fr [] w w'

set_option maxRecDepth 100000 in
set_option maxHeartbeats 8000000 in
theorem two_any (w : World) : Calls Try.prog 36 #[] w (TwoTo w) := by
  obtain ⟨ZS, hZS⟩ : ∃ ZS : Array Value, ZS = #[.int .i64 0, .slice none 0 0, .int .i64 0, .int .i64 0, .int .i64 0, .int .i64 0, .slice none 0 0, .slice none 0 0, .int .i64 0, .int .i64 0, .int .i64 0, .int .i64 0, .int .i64 0, .int .i64 0, .int .i64 0, .int .i64 0] := ⟨_, rfl⟩
  obtain ⟨r0, hr0⟩ : ∃ r0, r0 = w.heap.size := ⟨_, rfl⟩
  obtain ⟨wb, hwb⟩ : ∃ wb, wb = w.alloc (.cells ZS 31) := ⟨_, rfl⟩
  have HWB := Lib.hid (by rw [hwb]; exact (Fr.refl [] w).alloc _ : Fr [] w wb)
  have HBR := Lib.hid (by rw [hwb, hr0]; exact alloc_new w _ : wb.heap[r0]? = some (.cells ZS 31 (0, 0)))
  have HZ16 := Lib.hid (by rw [hZS]; rfl : ZS.size = 16)
  have HR0 := Lib.hid hr0
  have HZS := Lib.hid hZS
  have HWE := Lib.hid hwb
  clear hr0 hZS hwb
  go_enter Try.func36, Try.ntmps36
  go_upto_region 1 with (fail)
  rw [← HR0.out, ← HZS.out, ← HWE.out]
  go_upto_region 3 with fail
  go_wp2_with (refine wpList_storeB rfl 31 (Operand.tmp 0) (Operand.tmp 13) rfl r0 16 (stCells (tS (wb.heap.size + 1 + 1) (wb.heap.size + 1 + 1 + 1))) rfl rfl ZS 31 (by exact alloc_old (alloc_old (alloc_old (alloc_old HBR.out)))) HZ16.out rfl infoSetup (by simp [stCells, tS, Value.oneCell']) ?_; intro wf hbf hff; have HBF := Lib.hid hbf; have HFO := Lib.hid hff; clear hbf hff)
  have q0 : wf.cell? ⟨r0, 0, none⟩ = some (.int .i64 1) := cell_blk HBF.out 0
  have q1 : wf.cell? ⟨r0, 1, none⟩ = some (.slice (some ⟨wb.heap.size + 1 + 1, 0, none⟩) 2 2) := cell_blk HBF.out 1
  have q2 : wf.cell? ⟨r0, 2, none⟩ = some (.int .i64 (-1000)) := cell_blk HBF.out 2
  have q3 : wf.cell? ⟨r0, 3, none⟩ = some (.int .i64 (-1000)) := cell_blk HBF.out 3
  have q4 : wf.cell? ⟨r0, 4, none⟩ = some (.int .i64 1000) := cell_blk HBF.out 4
  have q5 : wf.cell? ⟨r0, 5, none⟩ = some (.int .i64 1000) := cell_blk HBF.out 5
  have q6 : wf.cell? ⟨r0, 6, none⟩ = some (.slice (some ⟨wb.heap.size + 1 + 1 + 1, 0, none⟩) 1 1) := cell_blk HBF.out 6
  have q7 : wf.cell? ⟨r0, 7, none⟩ = some (.slice none 0 0) := cell_blk HBF.out 7
  have q8 : wf.cell? ⟨r0, 8, none⟩ = some (.int .i64 100) := cell_blk HBF.out 8
  have q9 : wf.cell? ⟨r0, 9, none⟩ = some (.int .i64 0) := cell_blk HBF.out 9
  have q10 : wf.cell? ⟨r0, 10, none⟩ = some (.int .i64 0) := cell_blk HBF.out 10
  have q11 : wf.cell? ⟨r0, 11, none⟩ = some (.int .i64 0) := cell_blk HBF.out 11
  have q12 : wf.cell? ⟨r0, 12, none⟩ = some (.int .i64 0) := cell_blk HBF.out 12
  have q13 : wf.cell? ⟨r0, 13, none⟩ = some (.int .i64 0) := cell_blk HBF.out 13
  have q14 : wf.cell? ⟨r0, 14, none⟩ = some (.int .i64 1) := cell_blk HBF.out 14
  have q15 : wf.cell? ⟨r0, 15, none⟩ = some (.int .i64 0) := cell_blk HBF.out 15
  refine bodyPost_ret (v := (tS (wb.heap.size + 1 + 1) (wb.heap.size + 1 + 1 + 1)).val) (by simp [results, Try.results36, go_sem, q0, q1, q2, q3, q4, q5, q6, q7, q8, q9, q10, q11, q12, q13, q14, q15]; rfl) rfl ?_
  have hr := HFO.out
  have hr0w : r0 < wb.heap.size := lt_of_blk HBR.out
  refine ⟨_, _, rfl, ?_, ?_, ?_⟩
  · exact hr.blk (alloc_old (alloc_new3 wb _ _ _)) (by simp; omega)
  · exact hr.blk (alloc_new4 wb _ _ _ _) (by simp; omega)
  · have h1 : Fr [] w ((((wb.alloc (.cells tD.cells.toArray 75)).alloc (.cells tB.cells.toArray 25)).alloc (.cells ([tD, tD].flatMap Bd.cells).toArray 75)).alloc (.cells ([tB].flatMap Bx.cells).toArray 25)) := (((HWB.out.alloc _).alloc _).alloc _).alloc _
    exact h1.trans hr (fun k hk => .inr (by simp at hk; rw [hk, HR0.out]; exact Nat.le_refl _))

theorem tL_len : tL.length = 68 := by unfold tL; simp
theorem tL_get (k : Nat) : tL.getD k 0 = if k = 60 then 100 else 0 := by
  unfold tL
  rw [List.getD_eq_getElem?_getD, List.getElem?_set]
  by_cases h : k = 60
  · subst h; simp
  · rw [if_neg (fun e => h e.symm), if_neg h, List.getElem?_replicate]
    split <;> rfl
theorem t_pos (s : St) (hp : s.players = 1) (hn : s.nb = 2) : ∀ i : Int, 0 ≤ i → i < (s.nb : Int) → inC (posX s tL i) ∧ inC (posY s tL i) := by
  intro i h0 h1
  unfold posX posY inC
  rw [tL_get, tL_get]
  constructor <;> split <;> omega
theorem t_x (s : St) (hp : s.players = 1) : posX s tL 0 = 0 ∧ posY s tL 0 = 0 ∧ posX s tL 1 = 100 ∧ posY s tL 1 = 0 := by
  unfold posX posY
  rw [hp]
  simp only [tL_get]
  decide
theorem tS_pre {w : World} {bb br : Nat} (h1 : w.heap[bb]? = some (.cells ([tD, tD].flatMap Bd.cells).toArray 75 (0, 0))) (h2 : w.heap[br]? = some (.cells ([tB].flatMap Bx.cells).toArray 25 (0, 0)))
    {co : Option Addr} {cc : Nat} (hs : Seg w 3 1 co 68 cc (ints tL)) : VPre w (tS bb br) [tD, tD] [tB] [] co cc tL := by
  have h68 : Rd w 1 co tL.length (ints tL) := by rw [tL_len]; exact hs.rd
  refine ⟨⟨⟨by simp [tS], by simp [tS], by simp [tS], by simp [tS]⟩, by simp [tS], ⟨rfl, (Seg.one bb _ 75 9 2 h1 rfl (by unfold maxLen; omega)).rd⟩, h68, by rw [tL_len]; exact hs.2.2.1, hs.2.1⟩, ⟨rfl, rfl, (Seg.one br _ 25 4 1 h2 rfl (by unfold maxLen; omega)).rd, ⟨by simp, by simp, .inl rfl⟩⟩, ⟨by simp, by simp⟩, by simp [tS], by rw [tL_len]; simp [tS], t_pos _ rfl rfl, by simp [tS], by simp [tS]⟩
theorem tN_pre {w : World} {bb br : Nat} (h1 : w.heap[bb]? = some (.cells ([tD, tD].flatMap Bd.cells).toArray 75 (0, 0)))
    {co : Option Addr} {cc : Nat} (hs : Seg w 3 1 co 68 cc (ints tL)) : VPre w (tN bb br) [tD, tD] [] [] co cc tL := by
  have h68 : Rd w 1 co tL.length (ints tL) := by rw [tL_len]; exact hs.rd
  refine ⟨⟨⟨by simp [tN, tS], by simp [tN, tS], by simp [tN, tS], by simp [tN, tS]⟩, by simp [tN, tS], ⟨rfl, (Seg.one bb _ 75 9 2 h1 rfl (by unfold maxLen; omega)).rd⟩, h68, by rw [tL_len]; exact hs.2.2.1, hs.2.1⟩, ⟨rfl, rfl, ⟨by simp, by simp, .inl rfl⟩, ⟨by simp, by simp, .inl rfl⟩⟩, ⟨by simp, by simp⟩, by simp [tN, tS], by rw [tL_len]; simp [tN, tS], t_pos _ rfl rfl, by simp [tN, tS], by simp [tN, tS]⟩
theorem tF_pre {w : World} {bb br : Nat} (h1 : w.heap[bb]? = some (.cells ([tD, tD].flatMap Bd.cells).toArray 75 (0, 0))) (h2 : w.heap[br]? = some (.cells ([tB].flatMap Bx.cells).toArray 25 (0, 0)))
    {co : Option Addr} {cc : Nat} (hs : Seg w 3 1 co 68 cc (ints tL)) : VPre w (tF bb br) [tD, tD] [tB] [] co cc tL := by
  have h68 : Rd w 1 co tL.length (ints tL) := by rw [tL_len]; exact hs.rd
  refine ⟨⟨⟨by simp [tF, tS], by simp [tF, tS], by simp [tF, tS], by simp [tF, tS]⟩, by simp [tF, tS], ⟨rfl, (Seg.one bb _ 75 9 2 h1 rfl (by unfold maxLen; omega)).rd⟩, h68, by rw [tL_len]; exact hs.2.2.1, hs.2.1⟩, ⟨rfl, rfl, (Seg.one br _ 25 4 1 h2 rfl (by unfold maxLen; omega)).rd, ⟨by simp, by simp, .inl rfl⟩⟩, ⟨by simp, by simp⟩, by simp [tF, tS], by rw [tL_len]; simp [tF, tS], t_pos _ rfl rfl, by simp [tF, tS], by simp [tF, tS]⟩

theorem t_see0 (s : St) (rooms : List Bx) (hp : s.players = 1) (hn : s.nb = 2) : seesB s rooms [] tL 0 0 = true := by
  unfold seesB; rw [if_neg (by rw [hp, hn]; omega), if_pos rfl]
theorem t_seen (bb br : Nat) : seenL (tS bb br) [tB] [] tL 0 = [0, 1] := by
  have h0 := t_see0 (tS bb br) [tB] rfl rfl
  have h1 : seesB (tS bb br) [tB] [] tL 0 1 = true := by
    obtain ⟨a, b, c, d⟩ := t_x (tS bb br) rfl
    unfold seesB; rw [if_neg (by simp [tS]), if_neg (by omega), a, b, c, d]
    rfl
  show accL (fun k => seesB (tS bb br) [tB] [] tL 0 (k : Int)) 2 = _
  rw [accL_yes h1, accL_yes (by exact h0)]; rfl
theorem t_none (bb br : Nat) : seenL (tN bb br) [] [] tL 0 = [0] := by
  have h0 := t_see0 (tN bb br) [] rfl rfl
  have h1 : seesB (tN bb br) [] [] tL 0 1 = false := by
    obtain ⟨a, b, c, d⟩ := t_x (tN bb br) rfl
    unfold seesB; rw [if_neg (by simp [tN, tS]), if_neg (by omega), a, b, c, d]
    rfl
  show accL (fun k => seesB (tN bb br) [] [] tL 0 (k : Int)) 2 = _
  rw [accL_no h1, accL_yes (by exact h0)]; rfl
theorem t_far (bb br : Nat) : seesB (tF bb br) [tB] [] tL 0 1 = false := by
  obtain ⟨a, b, c, d⟩ := t_x (tF bb br) rfl
  unfold seesB; rw [if_neg (by simp [tF, tS]), if_neg (by omega), a, b, c, d]
  rfl
theorem t_rooms : roomsVis [tB] [] 0 = [0] := by decide
theorem t_room : roomOf [tB] 500 (-500) = 0 := by decide

theorem AccAt.zero (w : World) (T : TypeId) (hT : T = 3) : AccAt w [] (.slice (some ⟨w.heap.size, 0, none⟩) 0 0) (w.alloc (.cells #[] T)) :=
  ⟨some ⟨w.heap.size, 0, none⟩, 0, rfl, by subst hT; exact Seg.one w.heap.size _ _ 1 0 (alloc_new w _) rfl (by simp), (Fr.refl _ _).alloc _, by simp [blk]⟩

set_option maxRecDepth 100000 in
set_option maxHeartbeats 16000000 in
theorem lives_any (w : World) : Calls Try.prog 17 #[] w fun e w' => e = .returned (.bool true) ∧ Fr [] w w' := by
  obtain ⟨ii, hii, hii0, hii1, hii2⟩ := info_parts infoInt
  go_enter Try.func17, Try.ntmps17
  go_wp2_with fail
  refine (two_any w).mono ?_
  rintro e w1 ⟨bb, br, rfl, hbb, hbr, hf1⟩
  obtain ⟨C1, hC1⟩ : ∃ C1, C1 = stCells (tS bb br) := ⟨_, rfl⟩
  have HV1 := Lib.hid (by rw [hC1]; rfl : (tS bb br).val = .agg C1)
  have HCS1 := Lib.hid (by rw [hC1]; rfl : C1.size = 16)
  have HC1 := Lib.hid hC1
  have HO1 := Lib.hid (by rw [hC1]; simp [stCells, Value.oneCell'] : C1.all (·.oneCell') = true)
  have HBB := Lib.hid hbb
  have HBR := Lib.hid hbr
  have HF1 := Lib.hid hf1
  obtain ⟨b1, hb1⟩ : ∃ b1, b1 = w1.heap.size := ⟨_, rfl⟩
  have HB1 := Lib.hid hb1
  rw [HV1.out]
  clear hbb hbr hf1 hC1 hb1
  go_upto_region 2 with (refine wpList_storeB rfl 31 (Operand.tmp 1) (Operand.tmp 6) rfl w1.heap.size 16 C1 rfl rfl _ 31 (by exact alloc_new _ _) rfl HCS1.out infoSetup HO1.out ?_; intro w2 hb2 hf2; have F2 := Lib.hid (((Fr.refl [] w1).alloc _).trans hf2 (fun k hk => .inr (by simp at hk; omega))); have B2 := Lib.hid (by rw [HB1.out]; exact hb2 : w2.heap[b1]? = some (.cells C1 31 (0, 0))); clear hb2 hf2)
  rw [← HB1.out]
  go_upto_region 3 with fail
  have HA0 := Lib.hid (AccAt.zero w2 3 rfl)
  obtain ⟨wl, hwl⟩ : ∃ wl, wl = w2.alloc (.cells #[] 3) := ⟨_, rfl⟩
  rw [← hwl] at HA0 ⊢
  clear hwl
  go_wp2_with fail
  go_loopw [2, 3] (fun vv iv wr => ∃ i : Nat, i ≤ 68 ∧ iv = .int .i64 (i : Int) ∧ AccAt w2 (List.replicate i 0) vv wr) (fun _ iv _ => 68 - (intOf iv).toNat)
  case atStart => exact ⟨0, by omega, rfl, HA0.out⟩
  case round =>
    clear HA0
    obtain ⟨i, hi, rfl, hac⟩ := hrel
    by_cases hil : i < 68
    · obtain ⟨oa, oc, rfl, hseg, hf, hbl⟩ := hac
      obtain ⟨L, hL⟩ : ∃ L, L = List.replicate i (0 : Int) := ⟨_, rfl⟩
      have HL := Lib.hid hL
      have HLL := Lib.hid (by rw [hL]; simp : L.length = i)
      have hlen : L.length ≤ 68 := by rw [hL]; simp; omega
      rw [← hL] at hseg ⊢
      have HS := Lib.hid hseg
      have HBL := Lib.hid hbl
      have HF := Lib.hid hf
      have HSA := Lib.hid fun (o : Obj) => hseg.alloc o
      have HNE := Lib.hid (one_new wr)
      have hini : (i : Int) < 68 := by omega
      clear hL hseg hbl hf
      go_wp2_with (at_builtin; refine wpList_append_seg rfl _ _ 22 rfl 3 ii _ 1 8 Try.underlying22 hii hii0 hii1 hii2 rfl (by decide) oa L.length oc (ints L) rfl (HSA.out _) ⟨_, 0, none⟩ 1 1 [_] rfl rfl (HNE.out _ _) (by simp [Value.oneCell']) (by unfold maxLen; omega) (by omega) ?_; intro ao' cap' w5 hs5 hf5 hx5; have HS5 := Lib.hid hs5; have HF5 := Lib.hid hf5; have HX5 := Lib.hid hx5; clear hs5 hf5 hx5)
      go_roundw
      case rel =>
        refine ⟨i + 1, by omega, by go_num, ?_⟩
        rw [List.replicate_succ', ← HL.out]
        have hbo := HBL.out
        refine ⟨ao', cap', by simp, by rw [ints_append]; simpa [ints] using HS5.out, ?_, fun k hk => ?_⟩
        · exact ((HF.out.alloc _).trans HF5.out fun k hk => .inr (hbo k hk))
        · rcases HX5.out k hk with h | h
          · exact hbo k h
          · have := HF.out.size; simp at h; omega
      case measure => simp [intOf]; omega
    · obtain rfl : 68 = i := by omega
      obtain ⟨oa, oc, rfl, hseg, hf, hbl⟩ := hac
      rw [List.length_replicate] at hseg ⊢
      obtain ⟨g, off, cur, rfl, hg, hfit, hc, hfz⟩ := hseg.at (by have := hseg.2.2.1; omega)
      have c60 : wr.cell? ⟨g, off + 60, none⟩ = some (.int .i64 0) := by
        rw [hc 60 (by omega), ints_get, List.getElem?_replicate]; rfl
      have f60 : wr.frozen? ⟨g, off + 60, none⟩ = false := hfz _
      have hst := hseg.store (i := 60) (by omega) (.int .i64 100)
      have HST := Lib.hid (by rw [show (ints (List.replicate 68 0)).set 60 (Value.int .i64 100) = ints tL by unfold tL ints; rw [List.map_set]] at hst; exact hst)
      have hgl : w2.heap.size ≤ g := hbl g (by simp [blk])
      have HFR := Lib.hid (hf.setCell (p := ⟨g, off + 60, none⟩) (.inr hgl) (.int .i64 100))
      clear hseg hf hbl hg hfit hc hfz hst
      go_upto_region 8 with fail
      obtain ⟨wm, hwm⟩ : ∃ wm, wm = wr.setCell ⟨g, off + 60, none⟩ (.int .i64 100) := ⟨_, rfl⟩
      rw [← hwm] at HST HFR ⊢
      have HBM := Lib.hid (HFR.out.blk B2.out (by simp))
      obtain ⟨b4, hb4⟩ : ∃ b4, b4 = wm.heap.size := ⟨_, rfl⟩
      have HB4 := Lib.hid hb4
      clear hwm hb4 c60 f60
      go_upto_region 9 with (first | (refine wpList_loadB rfl 31 (Operand.tmp 1) rfl b1 16 rfl C1 31 (0, 0) HBM.out _ Try.underlying31 rfl HCS1.out infoSetup ?_) | (refine wpList_storeB rfl 31 (Operand.tmp 4) (Operand.tmp 17) rfl wm.heap.size 16 C1 rfl rfl _ 31 (by exact alloc_new _ _) rfl HCS1.out infoSetup HO1.out ?_; intro w3 hb3 hf3; have F3 := Lib.hid (((Fr.refl [] wm).alloc _).trans hf3 (fun k hk => .inr (by simp at hk; omega))); have B3 := Lib.hid (by rw [HB4.out]; exact hb3 : w3.heap[b4]? = some (.cells C1 31 (0, 0))); clear hb3 hf3))
      rw [← HB4.out]
      have c46 : w3.cell? ⟨b4, 6, none⟩ = some (.slice (some ⟨br, 0, none⟩) 1 1) := (cell_blk B3.out 6).trans (by rw [HC1.out]; rfl)
      have f46 : w3.frozen? ⟨b4, 6, none⟩ = false := frozen_blk B3.out 6
      go_upto_region 10 with fail
      obtain ⟨C4, hC4⟩ : ∃ C4, C4 = C1.setIfInBounds 6 (.slice none 0 0) := ⟨_, rfl⟩
      obtain ⟨w4, hw4⟩ : ∃ w4, w4 = w3.setCell ⟨b4, 6, none⟩ (.slice none 0 0) := ⟨_, rfl⟩
      have HV4 := Lib.hid (by rw [hC4, HC1.out]; rfl : (tN bb br).val = .agg C4)
      have HCS4 := Lib.hid (by rw [hC4, HC1.out]; rfl : C4.size = 16)
      have B4 := Lib.hid (by rw [hw4, hC4]; exact setCell_blk B3.out 6 _ : w4.heap[b4]? = some (.cells C4 31 (0, 0)))
      have F4 := Lib.hid (by rw [hw4]; exact F3.out.setCell (p := ⟨b4, 6, none⟩) (.inr (by rw [HB4.out]; exact Nat.le_refl _)) _ : Fr [] wm w4)
      have HBM4 := Lib.hid (F4.out.blk HBM.out (by simp))
      rw [← hw4]
      obtain ⟨b5, hb5⟩ : ∃ b5, b5 = w4.heap.size := ⟨_, rfl⟩
      have HB5 := Lib.hid hb5
      clear hC4 hw4 hb5 c46 f46 B3 F3
      go_upto_region 11 with (first | (refine wpList_loadB rfl 31 (Operand.tmp 1) rfl b1 16 rfl C1 31 (0, 0) HBM4.out _ Try.underlying31 rfl HCS1.out infoSetup ?_) | (refine wpList_storeB rfl 31 (Operand.tmp 5) (Operand.tmp 19) rfl w4.heap.size 16 C1 rfl rfl _ 31 (by exact alloc_new _ _) rfl HCS1.out infoSetup HO1.out ?_; intro w5 hb5 hf5; have F5 := Lib.hid (((Fr.refl [] w4).alloc _).trans hf5 (fun k hk => .inr (by simp at hk; omega))); have B5 := Lib.hid (by rw [HB5.out]; exact hb5 : w5.heap[b5]? = some (.cells C1 31 (0, 0))); clear hb5 hf5))
      rw [← HB5.out]
      have c58 : w5.cell? ⟨b5, 8, none⟩ = some (.int .i64 100) := (cell_blk B5.out 8).trans (by rw [HC1.out]; rfl)
      have f58 : w5.frozen? ⟨b5, 8, none⟩ = false := frozen_blk B5.out 8
      go_upto_region 12 with fail
      obtain ⟨C5, hC5⟩ : ∃ C5, C5 = C1.setIfInBounds 8 (.int .i64 99) := ⟨_, rfl⟩
      obtain ⟨w6, hw6⟩ : ∃ w6, w6 = w5.setCell ⟨b5, 8, none⟩ (.int .i64 99) := ⟨_, rfl⟩
      have HV5 := Lib.hid (by rw [hC5, HC1.out]; rfl : (tF bb br).val = .agg C5)
      have HCS5 := Lib.hid (by rw [hC5, HC1.out]; rfl : C5.size = 16)
      have B6 := Lib.hid (by rw [hw6, hC5]; exact setCell_blk B5.out 8 _ : w6.heap[b5]? = some (.cells C5 31 (0, 0)))
      have F6 := Lib.hid (by rw [hw6]; exact F4.out.trans (F5.out.setCell (p := ⟨b5, 8, none⟩) (.inr (by rw [HB5.out]; exact Nat.le_refl _)) _) (by simp [Ext]) : Fr [] wm w6)
      have F46 := Lib.hid (by rw [hw6]; exact F5.out.setCell (p := ⟨b5, 8, none⟩) (.inr (by rw [HB5.out]; exact Nat.le_refl _)) _ : Fr [] w4 w6)
      rw [← hw6]
      have KB1 := Lib.hid (fun u (hu : Fr [] w6 u) => hu.blk (F6.out.blk HBM.out (by simp)) (by simp))
      have KB4 := Lib.hid (fun u (hu : Fr [] w6 u) => hu.blk (F46.out.blk B4.out (by simp)) (by simp))
      have KB5 := Lib.hid (fun u (hu : Fr [] w6 u) => hu.blk B6.out (by simp))
      have hfm : Fr [] w1 wm := F2.out.trans HFR.out (by simp [Ext])
      have KS := Lib.hid (fun u (hu : Fr [] w6 u) => tS_pre (((hfm.trans F6.out (by simp [Ext])).trans hu (by simp [Ext])).blk HBB.out (by simp)) (((hfm.trans F6.out (by simp [Ext])).trans hu (by simp [Ext])).blk HBR.out (by simp)) (HST.out.fr (F6.out.trans hu (by simp [Ext])) (by simp)))
      have KN := Lib.hid (fun u (hu : Fr [] w6 u) => tN_pre (br := br) (((hfm.trans F6.out (by simp [Ext])).trans hu (by simp [Ext])).blk HBB.out (by simp)) (HST.out.fr (F6.out.trans hu (by simp [Ext])) (by simp)))
      have KF := Lib.hid (fun u (hu : Fr [] w6 u) => tF_pre (((hfm.trans F6.out (by simp [Ext])).trans hu (by simp [Ext])).blk HBB.out (by simp)) (((hfm.trans F6.out (by simp [Ext])).trans hu (by simp [Ext])).blk HBR.out (by simp)) (HST.out.fr (F6.out.trans hu (by simp [Ext])) (by simp)))
      have H68 := Lib.hid tL_len
      have Q1 := Lib.hid (fun u (hu : Fr [] w6 u) => (by have h := room_any u (tS bb br) [tB] [] (KS.out u hu).map 500 (-500); rw [HV1.out, t_room] at h; exact h : Calls Try.prog 12 #[.agg C1, .agg #[.int .i64 500, .int .i64 (-500)]] u fun e w' => e = .returned (.int .i64 0) ∧ Fr [] u w'))
      have Q2 := Lib.hid (fun u (hu : Fr [] w6 u) => (by have h := seen_any (KS.out u hu) 0; rw [HV1.out, t_seen, tL_len] at h; exact h : Calls Try.prog 19 #[.agg C1, .slice (some ⟨g, off, none⟩) 68 oc, .int .i64 0] u (IntsTo u [0, 1])))
      have Q3 := Lib.hid (fun u (hu : Fr [] w6 u) => (by have h := seen_any (KN.out u hu) 0; rw [HV4.out, t_none, tL_len] at h; exact h : Calls Try.prog 19 #[.agg C4, .slice (some ⟨g, off, none⟩) 68 oc, .int .i64 0] u (IntsTo u [0])))
      have Q4 := Lib.hid (fun u (hu : Fr [] w6 u) => (by have h := sees_any (KF.out u hu) 0 1; rw [HV5.out, t_far, tL_len] at h; exact h : Calls Try.prog 21 #[.agg C5, .slice (some ⟨g, off, none⟩) 68 oc, .int .i64 0, .int .i64 1] u fun e w' => e = .returned (.bool false) ∧ Fr [] u w'))
      have Q5 := Lib.hid (fun u (hu : Fr [] w6 u) => (by have h := rooms_any u (tS bb br) [tB] [] (KS.out u hu).map (KS.out u hu).few 0; rw [HV1.out, t_rooms] at h; exact h : Calls Try.prog 15 #[.agg C1, .int .i64 0] u (IntsTo u [0])))
      have SM1 := Lib.hid (fun (u : World) (oa : Option Addr) (ca : Nat) (b : Nat) (cb : Nat) (ha : Seg u 3 1 oa 1 ca (ints [0])) (hb : u.heap[b]? = some (.cells #[.int .i64 0] 3 (0, 0))) => (by
        exact same_yes u oa (some ⟨b, 0, none⟩) ca cb [0] ha.rd (Seg.one b _ 3 1 1 hb rfl (by unfold maxLen; omega)).rd : Calls Try.prog 14 #[.slice oa 1 ca, .slice (some ⟨b, 0, none⟩) 1 cb] u fun e w' => e = .returned (.bool true) ∧ ∃ k, w' = u.drewN k))
      have SM2 := Lib.hid (fun (u : World) (oa : Option Addr) (ca : Nat) (b : Nat) (cb : Nat) (ha : Seg u 3 1 oa 2 ca (ints [0, 1])) (hb : u.heap[b]? = some (.cells #[.int .i64 0, .int .i64 1] 3 (0, 0))) => (by
        exact same_yes u oa (some ⟨b, 0, none⟩) ca cb [0, 1] ha.rd (Seg.one b _ 3 1 2 hb rfl (by unfold maxLen; omega)).rd : Calls Try.prog 14 #[.slice oa 2 ca, .slice (some ⟨b, 0, none⟩) 2 cb] u fun e w' => e = .returned (.bool true) ∧ ∃ k, w' = u.drewN k))
      have FF := Lib.hid ((HF1.out.trans hfm (by simp [Ext])).trans F6.out (by simp [Ext]))
      clear hw6 hC5 hfm c58 f58 KS KN KF
      go_wp2_with (refine wpList_loadB rfl 31 (Operand.tmp 1) rfl b1 16 rfl C1 31 (0, 0) (KB1.out _ (Fr.refl _ _)) _ Try.underlying31 rfl HCS1.out infoSetup ?_)
      refine (Q1.out w6 (Fr.refl _ _)).mono ?_
      rintro e u1 ⟨rfl, g1⟩
      have G1 := Lib.hid g1
      clear g1
      go_wp2_with (refine wpList_loadG (by rfl) 31 (Operand.tmp 1) rfl b1 16 rfl C1 31 (0, 0) (KB1.out _ G1.out) _ Try.underlying31 rfl HCS1.out infoSetup ?_)
      refine (Q2.out u1 G1.out).mono ?_
      rintro e u2 ⟨oa, ca, rfl, hs2, g2, -⟩
      have G2 := Lib.hid (G1.out.trans g2 (by simp [Ext]))
      have S2 := Lib.hid (by exact hs2 : Seg u2 3 1 oa 2 ca (ints [0, 1]))
      clear g2 hs2
      go_wp2_with fail
      refine (SM2.out _ _ _ _ _ (S2.out.alloc _) (alloc_new _ _)).mono ?_
      rintro e u3 ⟨rfl, k3, hw3⟩
      have G3 := Lib.hid (by rw [hw3]; exact (G2.out.alloc _).drewN k3 : Fr [] w6 u3)
      clear hw3
      go_wp2_with (refine wpList_loadG (by rfl) 31 (Operand.tmp 4) rfl b4 16 rfl C4 31 (0, 0) (KB4.out _ G3.out) _ Try.underlying31 rfl HCS4.out infoSetup ?_)
      refine (Q3.out u3 G3.out).mono ?_
      rintro e u4 ⟨oa4, ca4, rfl, hs4, g4, -⟩
      have G4 := Lib.hid (G3.out.trans g4 (by simp [Ext]))
      have S4 := Lib.hid (by exact hs4 : Seg u4 3 1 oa4 1 ca4 (ints [0]))
      clear g4 hs4
      go_wp2_with fail
      refine (SM1.out _ _ _ _ _ (S4.out.alloc _) (alloc_new _ _)).mono ?_
      rintro e u5 ⟨rfl, k5, hw5⟩
      have G5 := Lib.hid (by rw [hw5]; exact (G4.out.alloc _).drewN k5 : Fr [] w6 u5)
      clear hw5
      go_wp2_with (refine wpList_loadG (by rfl) 31 (Operand.tmp 5) rfl b5 16 rfl C5 31 (0, 0) (KB5.out _ G5.out) _ Try.underlying31 rfl HCS5.out infoSetup ?_)
      refine (Q4.out u5 G5.out).mono ?_
      rintro e u6 ⟨rfl, g6⟩
      have G6 := Lib.hid (G5.out.trans g6 (by simp [Ext]))
      clear g6
      go_wp2_with (refine wpList_loadG (by rfl) 31 (Operand.tmp 1) rfl b1 16 rfl C1 31 (0, 0) (KB1.out _ G6.out) _ Try.underlying31 rfl HCS1.out infoSetup ?_)
      refine (Q5.out u6 G6.out).mono ?_
      rintro e u7 ⟨oa7, ca7, rfl, hs7, g7, -⟩
      have G7 := Lib.hid (G6.out.trans g7 (by simp [Ext]))
      have S7 := Lib.hid (by exact hs7 : Seg u7 3 1 oa7 1 ca7 (ints [0]))
      clear g7 hs7
      go_wp2_with fail
      refine (SM1.out _ _ _ _ _ (S7.out.alloc _) (alloc_new _ _)).mono ?_
      rintro e u8 ⟨rfl, k8, hw8⟩
      have G8 := Lib.hid (by rw [hw8]; exact (G7.out.alloc _).drewN k8 : Fr [] w6 u8)
      clear hw8
      go_wp2_with fail
      go_ret
      exact ⟨rfl, FF.out.trans G8.out (by simp [Ext])⟩
end Go.Proofs.Ytdbngpncigjfiaa
/- arenanetref01.Pick. -/
namespace Go.Proofs.Ytdbngpncigjfiaa
open Go.RowKit

def NatLt (m : Nat) (w : World) (e : Ending) (w' : World) : Prop := ∃ n : Nat, n < m ∧ e = .returned (.int .i64 (n : Int)) ∧ w = w'

set_option maxRecDepth 100000 in
set_option maxHeartbeats 1000000 in
theorem pick_any (w : World) (ao : Option Addr) (cap : Nat) (l : List Int) (i m : Nat) (h : Rd w 1 ao l.length (ints l)) (hb : ∀ x ∈ l, bounded x) (hi : i ≤ 1000000) (h1 : 1 ≤ m) (hm : m ≤ 1000000) :
    Calls Try.prog 30 #[.slice ao l.length cap, .int .i64 (i : Int), .int .i64 (m : Int)] w (NatLt m w) := by
  have hlen : l.length ≤ 9223372036854775807 := by have := h.2.1; unfold maxLen at this; omega
  by_cases hil : i < l.length
  · obtain ⟨g, off, rfl, hg, hc⟩ := h.at (by omega)
    obtain ⟨n, hn1, -, hA⟩ := around_nat l[i] m (hb _ (List.getElem_mem hil)) h1 (by omega)
    have HA := Lib.hid hA
    have ci : w.cell? ⟨g, off + i, none⟩ = some (.int .i64 l[i]) := by rw [hc i (by omega), ints_get, List.getElem?_eq_getElem hil]; rfl
    obtain ⟨x, hx⟩ : ∃ x, x = l[i] := ⟨_, rfl⟩
    rw [← hx] at ci HA
    have hii : (i : Int) < (l.length : Int) := by omega
    clear h hb hc hx hA
    go_enter Try.func30, Try.ntmps30
    go_wp2_with fail
    refine (HA.out _).mono ?_
    rintro e w1 ⟨rfl, rfl⟩
    go_wp2_with fail
    go_ret
    exact ⟨n, hn1, rfl, rfl⟩
  · have hii : (l.length : Int) ≤ (i : Int) := by omega
    clear h hb
    go_enter Try.func30, Try.ntmps30
    go_wp2_with fail
    go_ret
    exact ⟨0, by omega, rfl, rfl⟩
end Go.Proofs.Ytdbngpncigjfiaa
