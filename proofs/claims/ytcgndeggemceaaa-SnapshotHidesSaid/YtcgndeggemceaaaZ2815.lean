/- Has, RView28, SnRound, Rf28 (merged by merge.py). -/
import Derived.Test.YtcgndeggemceaaaZ281
import Derived.Test.YtcgndeggemceaaaZ2814
/- arenanetref01.Has. -/
namespace Go.Proofs.Ytcgndeggemceaaa
open Go.RowKit

set_option maxRecDepth 100000 in
set_option maxHeartbeats 1000000 in
theorem hasn_any (w : World) (ao : Option Addr) (cap : Nat) (l : List Int) (n : Int) (h : Rd w 1 ao l.length (ints l)) :
    Calls Try.prog 28 #[.slice ao l.length cap, .int .i64 n] w fun e w' => e = .returned (.bool (decide (n ∈ l))) ∧ w = w' := by
  have hlen : l.length ≤ 9223372036854775807 := by have := h.2.1; unfold maxLen at this; omega
  have H := Lib.hid h
  clear h
  go_enter Try.func28, Try.ntmps28
  go_wp2
  go_loop [5] (fun iv => ∃ i : Nat, i ≤ l.length ∧ iv = .int .i64 (i : Int) ∧ n ∉ l.take i) (fun iv => l.length - (intOf iv).toNat)
  case atStart => exact ⟨0, by omega, rfl, by simp⟩
  case round =>
    obtain ⟨i, hi, rfl, hni⟩ := hrel
    have HNI := Lib.hid hni
    clear hni
    by_cases hlt : i < l.length
    · obtain ⟨g, off, rfl, hg, hc⟩ := H.out.at (by omega)
      have cx : w.cell? ⟨g, off + i, none⟩ = some (.int .i64 l[i]) := by rw [hc i (by omega), ints_get, List.getElem?_eq_getElem hlt]; rfl
      obtain ⟨x, hx⟩ : ∃ x, x = l[i] := ⟨_, rfl⟩
      rw [← hx] at cx
      have HX := Lib.hid hx
      clear hc hx
      by_cases hxn : x = n
      · have hb : (x == n) = true := by simpa using hxn
        have HXN := Lib.hid hxn
        clear hxn
        go_wp2
        go_ret
        exact ⟨ret_bool (by have h : n ∈ l := by rw [← HXN.out, HX.out]; exact List.getElem_mem hlt
                            simp [h]), rfl⟩
      · have hb : (x == n) = false := by simpa using hxn
        have HXN := Lib.hid hxn
        clear hxn
        go_wp2
        go_round
        case rel =>
          refine ⟨i + 1, by omega, by go_num, ?_⟩
          rw [List.take_succ_eq_append_getElem hlt, List.mem_append, List.mem_singleton, ← HX.out]
          rintro (h | h)
          · exact HNI.out h
          · exact HXN.out h.symm
        case measure => simp [intOf]; omega
    · go_wp2
      go_ret
      exact ⟨ret_bool (by have h := HNI.out; rw [List.take_of_length_le (by omega)] at h; simp [h]), rfl⟩
end Go.Proofs.Ytcgndeggemceaaa
/- The reference's View. -/
namespace Go.Proofs.Ytcgndeggemceaaa
open Go.RowKit

def AccV (w : World) (vo : Option Addr) (L : List (Int × Int)) (v : Value) (w' : World) : Prop := ∃ oa oc, v = .slice oa L.length oc ∧ Seg w' 38 2 oa L.length oc (L.flatMap clV) ∧ Fr (blk vo) w w' ∧ Ext (blk vo) w (blk oa)
theorem AccV.push {w wr w1 : World} {vo oa ao' : Option Addr} {V : List (Int × Int)} {i x : Int} {cap' : Nat} {o : Obj} (hf : Fr (blk vo) w wr) (hx : Ext (blk vo) w (blk oa)) (h1 : Fr (blk oa) (wr.alloc o) w1) (hx1 : Ext (blk oa) (wr.alloc o) (blk ao')) (hs : Seg w1 38 2 ao' (V.length + 1) cap' (V.flatMap clV ++ [.int .i64 i, .int .i64 x])) :
    AccV w vo (V ++ [(i, x)]) (.slice ao' (V.length + 1) cap') w1 := by
  have hr : Fr (blk oa) wr w1 := ((Fr.refl _ wr).alloc _).trans h1 (Ext.refl _ _)
  refine ⟨ao', cap', by simp, by simpa [clV] using hs, hf.trans hr hx, fun k hk => ?_⟩
  rcases hx1 k hk with h | h
  · exact hx k h
  · have := hf.size; simp at h; exact .inr (by omega)
theorem AccV.to {w w' : World} {L : List (Int × Int)} {v : Value} (h : AccV w none L v w') : CelTo w L (.returned v) w' := by
  obtain ⟨oa, oc, rfl, h1, h2, h3⟩ := h
  exact ⟨oa, oc, rfl, h1, h2, fun k hk => (h3 k hk).elim (fun q => by simp [blk] at q) id⟩

section
variable {w : World} {s : St} {bodies : List Bd} {rooms : List Bx} {doors : List (Int × Int)} {co : Option Addr} {cc : Nat} {cells : List Int}
set_option maxRecDepth 100000 in
set_option maxHeartbeats 16000000 in
theorem rview_any (h : VPre w s bodies rooms doors co cc cells) (pl p : Nat) (hpl : s.players = (pl : Int)) (hp : p < pl) (hl : cells.length ≤ 1000) (hco : ∀ k ∈ blk co, k < w.heap.size) :
    Calls Try.prog 23 #[s.val, .slice co cells.length cc, .int .i64 (p : Int)] w (CelTo w (viewL pl cells p (seenL s rooms doors cells (p : Int)))) := by
  obtain ⟨ic, hic, hcz0, hcz1, hcz2⟩ := info_parts infoCell
  obtain ⟨C, hC⟩ := cAt s
  have hok := h.mp.ok
  have hlen : 48 + 4 * pl + 8 * s.nb ≤ cells.length := by have := h.len; rw [hpl] at this; omega
  obtain ⟨q, hq⟩ : ∃ q : Nat → Bool, q = fun k : Nat => seesB s rooms doors cells (p : Int) (k : Int) := ⟨_, rfl⟩
  have hsq : seenL s rooms doors cells (p : Int) = accL q s.nb := by unfold seenL; rw [hq]
  have HSEE := Lib.hid (fun u (hu : Fr [] w u) => (by have r := rseen_any (h.old hu) (p : Int); rw [hC.val, hsq] at r; exact r : Calls Try.prog 45 #[.agg C, .slice co cells.length cc, .int .i64 (p : Int)] u (IntsTo u (accL q s.nb))))
  have HPLR := Lib.hid (fun (u : World) => (by
    have r := rplayer_any u s hok (p : Int)
    rw [show plOf s (p : Int) = ((48 + 4 * p : Nat) : Int) by unfold plOf; rw [if_neg (by rw [hpl]; omega)]; omega, hC.val] at r; exact r : Calls Try.prog 44 #[.agg C, .int .i64 (p : Int)] u fun e w' => e = .returned (.int .i64 ((48 + 4 * p : Nat) : Int)) ∧ Fr [] u w'))
  have HBDR := Lib.hid (fun (u : World) (b : Nat) (h1 : b < s.nb) => (by
    have r := rbody_any u s hok (b : Int)
    rw [show bdOf s (b : Int) = ((48 + 4 * pl + 8 * b : Nat) : Int) by unfold bdOf; rw [if_neg (by omega), hpl]; omega, hC.val] at r; exact r : Calls Try.prog 42 #[.agg C, .int .i64 (b : Int)] u fun e w' => e = .returned (.int .i64 ((48 + 4 * pl + 8 * b : Nat) : Int)) ∧ Fr [] u w'))
  have HCS := Lib.hid hC.size
  have HC1 := Lib.hid hC.c1
  have HRC := Lib.hid h.mp.rd
  obtain ⟨nb, hnb⟩ : ∃ nb, nb = s.nb := ⟨_, rfl⟩
  rw [hsq]
  have hnb2 : nb ≤ 200 := by omega
  rw [← hnb] at HSEE HBDR hlen HC1 ⊢
  rw [hC.val]
  have hmem : ∀ i : Nat, i < nb → decide ((i : Int) ∈ accL q nb) = q i := fun i hi => by
    cases hqi : q i with
    | true => exact decide_eq_true (accL_mem.2 ⟨i, hi, hqi, rfl⟩)
    | false =>
      refine decide_eq_false fun hm => ?_
      obtain ⟨k, -, h2, h3⟩ := accL_mem.1 hm
      have : k = i := by omega
      subst this
      rw [hqi] at h2; cases h2
  have HMEM := Lib.hid hmem
  clear hmem
  have hQl := accL_len q nb
  obtain ⟨bx, hbx⟩ : ∃ bx, bx = w.heap.size := ⟨_, rfl⟩
  obtain ⟨wb, hwb⟩ : ∃ wb, wb = w.alloc (.cells C 49) := ⟨_, rfl⟩
  have HB := Lib.hid (by rw [hwb, hbx]; exact alloc_new w _ : wb.heap[bx]? = some (.cells C 49 (0, 0)))
  have HWB := Lib.hid (by rw [hwb]; exact (Fr.refl [] w).alloc _ : Fr [] w wb)
  have HBX := Lib.hid hbx
  have HWE := Lib.hid hwb
  have HCOW := Lib.hid hco
  obtain ⟨F, hF⟩ : ∃ F : Int → List (Int × Int), F = fun b => cellsAt cells (48 + 4 * pl + 8 * b.toNat) 8 := ⟨_, rfl⟩
  have HFE := Lib.hid hF
  have hFl : ∀ l : List Int, (l.flatMap F).length = 8 * l.length := by
    intro l
    induction l with
    | nil => rfl
    | cons x l ih => rw [List.flatMap_cons, List.length_append, ih, hF, cellsAt_len, List.length_cons]; omega
  have HFL := Lib.hid hFl
  have HCE := Lib.hid (fun (u : World) (hu : Fr [] wb u) (k : Nat) (hk : k < cells.length) => (by
    have hr := HRC.out.fr (HWB.out.trans hu (by simp [Ext])) (by simp)
    obtain ⟨g, off, hce, hg, hc⟩ := hr.at (by omega)
    refine ⟨g, off, hce, ?_⟩
    rw [hc k (by omega), ints_get, List.getElem?_eq_getElem hk, List.getD_eq_getElem?_getD, List.getElem?_eq_getElem hk]; rfl : ∃ g off, co = some ⟨g, off, none⟩ ∧ u.cell? ⟨g, off + k, none⟩ = some (.int .i64 (cells.getD k 0))))
  clear h hC hok hbx hwb hq hsq hpl hnb hco hF hFl
  obtain ⟨g, off, hce, c00⟩ := HCE.out wb (Fr.refl _ _) 0 (by omega)
  have hcl0 : 0 < cells.length := by omega
  have hcl0i : (0 : Int) < (cells.length : Int) := by omega
  obtain ⟨x0, hx0⟩ : ∃ x0, x0 = cells.getD 0 0 := ⟨_, rfl⟩
  rw [← hx0, Nat.add_zero] at c00
  have HX0 := Lib.hid hx0
  have HCX := Lib.hid (fun (u : World) (hu : Fr [] wb u) (k : Nat) (hk : k < cells.length) => (by
    obtain ⟨g', off', hce', h2⟩ := HCE.out u hu k hk
    rw [hce] at hce'; cases hce'; exact h2 : u.cell? ⟨g, off + k, none⟩ = some (.int .i64 (cells.getD k 0))))
  subst hce
  clear hx0 HCE
  go_enter Try.func23, Try.ntmps23
  go_upto_region 1 with (fail)
  rw [← HBX.out, ← HWE.out]
  go_upto_region 2 with fail
  obtain ⟨w1, hw1⟩ : ∃ w1, w1 = wb.alloc (.cells #[.int .i64 0, .int .i64 x0] 38) := ⟨_, rfl⟩
  rw [← hw1]
  have hs1 : Seg w1 38 2 (some ⟨wb.heap.size, 0, none⟩) 1 1 [.int .i64 0, .int .i64 x0] := by
    have := Seg.one (w := w1) wb.heap.size #[.int .i64 0, .int .i64 x0] 38 2 1 (by rw [hw1]; exact alloc_new _ _) rfl (by unfold maxLen; omega)
    exact this
  have hf1 : Fr [] wb w1 := by rw [hw1]; exact (Fr.refl _ _).alloc _
  have HQ1 := Lib.hid (⟨some ⟨wb.heap.size, 0, none⟩, 1, rfl, by simpa [cellsAt, clV, HX0.out] using hs1, hf1, fun k hk => .inr (by simp [blk] at hk; omega)⟩ : AccV wb none (cellsAt cells 0 1) (.slice (some ⟨wb.heap.size, 0, none⟩) 1 1) w1)
  have HB1 := Lib.hid (hf1.blk HB.out (by simp))
  clear hw1 hs1 hf1 c00
  obtain ⟨sb, hsb⟩ : ∃ sb, sb = wb.heap.size := ⟨_, rfl⟩
  rw [← hsb] at HQ1 ⊢
  clear hsb
  go_wp2_with (refine wpList_loadB rfl 49 (Operand.tmp 3) rfl bx 16 rfl C 49 (0, 0) HB1.out _ Try.underlying49 rfl HCS.out infoSetup ?_)
  refine (HPLR.out w1).mono ?_
  rintro e w2 ⟨rfl, f2⟩
  have HQ2 := Lib.hid (by
    obtain ⟨oa, oc, e1, e2, e3, e4⟩ := HQ1.out
    exact ⟨oa, oc, e1, e2.fr f2 (by simp), e3.trans f2 (by simp [Ext]), e4⟩ : AccV wb none (cellsAt cells 0 1) (.slice (some ⟨sb, 0, none⟩) 1 1) w2)
  clear f2 HQ1 HB1
  obtain ⟨a, ha⟩ : ∃ a, a = 48 + 4 * p := ⟨_, rfl⟩
  have HAE := Lib.hid ha
  have hal : a + 4 ≤ cells.length := by omega
  rw [← ha]
  clear ha
  go_wp2_with fail
  go_loopw [7, 9] (fun vv iv wr => ∃ j : Nat, j ≤ 4 ∧ iv = .int .i64 (j : Int) ∧ AccV wb none (cellsAt cells 0 1 ++ cellsAt cells a j) vv wr) (fun _ iv _ => 4 - (intOf iv).toNat)
  case atStart => exact ⟨0, by omega, rfl, by simpa [cellsAt] using HQ2.out⟩
  case round =>
    obtain ⟨j, hj, rfl, oa, oc, rfl, qs, qf, qx⟩ := hrel
    obtain ⟨V, hV⟩ : ∃ V, V = cellsAt cells 0 1 ++ cellsAt cells a j := ⟨_, rfl⟩
    have hVl : V.length ≤ 5 := by rw [hV, List.length_append, cellsAt_len, cellsAt_len]; omega
    rw [← hV] at qs
    rw [← hV]
    have HVE := Lib.hid hV
    have HQS := Lib.hid qs
    have HQF := Lib.hid qf
    have HQX := Lib.hid qx
    clear hV qs qf qx
    by_cases hj4 : j < 4
    · have hlt : (j : Int) < 4 := by omega
      obtain ⟨k, hk⟩ : ∃ k, k = a + j := ⟨_, rfl⟩
      have wk : IntKind.i64.wrap ((a : Int) + (j : Int)) = (k : Int) := by rw [IntWalk.i64_in _ (by omega)]; omega
      have wj : IntKind.i64.wrap ((j : Int) + 1) = (j : Int) + 1 := IntWalk.i64_in _ (by omega)
      have hkl : k < cells.length := by omega
      have hkli : (k : Int) < (cells.length : Int) := by omega
      have ck := HCX.out wr HQF.out k hkl
      have HX := Lib.hid (by rw [cellsAt_succ cells a j, ← List.append_assoc, ← HVE.out, ← hk] : cellsAt cells 0 1 ++ cellsAt cells a (j + 1) = V ++ [((k : Int), cells.getD k 0)])
      obtain ⟨x, hx⟩ : ∃ x, x = cells.getD k 0 := ⟨_, rfl⟩
      rw [← hx] at ck HX
      clear hk hx
      go_wp2_with (at_builtin; refine wpList_append_seg rfl _ _ 23 rfl 38 ic _ 2 16 Try.underlying23 hic hcz0 hcz1 hcz2 rfl (by decide) oa V.length oc (V.flatMap clV) rfl (HQS.out.alloc _) ⟨_, 0, none⟩ 1 1 [.int .i64 (k : Int), .int .i64 x] rfl rfl (new_two wr _ _ _) (by simp [Value.oneCell']) (by unfold maxLen; omega) (by omega) ?_; intro ao' cap' w5 hs5 hf5 hx5; have HS5 := Lib.hid hs5; have HF5 := Lib.hid hf5; have HX5 := Lib.hid hx5; clear hs5 hf5 hx5)
      have HT := Lib.hid (AccV.push HQF.out HQX.out HF5.out HX5.out HS5.out)
      go_roundw
      case rel => exact ⟨j + 1, by omega, by go_num, by rw [HX.out]; exact HT.out⟩
      case measure => simp [intOf]; omega
    · have hnlt : ¬ (j : Int) < 4 := by omega
      have hje : j = 4 := by omega
      subst hje
      have HBR := Lib.hid (HQF.out.blk HB.out (by simp [blk]))
      go_wp2_with (refine wpList_loadB rfl 49 (Operand.tmp 3) rfl bx 16 rfl C 49 (0, 0) HBR.out _ Try.underlying49 rfl HCS.out infoSetup ?_)
      refine (HSEE.out wr (HWB.out.trans HQF.out (by simp [Ext, blk]))).mono ?_
      rintro e w4 ⟨so, sc, rfl, hs4, f4, hsn⟩
      have hvl := HQS.out.lt
      have HB4 := Lib.hid (f4.blk HBR.out (by simp))
      have HF4 := Lib.hid (HQF.out.trans f4 (by simp [Ext]) : Fr [] wb w4)
      have HQ4 := Lib.hid (⟨oa, oc, rfl, HQS.out.fr f4 (by simp), Fr.refl _ _, Ext.refl _ _⟩ : AccV w4 oa V (.slice oa V.length oc) w4)
      have hoa : ∀ k ∈ blk oa, wb.heap.size ≤ k := fun k hk => (HQX.out k hk).elim (fun h => by simp [blk] at h) id
      have HOA := Lib.hid hoa
      have HBK := Lib.hid (fun (u : World) (hu : Fr (blk oa) w4 u) => (hu.blk HB4.out (fun hm => by have := hoa _ hm; have := lt_of_blk HB.out; omega) : u.heap[bx]? = some (.cells C 49 (0, 0))))
      have HSL := Lib.hid (fun (u : World) (hu : Fr (blk oa) w4 u) => ((hs4.fr hu (fun k hk hm => by have := hsn k hk; have := hvl k hm; omega)).rd : Rd u 1 so (accL q nb).length (ints (accL q nb))))
      have HCX4 := Lib.hid (fun (u : World) (hu : Fr (blk oa) w4 u) (k : Nat) (hk : k < cells.length) => (by
        have h1 := HCX.out w4 HF4.out k hk
        have hgl : g < w.heap.size := HCOW.out g (by simp [blk])
        have hwz := HWB.out.size
        have h4z := HF4.out.size
        rw [← h1]
        exact World.cell?_of_block (a := ⟨g, off + k, none⟩) (hu.block g (show g < w4.heap.size by omega) (fun hm => by have := hoa _ hm; omega)) : u.cell? ⟨g, off + k, none⟩ = some (.int .i64 (cells.getD k 0))))
      have HFIN := Lib.hid (fun (u : World) (L : List (Int × Int)) (v : Value) (h : AccV w4 oa L v u) => (by
        obtain ⟨oa', oc', e1, e2, e3, e4⟩ := h
        have hwz := HWB.out.size
        have h4z := HF4.out.size
        exact ⟨oa', oc', congrArg _ e1, e2, (HWB.out.trans HF4.out (Ext.refl [] _)).trans e3 (fun k hk => .inr (by have := hoa k hk; omega)), fun k hk => (e4 k hk).elim (fun h => by have := hoa k h; omega) (fun h => by omega)⟩ : CelTo w L (.returned v) u))
      obtain ⟨Q, hQ⟩ : ∃ Q, Q = accL q nb := ⟨_, rfl⟩
      have HQE := Lib.hid hQ
      rw [← hQ] at HSL hQl ⊢
      rw [← hQ] at HMEM
      have hQl2 : Q.length ≤ 9223372036854775807 := by omega
      clear hs4 f4 hsn hvl hoa HQS HQF HQX HBR HQ2 hQ
      go_wp2_with fail
      go_loopw [7, 11] (fun vv iv wr => ∃ i : Nat, i ≤ nb ∧ iv = .int .i64 (i : Int) ∧ AccV w4 oa (V ++ (accL q i).flatMap F) vv wr) (fun _ iv _ => nb - (intOf iv).toNat)
      case atStart => exact ⟨0, by omega, rfl, by rw [show V ++ (accL q 0).flatMap F = V by simp [accL]]; exact HQ4.out⟩
      case round =>
        obtain ⟨i, hi, rfl, hac⟩ := hrel
        have HAC := Lib.hid hac
        obtain ⟨V1, hV1⟩ : ∃ V1, V1 = V ++ (accL q i).flatMap F := ⟨_, rfl⟩
        have hV1l : V1.length ≤ 2000 := by
          have := accL_len q i
          rw [hV1, List.length_append, HFL.out]; omega
        have HV1 := Lib.hid hV1
        rw [← hV1] at HAC
        have HBRR := Lib.hid (by obtain ⟨_, _, _, _, qf, _⟩ := HAC.out; exact HBK.out _ qf)
        have c1 := (cell_blk HBRR.out 1).trans HC1.out
        clear hac hV1
        by_cases hin : i < nb
        · have hini : (i : Int) < (nb : Int) := by omega
          have wi : IntKind.i64.wrap ((i : Int) + 1) = (i : Int) + 1 := IntWalk.i64_in _ (by omega)
          have HBD := Lib.hid (HBDR.out wr i hin)
          go_wp2_with (refine wpList_loadB rfl 49 (Operand.tmp 3) rfl bx 16 rfl C 49 (0, 0) HBRR.out _ Try.underlying49 rfl HCS.out infoSetup ?_)
          refine HBD.out.mono ?_
          rintro e w5 ⟨rfl, f5⟩
          obtain ⟨b, hb⟩ : ∃ b, b = 48 + 4 * pl + 8 * i := ⟨_, rfl⟩
          have hbl : b + 8 ≤ cells.length := by omega
          have HFI := Lib.hid (by rw [HFE.out, hb]; rfl : F (i : Int) = cellsAt cells b 8)
          rw [← hb]
          have HQ5 := Lib.hid (by
            obtain ⟨oa', oc', e1, e2, e3, e4⟩ := HAC.out
            exact ⟨oa', oc', e1, e2.fr f5 (by simp), e3.trans f5 (by simp [Ext]), e4⟩ : AccV w4 oa V1 u7 w5)
          have HHM := HMEM.out i hin
          clear f5 HBD HBRR HAC hb c1
          go_wp2_with fail
          go_loopw [7, 13] (fun vv iv wr => ∃ j : Nat, j ≤ 8 ∧ iv = .int .i64 (j : Int) ∧ (j = 0 ∨ q i = true) ∧ AccV w4 oa (V1 ++ cellsAt cells b j) vv wr) (fun _ iv _ => 8 - (intOf iv).toNat)
          case atStart => exact ⟨0, by omega, rfl, .inl rfl, by simpa [cellsAt] using HQ5.out⟩
          case round =>
            obtain ⟨j, hj, rfl, hjq, oa2, oc2, rfl, qs, qf, qx⟩ := hrel
            obtain ⟨V2, hV2⟩ : ∃ V2, V2 = V1 ++ cellsAt cells b j := ⟨_, rfl⟩
            have hV2l : V2.length ≤ 2008 := by rw [hV2, List.length_append, cellsAt_len]; omega
            rw [← hV2] at qs
            rw [← hV2]
            have HV2 := Lib.hid hV2
            have HQS := Lib.hid qs
            have HQF := Lib.hid qf
            have HQX := Lib.hid qx
            have HJQ := Lib.hid hjq
            clear hV2 qs qf qx hjq
            have HHAS := Lib.hid (by have r := hasn_any wr so sc Q (i : Int) (HSL.out wr HQF.out); rw [HHM] at r; exact r : Calls Try.prog 28 #[.slice so Q.length sc, .int .i64 (i : Int)] wr fun e w' => e = .returned (.bool (q i)) ∧ wr = w')
            by_cases hj8 : j < 8
            · have hlt : decide ((j : Int) < 8) = true := decide_eq_true (by omega)
              cases hqi : q i
              case true =>
                rw [hqi] at HHAS
                have HQI := Lib.hid hqi
                obtain ⟨k, hk⟩ : ∃ k, k = b + j := ⟨_, rfl⟩
                have wk : IntKind.i64.wrap ((b : Int) + (j : Int)) = (k : Int) := by rw [IntWalk.i64_in _ (by omega)]; omega
                have wj : IntKind.i64.wrap ((j : Int) + 1) = (j : Int) + 1 := IntWalk.i64_in _ (by omega)
                have hkl : k < cells.length := by omega
                have hkli : (k : Int) < (cells.length : Int) := by omega
                have ck := HCX4.out wr HQF.out k hkl
                have HX := Lib.hid (by rw [cellsAt_succ cells b j, ← List.append_assoc, ← HV2.out, ← hk] : V1 ++ cellsAt cells b (j + 1) = V2 ++ [((k : Int), cells.getD k 0)])
                obtain ⟨x, hx⟩ : ∃ x, x = cells.getD k 0 := ⟨_, rfl⟩
                rw [← hx] at ck HX
                clear hk hx hqi HHM
                go_upto_region 15 with (go_at_call 28; refine HHAS.out.mono ?_; rintro e w' ⟨rfl, rfl⟩)
                go_wp2_with (at_builtin; refine wpList_append_seg rfl _ _ 23 rfl 38 ic _ 2 16 Try.underlying23 hic hcz0 hcz1 hcz2 rfl (by decide) oa2 V2.length oc2 (V2.flatMap clV) rfl (HQS.out.alloc _) ⟨_, 0, none⟩ 1 1 [.int .i64 (k : Int), .int .i64 x] rfl rfl (new_two wr _ _ _) (by simp [Value.oneCell']) (by unfold maxLen; omega) (by omega) ?_; intro ao' cap' w6 hs5 hf5 hx5; have HS5 := Lib.hid hs5; have HF5 := Lib.hid hf5; have HX5 := Lib.hid hx5; clear hs5 hf5 hx5)
                have HT := Lib.hid (AccV.push HQF.out HQX.out HF5.out HX5.out HS5.out)
                go_roundw
                case rel => exact ⟨j + 1, by omega, by go_num, .inr (by first | exact HQI.out | trivial), by rw [HX.out]; exact HT.out⟩
                case measure => simp [intOf]; omega
              case false =>
                rw [hqi] at HHAS
                have HQI := Lib.hid hqi
                have hj0 : j = 0 := by rcases HJQ.out with h | h; exact h; rw [hqi] at h; cases h
                subst hj0
                have HVV := Lib.hid (by rw [HV2.out]; simp [cellsAt] : V2 = V1)
                clear hqi HHM
                go_wp2_with (go_at_call 28; refine HHAS.out.mono ?_; rintro e w' ⟨rfl, rfl⟩)
                go_roundw
                case rel => exact ⟨i + 1, by omega, by go_num, by rw [accL_no HQI.out, ← HV1.out, ← HVV.out]; exact ⟨oa2, oc2, rfl, HQS.out, HQF.out, HQX.out⟩⟩
                case measure => simp [intOf]; omega
            · have hlt : decide ((j : Int) < 8) = false := decide_eq_false (by omega)
              have hje : j = 8 := by omega
              subst hje
              have hqi : q i = true := HJQ.out.elim (fun h => by omega) id
              have HQI := Lib.hid hqi
              have HVV := Lib.hid (by rw [HV2.out, HV1.out, accL_yes hqi, List.flatMap_append, List.append_assoc]; simp [HFI.out] : V2 = V ++ (accL q (i + 1)).flatMap F)
              clear hqi HHM HHAS
              go_wp2_with fail
              go_roundw
              case rel => exact ⟨i + 1, by omega, by go_num, by rw [← HVV.out]; exact ⟨oa2, oc2, rfl, HQS.out, HQF.out, HQX.out⟩⟩
              case measure => simp [intOf]; omega
        · have hni : ¬ (i : Int) < (nb : Int) := by omega
          have hie : i = nb := by omega
          subst hie
          have HR := Lib.hid (HFIN.out wr _ u7 HAC.out)
          have HVV := Lib.hid (by rw [HV1.out, HVE.out, ← HQE.out, HFE.out, HAE.out]; rfl : V1 = viewL pl cells p Q)
          clear HAC
          go_wp2_with fail
          go_ret
          rw [← HQE.out, ← HVV.out]
          exact HR.out
end
end Go.Proofs.Ytcgndeggemceaaa
/- SnapshotRound returns true. -/
namespace Go.Proofs.Ytcgndeggemceaaa
open Go.RowKit

theorem BytesB.app {a b : List Nat} (h : BytesB a) (k : BytesB b) : BytesB (a ++ b) := fun x hx => by rcases List.mem_append.1 hx with q | q; exact h x q; exact k x q
theorem encG_bytes : ∀ (l : List Int) (prev : Int), BytesB (encG prev l)
  | [], _ => by intro x hx; simp [encG] at hx
  | k :: l, prev => by rw [encG]; exact (varN_bytes _).app (encG_bytes l k)
theorem encD_bytes : ∀ (l : List (Int × Int × Int)) (prev : Int), BytesB (encD prev l)
  | [], _ => by intro x hx; simp [encD] at hx
  | k :: l, prev => by rw [encD]; exact ((varN_bytes _).app (varN_bytes _)).app (encD_bytes l k.1)
theorem diffL_bytes (a b : List (Int × Int)) : BytesB (diffL a b) := by
  unfold diffL encC
  exact (((varN_bytes _).app (encG_bytes _ _)).app (varN_bytes _)).app (encD_bytes _ _)
theorem diffL_len {a b : List (Int × Int)} (va : IsView a) (vb : IsView b) (la : a.length ≤ 1000) (lb : b.length ≤ 1000) : (diffL a b).length ≤ 20 + 10 * a.length + 20 * b.length := by
  have hgr := gone_rise (a := a) (b := b) va
  have hcr := chg_rise (a := a) (b := b) vb
  have e1 : gG (-1) (goneL a b) = encG (-1) (goneL a b) := gG_enc _ _ (by omega) hgr.2 (fun k hk => hgr.1 k hk)
  have e2 : gD (-1) (withOld a (chgL a b)) = encC a (-1) (chgL a b) := by
    unfold encC
    refine gD_enc _ _ (by omega) ?_ (fun y hy => ?_)
    · have h := hcr.2
      unfold keys at h
      unfold withOld
      rw [List.pairwise_map] at h ⊢
      exact h
    · unfold withOld at hy
      obtain ⟨z, hz, rfl⟩ := List.mem_map.1 hy
      exact hcr.1 z.1 (List.mem_map.2 ⟨z, hz, rfl⟩)
  have gl := gG_len (goneL a b) (-1)
  have cl := gD_len (withOld a (chgL a b)) (-1)
  have el : (withOld a (chgL a b)).length = (chgL a b).length := by unfold withOld; rw [List.length_map]
  rw [e1] at gl
  rw [e2, el] at cl
  have gl2 := gone_len (a := a) (b := b)
  have cl2 := chg_len (a := a) (b := b)
  have v1 := varN_len (show (goneL a b).length < 18446744073709551616 by omega)
  have v2 := varN_len (show (chgL a b).length < 18446744073709551616 by omega)
  unfold diffL
  simp only [List.length_append]
  omega
theorem round_seg {w : World} {ao : Option Addr} {ca : Nat} {a b : List (Int × Int)} (ha : Seg w 38 2 ao a.length ca (a.flatMap clV)) (va : IsView a) (vb : IsView b) (la : a.length ≤ 12) (lb : b.length ≤ 12) {ro : Option Addr} {rc : Nat} (hr : Seg w 5 1 ro (diffL a b).length rc (bts (diffL a b))) :
    Calls Try.prog 17 #[.slice ao a.length ca, .slice ro (diffL a b).length rc] w (ApplyOk w b) :=
  (apply_seg ha hr va (by omega) (diffL_bytes a b) (by have := diffL_len va vb (by omega) (by omega); omega)).mono fun _ _ h => h.ok (apply_diff va vb (by omega) (by omega))

set_option maxRecDepth 100000 in
set_option maxHeartbeats 8000000 in
theorem snround_walk (w : World) (lo mo : Option Addr) (lc mc : Nat) (l m : List Int) (hl : Rd w 1 lo l.length (ints l)) (hlb : ∀ x ∈ l, bounded x) (hm : Rd w 1 mo m.length (ints m)) (hmb : ∀ x ∈ m, bounded x) :
    Calls Try.prog 4 #[.slice lo l.length lc, .slice mo m.length mc] w fun e w' => e = .returned (.bool true) ∧ Fr [] w w' := by
  have HC1 := Lib.hid (cells_any w lo lc l hl hlb)
  have HC2 := Lib.hid (fun u (hu : Fr [] w u) => cells_any u mo mc m (hm.fr hu (by simp)) hmb)
  clear hl hlb hm hmb
  go_enter Try.func4, Try.ntmps4
  go_wp2_with fail
  refine HC1.out.mono ?_
  rintro e w1 ⟨A, ao, ac, rfl, va, la, sa, f1, -⟩
  have F1 := Lib.hid f1
  have VA := Lib.hid va
  have SA1 := Lib.hid sa
  have LA := Lib.hid la
  clear va sa f1 la HC1
  go_wp2_with fail
  refine (HC2.out _ F1.out).mono ?_
  rintro e w2 ⟨B, bo, bc, rfl, vb, lb, sb, f2, -⟩
  have F2 := Lib.hid (F1.out.trans f2 (by simp [Ext]))
  have VB := Lib.hid vb
  have LB := Lib.hid lb
  have SA := Lib.hid (fun u (hu : Fr [] w2 u) => (SA1.out.fr f2 (by simp)).fr hu (by simp))
  have SB := Lib.hid (fun u (hu : Fr [] w2 u) => sb.fr hu (by simp))
  clear vb sb f2 lb HC2
  go_wp2_with fail
  refine (diff_seg (SA.out _ (Fr.refl _ _)) (SB.out _ (Fr.refl _ _)) VA.out VB.out (by have := LA.out; omega) (by have := LB.out; omega)).mono ?_
  rintro e w3 ⟨do1, dc1, rfl, sd, f3, -⟩
  have F3 := Lib.hid f3
  have SD := Lib.hid sd
  clear sd f3
  go_wp2_with fail
  refine (round_seg (SA.out _ F3.out) VA.out VB.out LA.out LB.out SD.out).mono ?_
  rintro e w4 ⟨xo, xc, rfl, sx, f4⟩
  have F4 := Lib.hid (F3.out.trans f4 (by simp [Ext]))
  have SX := Lib.hid (fun u (hu : Fr [] w4 u) => sx.fr hu (by simp))
  clear sx f4 SD F3
  go_wp2_with fail
  refine (diff_seg (Seg.nil _ _ _) (SB.out _ F4.out) view_nil VB.out (by decide) (by have := LB.out; omega)).mono ?_
  rintro e w5 ⟨do2, dc2, rfl, sd, f5, -⟩
  have F45 := Lib.hid f5
  have F5 := Lib.hid (F4.out.trans f5 (by simp [Ext]))
  have SD := Lib.hid sd
  clear sd f5
  go_wp2_with fail
  refine (round_seg (Seg.nil _ _ _) view_nil VB.out (by decide) LB.out SD.out).mono ?_
  rintro e w6 ⟨yo, yc, rfl, sy, f6⟩
  have F46 := Lib.hid (F45.out.trans f6 (by simp [Ext]))
  have F6 := Lib.hid (F5.out.trans f6 (by simp [Ext]))
  have SY := Lib.hid (fun u (hu : Fr [] w6 u) => sy.fr hu (by simp))
  clear sy f6 SD F5 F45
  go_wp2_with fail
  refine (diff_seg (SB.out _ F6.out) (Seg.nil _ _ _) VB.out view_nil (by have := LB.out; omega) (by decide)).mono ?_
  rintro e w7 ⟨do3, dc3, rfl, sd, f7, -⟩
  have F67 := Lib.hid f7
  have F7 := Lib.hid (F6.out.trans f7 (by simp [Ext]))
  have SD := Lib.hid sd
  clear sd f7
  go_wp2_with fail
  refine (round_seg (SB.out _ F7.out) VB.out view_nil LB.out (by decide) SD.out).mono ?_
  rintro e w8 ⟨zo, zc, rfl, sz, f8⟩
  have F68 := Lib.hid (F67.out.trans f8 (by simp [Ext]))
  have F48 := Lib.hid (F46.out.trans F68.out (by simp [Ext]))
  have F8 := Lib.hid (F7.out.trans f8 (by simp [Ext]))
  clear sz f8 SD F7 F67
  go_wp2_with fail
  refine (equal_any w8 xo bo xc bc B B (SX.out _ F48.out).rd (SB.out _ F8.out).rd).mono ?_
  rintro e w9 ⟨rfl, f9⟩
  have F69 := Lib.hid (F68.out.trans f9 (by simp [Ext]))
  have F9 := Lib.hid (F8.out.trans f9 (by simp [Ext]))
  clear f9
  go_wp2_with fail
  refine (equal_any w9 yo bo yc bc B B (SY.out _ F69.out).rd (SB.out _ F9.out).rd).mono ?_
  rintro e wa ⟨rfl, fa⟩
  have FA := Lib.hid (F9.out.trans fa (by simp [Ext]))
  clear fa
  go_wp2_with fail
  refine (diff_seg (SA.out _ FA.out) (SA.out _ FA.out) VA.out VA.out (by have := LA.out; omega) (by have := LA.out; omega)).mono ?_
  rintro e wb ⟨do4, dc4, rfl, sd, fb, -⟩
  rw [diff_self VA.out] at sd ⊢
  have SD := Lib.hid sd
  have FB := Lib.hid (FA.out.trans fb (by simp [Ext]))
  clear sd fb
  go_wp2_with fail
  obtain ⟨w4', hw4⟩ : ∃ u, u = wb.alloc (.cells #[.int .u8 0, .int .u8 0] 5) := ⟨_, rfl⟩
  have hf4 : Fr [] wb w4' := by rw [hw4]; exact (Fr.refl _ _).alloc _
  have hb4 : w4'.heap[wb.heap.size]? = some (.cells #[.int .u8 0, .int .u8 0] 5 (0, 0)) := by rw [hw4]; exact alloc_new _ _
  rw [← hw4]
  have hr4 : Rd w4' 1 (some ⟨wb.heap.size, 0, none⟩) [0, 0].length (bts [0, 0]) := (Seg.one (w := w4') wb.heap.size #[.int .u8 0, .int .u8 0] 5 1 2 hb4 rfl (by unfold maxLen; omega)).rd
  have FC := Lib.hid (FB.out.trans hf4 (by simp [Ext]))
  have HSB := Lib.hid (sameB_any w4' do4 (some ⟨wb.heap.size, 0, none⟩) dc4 2 [0, 0] [0, 0] (SD.out.fr hf4 (by simp)).rd hr4)
  clear hw4 hf4 hb4 hr4 SD FB
  refine HSB.out.mono ?_
  rintro e wd ⟨rfl, fd⟩
  have FD := Lib.hid (FC.out.trans fd (by simp [Ext]))
  clear fd
  go_wp2_with fail
  refine (lives_any _).mono ?_
  rintro e we ⟨rfl, fe⟩
  go_wp2_with fail
  go_ret
  exact ⟨rfl, F2.out.trans (FD.out.trans fe (by simp [Ext])) (by simp [Ext])⟩
end Go.Proofs.Ytcgndeggemceaaa
/- arenanetref28: Find, Varint, Zigzag, Equal. -/
namespace Go.Proofs.Ytcgndeggemceaaa
open Go.RowKit

set_option maxHeartbeats 4000000 in
theorem find_any (w : World) (lo : Option Addr) (lc : Nat) (l : List (Int × Int)) (k : Int) (hr : Rd w 2 lo l.length (l.flatMap clV)) :
    Calls Try.prog 34 #[.slice lo l.length lc, .int .i64 k] w fun e w' => e = .returned (.tuple #[.int .i64 (getv l k), .bool (has l k)]) ∧ w = w' := by
  have hlen : l.length ≤ 9223372036854775807 := by have := hr.2.1; unfold maxLen at this; omega
  have HR := Lib.hid hr
  clear hr
  go_enter Try.func34, Try.ntmps34
  go_wp2_with fail
  go_loopw [6] (fun iv wr => ∃ i : Nat, i ≤ l.length ∧ iv = .int .i64 (i : Int) ∧ wr = w ∧ has l k = has (l.drop i) k ∧ getv l k = getv (l.drop i) k) (fun iv _ => l.length - (intOf iv).toNat)
  case atStart => exact ⟨0, by omega, rfl, rfl, rfl, rfl⟩
  case round =>
    obtain ⟨i, hi, rfl, rfl, h1, h2⟩ := hrel
    have H1 := Lib.hid h1
    have H2 := Lib.hid h2
    clear h1 h2
    by_cases hil : i < l.length
    · have hlt : (i : Int) < (l.length : Int) := by omega
      have wi : IntKind.i64.wrap ((i : Int) + 1) = (i : Int) + 1 := IntWalk.i64_in _ (by omega)
      obtain ⟨g, off, rfl, hg, c0, c1⟩ := HR.out.cel hil
      have hdr : l.drop i = l[i] :: l.drop (i + 1) := List.drop_eq_getElem_cons hil
      obtain ⟨x, hx⟩ : ∃ x, x = l[i] := ⟨_, rfl⟩
      rw [← hx] at c0 c1 hdr
      have HDR := Lib.hid hdr
      clear hx hdr
      by_cases hxk : x.1 = k
      · have hb : (x.1 == k) = true := by simp [hxk]
        have E1 := Lib.hid (by rw [H1.out, HDR.out, has_cons, hb, Bool.true_or] : has l k = true)
        have E2 := Lib.hid (by rw [H2.out, HDR.out, getv, if_pos hxk] : getv l k = x.2)
        clear hxk
        go_wp2_with fail
        refine bodyPost_ret (results_tmp2 rfl _ _ _) rfl ?_
        exact ⟨by rw [E1.out, E2.out]; rfl, by first | rfl | trivial⟩
      · have hb : (x.1 == k) = false := beq_eq_false_iff_ne.2 hxk
        have E1 := Lib.hid (by rw [H1.out, HDR.out, has_cons, hb, Bool.false_or] : has l k = has (l.drop (i + 1)) k)
        have E2 := Lib.hid (by rw [H2.out, HDR.out, getv, if_neg hxk] : getv l k = getv (l.drop (i + 1)) k)
        clear hxk
        go_wp2_with fail
        go_roundw
        case rel => exact ⟨i + 1, by omega, by go_num, by first | rfl | trivial, E1.out, E2.out⟩
        case measure => simp [intOf]; omega
    · have hnlt : ¬ (i : Int) < (l.length : Int) := by omega
      have hdr : l.drop i = [] := List.drop_of_length_le (by omega)
      have E1 := Lib.hid (by rw [H1.out, hdr]; rfl : has l k = false)
      have E2 := Lib.hid (by rw [H2.out, hdr]; rfl : getv l k = 0)
      clear hdr
      go_wp2_with fail
      refine bodyPost_ret (results_tmp2 rfl _ _ _) rfl ?_
      exact ⟨by rw [E1.out, E2.out]; rfl, by first | rfl | trivial⟩

set_option maxRecDepth 100000 in
set_option maxHeartbeats 4000000 in
theorem varint_any (w : World) (n : Nat) (hn : n < 18446744073709551616) : Calls Try.prog 35 #[.int .u64 (n : Int)] w (DiffTo w (varN n)) := by
  obtain ⟨ib, hib, hb0, hb1, hb2⟩ := info_parts infoByte
  have HVL := Lib.hid (varN_len hn)
  go_enter Try.func35, Try.ntmps35
  go_wp2_with fail
  go_loopw [0, 3] (fun nv bv wr => ∃ (d : List Nat) (m : Nat) (oa : Option Addr) (oc : Nat), bv = .slice oa d.length oc ∧ nv = .int .u64 (m : Int) ∧ m < 18446744073709551616 ∧ d ++ varN m = varN n ∧ Seg wr 5 1 oa d.length oc (bts d) ∧ Fr [] w wr ∧ (∀ k ∈ blk oa, w.heap.size ≤ k)) (fun nv _ _ => (intOf nv).toNat)
  case atStart => exact ⟨[], n, none, 0, rfl, rfl, hn, rfl, Seg.nil _ _ _, Fr.refl _ _, by simp [blk]⟩
  case round =>
    obtain ⟨D, m, oa, oc, rfl, rfl, hm, hd, hseg, hf, hx⟩ := hrel
    have hDl : D.length ≤ 10 := by have := congrArg List.length hd; rw [List.length_append] at this; have := HVL.out; omega
    have HD := Lib.hid hd
    have HSG := Lib.hid fun (o : Obj) => hseg.alloc o
    have HF := Lib.hid hf
    have HX := Lib.hid hx
    clear hd hseg hf hx
    by_cases hm1 : 128 ≤ m
    · have hmi : (127 : Int) < (m : Int) := by omega
      obtain ⟨x, hx⟩ : ∃ x, x = m % 128 + 128 := ⟨_, rfl⟩
      have hw1 : IntKind.u64.wrap (128 + (m : Int) % 128) = (x : Int) := by rw [IntWalk.u64_in _ (by omega)]; omega
      have hw2 : (x : Int) % 256 = (x : Int) := by omega
      have HXE := Lib.hid hx
      clear hx
      go_wp2_with (at_builtin; refine wpList_append_seg rfl _ _ 26 rfl 5 ib _ 1 1 Try.underlying26 hib hb0 hb1 hb2 rfl (by decide) oa D.length oc (bts D) rfl (HSG.out _) ⟨_, 0, none⟩ 1 1 [.int .u8 (x : Int)] rfl rfl (fun j u hu => by rw [Addr.add_mid, Nat.zero_add, World.cell?_alloc_new]; simpa using hu) (by simp [Value.oneCell']) (by unfold maxLen; omega) (by omega) ?_; intro ao' cap' w5 hs5 hf5 hx5; have HS5 := Lib.hid hs5; have HF5 := Lib.hid ((HF.out.alloc _).trans hf5 (fun q hq => .inr (HX.out q hq))); have HX5 := Lib.hid (fun q hq => (by have := HF.out.size; rcases hx5 q hq with h | h; exact HX.out q h; (simp at h; omega) : w.heap.size ≤ q)); clear hs5 hf5 hx5)
      go_roundw
      case rel =>
        have hlen : (D ++ [x]).length = D.length + 1 := by simp
        exact ⟨D ++ [x], m / 128, ao', cap', by rw [hlen], by go_num, by omega, by rw [← HD.out, varN_ge hm1, ← HXE.out]; simp, by rw [hlen, bts_append]; exact HS5.out, HF5.out, HX5.out⟩
      case measure => simp [intOf]; omega
    · have hmi : ¬ (127 : Int) < (m : Int) := by omega
      have hm8 : (m : Int) % 256 = (m : Int) := by omega
      go_wp2_with (at_builtin; refine wpList_append_seg rfl _ _ 26 rfl 5 ib _ 1 1 Try.underlying26 hib hb0 hb1 hb2 rfl (by decide) oa D.length oc (bts D) rfl (HSG.out _) ⟨_, 0, none⟩ 1 1 [.int .u8 (m : Int)] rfl rfl (fun j u hu => by rw [Addr.add_mid, Nat.zero_add, World.cell?_alloc_new]; simpa using hu) (by simp [Value.oneCell']) (by unfold maxLen; omega) (by omega) ?_; intro ao' cap' w5 hs5 hf5 hx5; have HS5 := Lib.hid hs5; have HF5 := Lib.hid ((HF.out.alloc _).trans hf5 (fun q hq => .inr (HX.out q hq))); have HX5 := Lib.hid (fun q hq => (by have := HF.out.size; rcases hx5 q hq with h | h; exact HX.out q h; (simp at h; omega) : w.heap.size ≤ q)); clear hs5 hf5 hx5)
      go_ret
      have hlen : (D ++ [m]).length = D.length + 1 := by simp
      have e : varN n = D ++ [m] := by rw [← HD.out, varN_lt (by omega)]
      rw [e]
      exact ⟨ao', cap', by rw [hlen]; rfl, by rw [hlen, bts_append]; exact HS5.out, HF5.out, HX5.out⟩

set_option maxHeartbeats 1000000 in
theorem rzig_any (w : World) (d : Int) (h : bd64 d) : Calls Try.prog 36 #[.int .i64 d] w fun e w' => e = .returned (.int .u64 ((zz d : Nat) : Int)) ∧ w = w' := by
  unfold bd64 at h
  by_cases hd : d < 0
  · have e : ((zz d : Nat) : Int) = 2 * (-(d + 1)) + 1 := by unfold zz; rw [if_pos hd]; omega
    have w1 : IntKind.i64.wrap (d + 1) = d + 1 := IntWalk.i64_in _ (by omega)
    have w2 : IntKind.i64.wrap (-(d + 1)) = -(d + 1) := IntWalk.i64_in _ (by omega)
    have w3 : IntKind.u64.wrap (-(d + 1)) = -(d + 1) := IntWalk.u64_in _ (by omega)
    have w4 : IntKind.u64.wrap (2 * -(d + 1)) = 2 * -(d + 1) := IntWalk.u64_in _ (by omega)
    have w5 : IntKind.u64.wrap (2 * -(d + 1) + 1) = 2 * -(d + 1) + 1 := IntWalk.u64_in _ (by omega)
    have HE := Lib.hid e
    clear e
    go_enter Try.func36, Try.ntmps36
    go_wp2
    go_ret
    exact ⟨by rw [HE.out]; first | rfl | (simp; omega), rfl⟩
  · have e : ((zz d : Nat) : Int) = 2 * d := by unfold zz; rw [if_neg hd]; omega
    have w3 : IntKind.u64.wrap d = d := IntWalk.u64_in _ (by omega)
    have w4 : IntKind.u64.wrap (2 * d) = 2 * d := IntWalk.u64_in _ (by omega)
    have HE := Lib.hid e
    clear e
    go_enter Try.func36, Try.ntmps36
    go_wp2
    go_ret
    exact ⟨by rw [HE.out]; rfl, rfl⟩

set_option maxHeartbeats 2000000 in
theorem requal_any (w : World) (ao bo : Option Addr) (ca cb : Nat) (a b : List (Int × Int)) (ha : Rd w 2 ao a.length (a.flatMap clV)) (hb : Rd w 2 bo b.length (b.flatMap clV)) :
    Calls Try.prog 15 #[.slice ao a.length ca, .slice bo b.length cb] w fun e w' => e = .returned (.bool (decide (a = b))) ∧ Fr [] w w' := by
  have hla : a.length ≤ 9223372036854775807 := by have := ha.2.1; unfold maxLen at this; omega
  have hlb : b.length ≤ 9223372036854775807 := by have := hb.2.1; unfold maxLen at this; omega
  have HA := Lib.hid ha
  have HB := Lib.hid hb
  clear ha hb
  by_cases hl : a.length = b.length
  · have hne : ((a.length : Int) != (b.length : Int)) = false := by rw [hl]; simp
    have HL := Lib.hid hl
    clear hl
    go_enter Try.func15, Try.ntmps15
    go_wp2_with fail
    go_loopw [5] (fun i wr => ∃ k : Nat, k ≤ a.length ∧ i = .int .i64 k ∧ a.take k = b.take k ∧ Fr [] w wr) (fun i _ => a.length - (intOf i).toNat)
    case atStart => exact ⟨0, Nat.zero_le _, rfl, rfl, Fr.refl _ _⟩
    case round =>
      obtain ⟨k, hk, rfl, ht, hf⟩ := hrel
      have HT := Lib.hid ht
      have HF := Lib.hid hf
      by_cases hkn : k < a.length
      · have hkb : k < b.length := by have := HL.out; omega
        obtain ⟨g, off, rfl, g1, c1, c2⟩ := (HA.out.fr hf (by simp)).cel hkn
        obtain ⟨g2, off2, rfl, g3, c3, c4⟩ := (HB.out.fr hf (by simp)).cel hkb
        obtain ⟨x1, hx1⟩ : ∃ x, x = a[k].1 := ⟨_, rfl⟩
        obtain ⟨x2, hx2⟩ : ∃ x, x = a[k].2 := ⟨_, rfl⟩
        obtain ⟨y1, hy1⟩ : ∃ x, x = b[k].1 := ⟨_, rfl⟩
        obtain ⟨y2, hy2⟩ : ∃ x, x = b[k].2 := ⟨_, rfl⟩
        rw [← hx1] at c1
        rw [← hx2] at c2
        rw [← hy1] at c3
        rw [← hy2] at c4
        have HX1 := Lib.hid hx1
        have HX2 := Lib.hid hx2
        have HY1 := Lib.hid hy1
        have HY2 := Lib.hid hy2
        have wi : IntKind.i64.wrap ((k : Int) + 1) = (k : Int) + 1 := IntWalk.i64_in _ (by omega)
        have hki : (k : Int) < (a.length : Int) := by omega
        have hkj : (k : Int) < (b.length : Int) := by omega
        clear ht hf hx1 hx2 hy1 hy2
        by_cases hxy : x1 = y1 ∧ x2 = y2
        · have hb : ∀ u, (binOp .neq 38 (.agg #[.int .i64 x1, .int .i64 x2]) (.agg #[.int .i64 y1, .int .i64 y2])).run Try.prog u = .ok (.bool false) u := fun u => by rw [ne_cell]; simp [hxy.1, hxy.2]
          have HXY := Lib.hid hxy
          clear hxy
          go_wp2_with fail
          go_quiet (fail)
          go_wp2_with fail
          go_roundw
          case rel =>
            have e : a[k] = b[k] := Prod.ext (by rw [← HX1.out, ← HY1.out]; exact HXY.out.1) (by rw [← HX2.out, ← HY2.out]; exact HXY.out.2)
            exact ⟨k + 1, by omega, by go_num, by rw [List.take_succ_eq_append_getElem hkn, List.take_succ_eq_append_getElem hkb, HT.out, e], HF.out.trans ((Fr.refl [] _).drewN _) (by simp [Ext])⟩
          case measure => simp [intOf]; omega
        · have hb : ∀ u, (binOp .neq 38 (.agg #[.int .i64 x1, .int .i64 x2]) (.agg #[.int .i64 y1, .int .i64 y2])).run Try.prog u = .ok (.bool true) u := fun u => by
            rw [ne_cell]
            have : ((x1 == y1) && (x2 == y2)) = false := by
              rw [Bool.eq_false_iff]
              intro h
              simp only [Bool.and_eq_true, beq_iff_eq] at h
              exact hxy h
            rw [this]; rfl
          have HXY := Lib.hid hxy
          clear hxy
          go_wp2_with fail
          go_quiet (fail)
          go_wp2_with fail
          go_ret
          exact ⟨ret_bool (by
            symm
            refine decide_eq_false fun h => HXY.out ?_
            rw [HX1.out, HX2.out, HY1.out, HY2.out]
            simp only [h]
            constructor <;> trivial), HF.out.trans ((Fr.refl [] _).drewN _) (by simp [Ext])⟩
      · have hke : k = a.length := by omega
        have hab : a = b := by
          have := HT.out
          rw [hke, List.take_of_length_le (Nat.le_refl _), HL.out, List.take_of_length_le (Nat.le_refl _)] at this
          exact this
        have HAB := Lib.hid hab
        clear ht hf hke hab
        go_wp2_with fail
        go_ret
        exact ⟨ret_bool (decide_eq_true HAB.out).symm, HF.out⟩
  · have hne : ((a.length : Int) != (b.length : Int)) = true := bne_iff_ne.2 (by omega)
    have HL := Lib.hid hl
    clear hl
    go_enter Try.func15, Try.ntmps15
    go_wp2_with fail
    go_ret
    exact ⟨ret_bool (decide_eq_false fun h => HL.out (by rw [h])).symm, Fr.refl _ _⟩
end Go.Proofs.Ytcgndeggemceaaa
