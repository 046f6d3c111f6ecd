/- VisibilityLocal returns true (written by genlaw27.py). -/
import Derived.Test.YtdbngpncigjfiaaLaw27b
namespace Go.Proofs.Ytdbngpncigjfiaa
open Go.RowKit

set_option maxRecDepth 100000 in
set_option maxHeartbeats 16000000 in
theorem vlocal_walk (w : World) (lo : Option Addr) (lc : Nat) (l : List Int) (hl : Srci w lo lc l) (mo : Option Addr) (mc : Nat) (m : List Int) (hm : Srci w mo mc m) (ao : Option Addr) (ac : Nat) (a : List Int) (hat : Srci w ao ac a) (player body by' : Int) (hp : bounded player) (hb : bounded body) (hby : bounded by') :
    Calls Try.prog 6 #[.slice lo l.length lc, .slice mo m.length mc, .slice ao a.length ac, .int .i64 player, .int .i64 body, .int .i64 by'] w fun e w' => e = .returned (.bool true) ∧ Fr [] w w' := by
  obtain ⟨ii, hii, hii0, hii1, hii2⟩ := info_parts infoInt
  have HSU := Lib.hid (set27_any w lo lc l hl.rd hl.bnd mo mc m hm.rd hm.bnd)
  have HAT := Lib.hid hat
  clear hl hm hat
  go_enter Try.func6, Try.ntmps6
  go_wp2_with fail
  refine HSU.out.mono ?_
  rintro e w1 ⟨s, bodies, rooms, doors, rfl, hs⟩
  have HS := Lib.hid hs
  have F1 := Lib.hid hs.fr
  have hr5 := hs.r5
  obtain ⟨C, hC⟩ := cAt s
  have HCS := Lib.hid hC.size
  have HV := Lib.hid hC.val
  have HC := Lib.hid hC
  have hCl : (Try.prog.info? 31).map (·.size) = some C.toList.length := by rw [Array.length_toList, hC.size]; exact infoSetup
  have HO := Lib.hid (by have h := hC.val; unfold St.val at h; injection h with h; rw [← h]; simp [Value.oneCell'] : C.all (·.oneCell') = true)
  obtain ⟨b1, hb1⟩ : ∃ b1, b1 = w1.heap.size := ⟨_, rfl⟩
  have HB1 := Lib.hid hb1
  rw [HV.out]
  have HCL0 := Lib.hid hCl
  clear hs hb1 hC HSU hCl
  go_upto_region 2 with (refine wpList_storeB rfl 31 (Operand.tmp 13) (Operand.tmp 24) rfl w1.heap.size 16 C rfl rfl _ 31 (by exact alloc_new _ _) rfl HCS.out infoSetup HO.out ?_; intro w2 hb2 hf2; have F2 := Lib.hid (((Fr.refl [] w1).alloc _).trans hf2 (fun k hk => .inr (by simp at hk; omega))); have B2 := Lib.hid (by rw [HB1.out]; exact hb2 : w2.heap[b1]? = some (.cells C 31 (0, 0))); clear hb2 hf2)
  rw [← HB1.out]
  obtain ⟨pl, hpl⟩ : ∃ pl : Nat, s.players = (pl : Int) := ⟨s.players.toNat, by have := HS.out.pl; omega⟩
  have hpl3 : 1 ≤ pl ∧ pl ≤ 3 := by have := HS.out.pl; omega
  have hpn : pl ≤ bodies.length := by have := HS.out.pn; omega
  have hb5 := HS.out.b5
  have HPL := Lib.hid hpl
  obtain ⟨nb, hnb⟩ : ∃ nb, nb = bodies.length := ⟨_, rfl⟩
  have HNB := Lib.hid hnb
  have HSN := Lib.hid (HS.out.nb.trans hnb.symm)
  obtain ⟨n, hn⟩ : ∃ n, n = 48 + 4 * pl + 8 * bodies.length := ⟨_, rfl⟩
  have HN := Lib.hid hn
  have HCE := Lib.hid (fun u (hu : Fr [] w1 u) => (by
    rw [← HV.out]
    exact cells27_any u s bodies HS.out.ok pl hpl hpl3.2 (HS.out.bd hu) hb5 HS.out.good ao ac a ((HAT.out.old F1.out).old hu).rd HAT.out.bnd n hn : Calls Try.prog 18 #[.agg C, .slice ao a.length ac] u (Cells27To u pl bodies.length n)))
  rw [← hnb] at hpn hb5
  clear hpl hn hnb
  go_wp2_with (refine wpList_loadB rfl 31 (Operand.tmp 13) rfl b1 16 rfl C 31 (0, 0) B2.out _ Try.underlying31 rfl HCS.out infoSetup ?_)
  refine (HCE.out w2 F2.out).mono ?_
  rintro e w5 ⟨bc, cells, rfl, hcl, hrow, hbc, f5, hsm, hpo⟩
  have HCL := Lib.hid hcl
  have HROW := Lib.hid hrow
  have F5 := Lib.hid (F2.out.trans f5 (by simp [Ext]))
  have B5 := Lib.hid (f5.blk B2.out (by simp))
  have HSM := Lib.hid hsm
  have HPO := Lib.hid hpo
  have hb1c : b1 < bc := by have := lt_of_blk B2.out; omega
  have VP := Lib.hid (fun u (hu : Fr [] w5 u) => HS.out.vpre (F5.out.trans hu (by simp [Ext])) HPL.out HN.out (hu.blk HROW.out (by simp)) HCL.out HPO.out)
  have KEEP := Lib.hid (fun u (hu : Fr [] w5 u) => (hu.blk B5.out (by simp) : u.heap[b1]? = some (.cells C 31 (0, 0))))
  clear hcl hrow hsm hpo f5 HCE hbc
  have QSees := Lib.hid (fun u (hu : Fr [] w5 u) (k i : Int) => (by have h := sees_any (VP.out u hu) k i; rw [HV.out, HCL.out] at h; exact h : Calls Try.prog 21 #[.agg C, .slice (some ⟨bc, 0, none⟩) n n, .int .i64 k, .int .i64 i] u (fun e w' => e = .returned (.bool (seesB s rooms doors cells k i)) ∧ Fr [] u w')))
  have k0 := (by have h := cell_blk B5.out 0; rw [h, HC.out.c0, HPL.out] : w5.cell? ⟨b1, 0, none⟩ = some (.int .i64 (pl : Int)))
  have k1 := (by have h := cell_blk B5.out 1; rw [h, HC.out.c1, HSN.out] : w5.cell? ⟨b1, 1, none⟩ = some (.slice s.bo nb s.bc))
  obtain ⟨p, hp1, -, hAP⟩ := around_nat player pl hp (by omega) (by omega)
  obtain ⟨q, hq1, -, hAQ⟩ := around_nat body nb hb (by omega) (by omega)
  obtain ⟨d, hd1, -, hAD⟩ := around_nat by' 3000 hby (by omega) (by omega)
  have HAP := Lib.hid hAP
  have HAQ := Lib.hid hAQ
  have HAD := Lib.hid hAD
  obtain ⟨ow, how⟩ : ∃ ow : Int, ow = 48 + 4 * (pl : Int) + 8 * (p : Int) := ⟨_, rfl⟩
  obtain ⟨ot, hot⟩ : ∃ ot : Int, ot = 48 + 4 * (pl : Int) + 8 * (q : Int) := ⟨_, rfl⟩
  have how0 : 0 ≤ ow := by omega
  have how1 : ow ≤ 1000 := by omega
  have hot0 : 0 ≤ ot := by omega
  have hot1 : ot ≤ 1000 := by omega
  have QOW := Lib.hid (fun (u : World) => (by have h := body_any u s HS.out.ok (p : Int); rw [show bdOf s (p : Int) = ow by unfold bdOf; rw [if_neg (by rw [HSN.out]; omega), HPL.out, how], HV.out] at h; exact h : Calls Try.prog 25 #[.agg C, .int .i64 (p : Int)] u fun e w' => e = .returned (.int .i64 ow) ∧ Fr [] u w'))
  have QOT := Lib.hid (fun (u : World) => (by have h := body_any u s HS.out.ok (q : Int); rw [show bdOf s (q : Int) = ot by unfold bdOf; rw [if_neg (by rw [HSN.out]; omega), HPL.out, hot], HV.out] at h; exact h : Calls Try.prog 25 #[.agg C, .int .i64 (q : Int)] u fun e w' => e = .returned (.int .i64 ot) ∧ Fr [] u w'))
  have HOW := Lib.hid how
  have HOT := Lib.hid hot
  have hn100 : n ≤ 100 := by have := HN.out; have := HS.out.b5; omega
  have hn0 : 0 < n := by have := HN.out; omega
  clear hAP hAQ hAD hp hb hby how hot
  go_wp2_with fail
  refine (HAP.out _).mono ?_
  rintro e wx ⟨rfl, hwx⟩
  rw [← hwx]
  clear hwx
  go_wp2_with fail
  refine (HAQ.out _).mono ?_
  rintro e wx ⟨rfl, hwx⟩
  rw [← hwx]
  clear hwx
  go_wp2_with fail
  refine (HAD.out _).mono ?_
  rintro e wx ⟨rfl, hwx⟩
  rw [← hwx]
  clear hwx k0 k1
  go_wp2_with (refine wpList_loadB rfl 31 (Operand.tmp 13) rfl b1 16 rfl C 31 (0, 0) B5.out _ Try.underlying31 rfl HCS.out infoSetup ?_)
  refine (QOW.out _).mono ?_
  rintro e w6 ⟨rfl, f6⟩
  have F6 := Lib.hid f6
  have B6 := Lib.hid (f6.blk B5.out (by simp))
  clear f6
  go_wp2_with (refine wpList_loadB rfl 31 (Operand.tmp 13) rfl b1 16 rfl C 31 (0, 0) B6.out _ Try.underlying31 rfl HCS.out infoSetup ?_)
  refine (QOT.out _).mono ?_
  rintro e w7 ⟨rfl, f7⟩
  have F7 := Lib.hid (F6.out.trans f7 (by simp [Ext]))
  clear f7
  have HNW := Lib.hid (fun (o : Obj) => (by
    have hr := ((F7.out.alloc o).blk HROW.out (by simp))
    have h := (row_seg hr (by rw [HCL.out]; unfold maxLen; omega))
    rw [HCL.out] at h
    exact h.news : ∀ j u, (ints cells)[j]? = some u → (w7.alloc o).cell? ((⟨bc, 0, none⟩ : Addr).add j) = some u))
  have HE0 := Lib.hid (Seg.one (w := w7.alloc (.cells #[] 3)) w7.heap.size _ 3 1 0 (alloc_new w7 _) rfl (by simp))
  go_upto_region 9 with (at_builtin; refine wpList_append_seg rfl _ _ 22 rfl 3 ii _ 1 8 Try.underlying22 hii hii0 hii1 hii2 rfl (by decide) (some ⟨w7.heap.size, 0, none⟩) 0 0 [] rfl HE0.out ⟨bc, 0, none⟩ n n (ints cells) rfl (by rw [ints_length, HCL.out]; omega) (HNW.out _) (ints_one _) (by unfold maxLen; omega) (by omega) ?_; intro ao' cap' w8 hs8 hf8 hx8; have HS8 := Lib.hid hs8; have HF8 := Lib.hid hf8; have HX8 := Lib.hid hx8; clear hs8 hf8 hx8)
  have hs8 : Seg w8 3 1 ao' n cap' (ints cells) := by have h := HS8.out; rw [List.nil_append] at h; exact (Nat.zero_add n) ▸ h
  obtain ⟨g, off, cur, hao, hgb, -, -, -⟩ := hs8.at (by have := hs8.2.2.1; omega)
  have hgn : w7.heap.size ≤ g := by
    rcases HX8.out g (by rw [hao]; simp [blk]) with h | h
    · simp [blk] at h; omega
    · simp at h; omega
  have F8 := Lib.hid (F7.out.trans (((Fr.refl [] w7).alloc _).trans HF8.out (fun k hk => .inr (by simp [blk] at hk; omega))) (by simp [Ext]) : Fr [] w5 w8)
  have hg5 : w5.heap.size ≤ g := by have := F7.out.size; omega
  have HS9 := Lib.hid hs8
  have HAO := Lib.hid hao
  rw [hao] at HS9 ⊢
  clear hs8 hgb hao HF8 HX8 HNW HE0 HS8 hgn
  go_wp2_with fail
  go_loopw [21] (fun iv wr => ∃ (k : Nat) (T : List Int), k ≤ n ∧ iv = .int .i64 (k : Int) ∧ T.length = n ∧ Seg wr 3 1 (some ⟨g, off, none⟩) n cap' (ints T) ∧ Fr [g] w8 wr ∧ (∀ x ∈ T, small x) ∧ PosOk pl nb T ∧ ∀ j : Nat, ((j : Int) = ow ∨ (j : Int) = ow + 1 ∨ (j : Int) = ot ∨ (j : Int) = ot + 1) → T.getD j 0 = cells.getD j 0) (fun iv _ => n - (intOf iv).toNat)
  case atStart => exact ⟨0, cells, by omega, rfl, HCL.out, HS9.out, Fr.refl _ _, HSM.out, by rw [HNB.out]; exact HPO.out, fun _ _ => rfl⟩
  case round =>
    obtain ⟨k, T, hk, rfl, htl, hsg, hfr, hsm2, hpo2, heq⟩ := hrel
    have HTL := Lib.hid htl
    have HSG := Lib.hid hsg
    have HFR := Lib.hid hfr
    have HSM2 := Lib.hid hsm2
    have HPO2 := Lib.hid hpo2
    have HEQ := Lib.hid heq
    have hcn : n ≤ cap' := hsg.2.2.1
    clear htl hsg hfr hsm2 hpo2 heq
    by_cases hkn : k < n
    · have hkni : (k : Int) < (n : Int) := by omega
      by_cases hk1 : (k : Int) = ow
      · have a1 : ((k : Int) == ow) = true := beq_iff_eq.2 hk1
        have c1 : ((k : Int) != ow) = false := by rw [bne, a1]; rfl
        clear hk1
        go_wp2_with fail
        go_roundw
        case rel => exact ⟨k + 1, T, by omega, by go_num, HTL.out, HSG.out, HFR.out, HSM2.out, HPO2.out, HEQ.out⟩
        case measure => simp [intOf]; omega
      · have a1 : ((k : Int) == ow) = false := beq_eq_false_iff_ne.2 hk1
        have c1 : ((k : Int) != ow) = true := by rw [bne, a1]; rfl
        by_cases hk2 : (k : Int) = ow + 1
        · have a2 : ((k : Int) == ow + 1) = true := beq_iff_eq.2 hk2
          have c2 : ((k : Int) != ow + 1) = false := by rw [bne, a2]; rfl
          clear hk1 hk2
          go_wp2_with fail
          go_roundw
          case rel => exact ⟨k + 1, T, by omega, by go_num, HTL.out, HSG.out, HFR.out, HSM2.out, HPO2.out, HEQ.out⟩
          case measure => simp [intOf]; omega
        · have a2 : ((k : Int) == ow + 1) = false := beq_eq_false_iff_ne.2 hk2
          have c2 : ((k : Int) != ow + 1) = true := by rw [bne, a2]; rfl
          by_cases hk3 : (k : Int) = ot
          · have a3 : ((k : Int) == ot) = true := beq_iff_eq.2 hk3
            have c3 : ((k : Int) != ot) = false := by rw [bne, a3]; rfl
            clear hk1 hk2 hk3
            go_wp2_with fail
            go_roundw
            case rel => exact ⟨k + 1, T, by omega, by go_num, HTL.out, HSG.out, HFR.out, HSM2.out, HPO2.out, HEQ.out⟩
            case measure => simp [intOf]; omega
          · have a3 : ((k : Int) == ot) = false := beq_eq_false_iff_ne.2 hk3
            have c3 : ((k : Int) != ot) = true := by rw [bne, a3]; rfl
            by_cases hk4 : (k : Int) = ot + 1
            · have a4 : ((k : Int) == ot + 1) = true := beq_iff_eq.2 hk4
              have c4 : ((k : Int) != ot + 1) = false := by rw [bne, a4]; rfl
              clear hk1 hk2 hk3 hk4
              go_wp2_with fail
              go_roundw
              case rel => exact ⟨k + 1, T, by omega, by go_num, HTL.out, HSG.out, HFR.out, HSM2.out, HPO2.out, HEQ.out⟩
              case measure => simp [intOf]; omega
            · have a4 : ((k : Int) == ot + 1) = false := beq_eq_false_iff_ne.2 hk4
              have c4 : ((k : Int) != ot + 1) = true := by rw [bne, a4]; rfl
              obtain ⟨x, hx⟩ : ∃ x, x = T.getD k 0 := ⟨_, rfl⟩
              have hxs : small x := by rw [hx, List.getD_eq_getElem?_getD, List.getElem?_eq_getElem (by rw [HTL.out]; omega)]; exact HSM2.out _ (List.getElem_mem _)
              obtain ⟨hx1, hx2⟩ := hxs
              obtain ⟨g', off', cur, e', hg', -, hc, hz⟩ := HSG.out.at (by omega)
              cases e'
              have ck : wr.cell? ⟨g, off + k, none⟩ = some (.int .i64 x) := by rw [hc k (by omega), ints_get, hx, List.getD_eq_getElem?_getD, List.getElem?_eq_getElem (by rw [HTL.out]; omega)]; rfl
              have fk : wr.frozen? ⟨g, off + k, none⟩ = false := hz _
              have HST := Lib.hid (HSG.out.store (i := k) (by omega))
              have HCC := Lib.hid (clampI_inC (x + d - 1500))
              have QC := Lib.hid (fun (u : World) => (by exact clamp_any u (x + (d : Int) - 1500) (-1048576) 1048576 : Calls Try.prog 26 #[.int .i64 (x + (d : Int) - 1500), .int .i64 (-1048576), .int .i64 1048576] u fun e w' => e = .returned (.int .i64 (clampI (x + (d : Int) - 1500) (-1048576) 1048576)) ∧ u = w'))
              obtain ⟨v, hv⟩ : ∃ v, v = clampI (x + (d : Int) - 1500) (-1048576) 1048576 := ⟨_, rfl⟩
              rw [← hv] at QC HCC
              have HNK := Lib.hid (⟨hk1, hk2, hk3, hk4⟩ : ¬ (k : Int) = ow ∧ ¬ (k : Int) = ow + 1 ∧ ¬ (k : Int) = ot ∧ ¬ (k : Int) = ot + 1)
              clear hx hc hz hg' hv hk1 hk2 hk3 hk4
              go_wp2_with fail
              refine (QC.out _).mono ?_
              rintro e wc ⟨rfl, hwc⟩
              rw [← hwc]
              clear hwc
              go_wp2_with fail
              go_roundw
              case rel =>
                have hnk := HNK.out
                refine ⟨k + 1, T.set k v, by omega, by go_num, by rw [List.length_set]; exact HTL.out, ?_, HFR.out.setCell (p := ⟨g, off + k, none⟩) (.inl (by simp)) _, small_set HSM2.out k HCC.out.small, HPO2.out.set1 (by rw [HTL.out]; omega) HCC.out, fun j hj => ?_⟩
                · have h := HST.out (.int .i64 v)
                  have e : (ints T).set k (Value.int .i64 v) = ints (T.set k v) := by unfold ints; rw [List.map_set]
                  rw [e] at h; exact h
                · rw [getD_set_ne (by omega)]; exact HEQ.out j hj
              case measure => simp [intOf]; omega
    · have HFW := Lib.hid (F8.out.trans HFR.out (fun k hk => .inr (by simp at hk; omega)) : Fr [] w5 wr)
      have HDr := Lib.hid (HFW.out.drew)
      have HSD := Lib.hid (by
        have e1 := HEQ.out (48 + 4 * pl + 8 * p) (.inl (by rw [HOW.out]; omega))
        have e2 := HEQ.out (48 + 4 * pl + 8 * p + 1) (.inr (.inl (by rw [HOW.out]; omega)))
        have e3 := HEQ.out (48 + 4 * pl + 8 * q) (.inr (.inr (.inl (by rw [HOT.out]; omega))))
        have e4 := HEQ.out (48 + 4 * pl + 8 * q + 1) (.inr (.inr (.inr (by rw [HOT.out]; omega))))
        have a1 : (48 + 4 * s.players + 8 * (p : Int)).toNat = 48 + 4 * pl + 8 * p := by rw [HPL.out]; omega
        have a2 : (48 + 4 * s.players + 8 * (q : Int)).toNat = 48 + 4 * pl + 8 * q := by rw [HPL.out]; omega
        refine sees_same ?_ ?_ ?_ ?_
        · unfold posX; rw [a1]; exact e1
        · unfold posY; rw [a1]; exact e2
        · unfold posX; rw [a2]; exact e3
        · unfold posY; rw [a2]; exact e4 : seesB s rooms doors T (p : Int) (q : Int) = seesB s rooms doors cells (p : Int) (q : Int))
      obtain ⟨t, ht⟩ : ∃ t, t = seesB s rooms doors cells (p : Int) (q : Int) := ⟨_, rfl⟩
      have QA := Lib.hid (fun u (hu : Fr [] w5 u) => (by rw [ht]; exact QSees.out u hu (p : Int) (q : Int) : Calls Try.prog 21 #[.agg C, .slice (some ⟨bc, 0, none⟩) n n, .int .i64 (p : Int), .int .i64 (q : Int)] u (fun e w' => e = .returned (.bool t) ∧ Fr [] u w')))
      have QB := Lib.hid (fun u (hu : Fr [] wr u) => (by
        have h := sees_any (HS.out.vpreR ((F5.out.trans HFW.out (by simp [Ext])).trans hu (by simp [Ext])) HPL.out HN.out (HSG.out.fr hu (by simp)) HTL.out (by rw [← HNB.out]; exact HPO2.out)) (p : Int) (q : Int)
        rw [HV.out, HTL.out, HSD.out, ← ht] at h; exact h : Calls Try.prog 21 #[.agg C, .slice (some ⟨g, off, none⟩) n cap', .int .i64 (p : Int), .int .i64 (q : Int)] u (fun e w' => e = .returned (.bool t) ∧ Fr [] u w')))
      have QA := Lib.hid (fun u (hu : Fr [] wr u) => QA.out u (HFW.out.trans hu (by simp [Ext])))
      have KP := Lib.hid (fun u (hu : Fr [] wr u) => KEEP.out u (HFW.out.trans hu (by simp [Ext])))
      have HDr := Lib.hid ((Fr.refl [] wr).drew)
      clear ht
      go_upto_region 14 with fail
      refine wp_region_held_drew (S := fun u => u.heap[b1]? = some (.cells C 31 (0, 0))) (by kernel_rfl) (KP.out _ HDr.out) (fun hHeld => ?_)
      refine wpAnyH_takeL (i := 0) (v := (.agg C)) rfl (by kernel_rfl) (by kernel_rfl) (by kernel_rfl) (fun _ _ _ h => h) (yieldsIf_load_mid (by rfl) 31 (Operand.tmp 13) rfl b1 0 rfl C.toList _ (fun w' hw' => range_blk (c := C) hw') Try.underlying31 rfl HCL0.out) (by assumption) ?_
      try simp only [Act.put, List.setIfInBounds_toArray, List.set_cons_zero, List.set_cons_succ]
      refine wpAnyH_takeL (i := 1) (v := _) rfl (by kernel_rfl) (by kernel_rfl) (by kernel_rfl) (fun _ _ _ h => h) (Or.inl ⟨by rfl, (by intro w' hSw; (try dsimp only at hSw); skip; go_simp; try with_reducible rfl)⟩) (by assumption) ?_
      try simp only [Act.put, List.setIfInBounds_toArray, List.set_cons_zero, List.set_cons_succ]
      refine wpAnyH_takeL (i := 2) (v := _) rfl (by kernel_rfl) (by kernel_rfl) (by kernel_rfl) (fun _ _ _ h => h) (Or.inl ⟨by rfl, (by intro w' hSw; (try dsimp only at hSw); skip; go_simp; try with_reducible rfl)⟩) (by assumption) ?_
      try simp only [Act.put, List.setIfInBounds_toArray, List.set_cons_zero, List.set_cons_succ]
      refine wpAnyH_takeL (i := 3) (v := _) rfl (by kernel_rfl) (by kernel_rfl) (by kernel_rfl) (fun _ _ _ h => h) (Or.inl ⟨by rfl, (by intro w' hSw; (try dsimp only at hSw); skip; go_simp; try with_reducible rfl)⟩) (by assumption) ?_
      try simp only [Act.put, List.setIfInBounds_toArray, List.set_cons_zero, List.set_cons_succ]
      refine wpAnyH_takeL (i := 5) (v := (.agg C)) rfl (by kernel_rfl) (by kernel_rfl) (by kernel_rfl) (fun _ _ _ h => h) (yieldsIf_load_mid (by rfl) 31 (Operand.tmp 13) rfl b1 0 rfl C.toList _ (fun w' hw' => range_blk (c := C) hw') Try.underlying31 rfl HCL0.out) (by assumption) ?_
      try simp only [Act.put, List.setIfInBounds_toArray, List.set_cons_zero, List.set_cons_succ]
      refine wpAnyH_takeL (i := 6) (v := _) rfl (by kernel_rfl) (by kernel_rfl) (by kernel_rfl) (fun _ _ _ h => h) (Or.inl ⟨by rfl, (by intro w' hSw; (try dsimp only at hSw); skip; go_simp; try with_reducible rfl)⟩) (by assumption) ?_
      try simp only [Act.put, List.setIfInBounds_toArray, List.set_cons_zero, List.set_cons_succ]
      refine wpAnyH_takeL (i := 7) (v := _) rfl (by kernel_rfl) (by kernel_rfl) (by kernel_rfl) (fun _ _ _ h => h) (Or.inl ⟨by rfl, (by intro w' hSw; (try dsimp only at hSw); skip; go_simp; try with_reducible rfl)⟩) (by assumption) ?_
      try simp only [Act.put, List.setIfInBounds_toArray, List.set_cons_zero, List.set_cons_succ]
      refine wpAnyH_takeL (i := 8) (v := _) rfl (by kernel_rfl) (by kernel_rfl) (by kernel_rfl) (fun _ _ _ h => h) (Or.inl ⟨by rfl, (by intro w' hSw; (try dsimp only at hSw); skip; go_simp; try with_reducible rfl)⟩) (by assumption) ?_
      try simp only [Act.put, List.setIfInBounds_toArray, List.set_cons_zero, List.set_cons_succ]
      refine wpAnyH_ready (rs := [4]) (by kernel_rfl) (by simp) ?_
      refine AllReadyH.consL (i := 4) rfl (fun K hK => ?_) AllReadyH.nil
      go_simp
      (refine (QA.out _ HDr.out).mono ?_; rintro e wG ⟨rfl, fG⟩; have HG := Lib.hid (HDr.out.trans fG (by simp [Ext])); clear fG)
      refine hK.out _ _ (KP.out _ HG.out) (fun hHeld => ?_)
      clear hK K
      try simp only [Act.put, List.setIfInBounds_toArray, List.set_cons_zero, List.set_cons_succ]
      refine wpAnyH_ready (rs := [9]) (by kernel_rfl) (by simp) ?_
      refine AllReadyH.consL (i := 9) rfl (fun K hK => ?_) AllReadyH.nil
      go_simp
      (refine (QB.out _ HG.out).mono ?_; rintro e wH ⟨rfl, fH⟩; have HH := Lib.hid (HG.out.trans fH (by simp [Ext])); clear fH)
      refine hK.out _ _ (KP.out _ HH.out) (fun hHeld => ?_)
      clear hK K
      try simp only [Act.put, List.setIfInBounds_toArray, List.set_cons_zero, List.set_cons_succ]
      refine wpAnyH_takeL (i := 10) (v := _) rfl (by kernel_rfl) (by kernel_rfl) (by kernel_rfl) (fun _ _ _ h => h) (Or.inl ⟨by rfl, (by intro w' hSw; (try dsimp only at hSw); skip; go_simp; try with_reducible rfl)⟩) (by assumption) ?_
      try simp only [Act.put, List.setIfInBounds_toArray, List.set_cons_zero, List.set_cons_succ]
      refine wpAnyH_takeL (i := 11) (v := _) rfl (by kernel_rfl) (by kernel_rfl) (by kernel_rfl) (fun _ _ _ h => h) (Or.inl ⟨by rfl, (by intro w' hSw; (try dsimp only at hSw); skip; go_simp; try with_reducible rfl)⟩) (by assumption) ?_
      try simp only [Act.put, List.setIfInBounds_toArray, List.set_cons_zero, List.set_cons_succ]
      refine wpAnyH_ready (rs := [12]) (by kernel_rfl) (by simp) ?_
      refine AllReadyH.consL (i := 12) rfl (fun K hK => ?_) AllReadyH.nil
      go_simp
      (refine (lives_any _).mono ?_; rintro e wL ⟨rfl, fL⟩; have HL := Lib.hid (HH.out.trans fL (by simp [Ext])); clear fL)
      refine hK.out _ _ (KP.out _ HL.out) (fun hHeld => ?_)
      clear hK K
      try simp only [Act.put, List.setIfInBounds_toArray, List.set_cons_zero, List.set_cons_succ]
      refine wpAnyH_takeL (i := 13) (v := _) rfl (by kernel_rfl) (by kernel_rfl) (by kernel_rfl) (fun _ _ _ h => h) (Or.inl ⟨by rfl, (by intro w' hSw; (try dsimp only at hSw); skip; go_simp; try with_reducible rfl)⟩) (by assumption) ?_
      try simp only [Act.put, List.setIfInBounds_toArray, List.set_cons_zero, List.set_cons_succ]
      refine wpAnyH_takeL (i := 14) (v := _) rfl (by kernel_rfl) (by kernel_rfl) (by kernel_rfl) (fun _ _ _ h => h) (Or.inl ⟨by rfl, (by intro w' hSw; (try dsimp only at hSw); skip; go_simp; try with_reducible rfl)⟩) (by assumption) ?_
      try simp only [Act.put, List.setIfInBounds_toArray, List.set_cons_zero, List.set_cons_succ]
      refine wpAnyH_done (by kernel_rfl) ?_ _
      clear hHeld
      go_wp2_with fail
      go_ret
      exact ⟨rfl, ((F1.out.trans F5.out (by simp [Ext])).trans HFW.out (by simp [Ext])).trans HL.out (by simp [Ext])⟩
end Go.Proofs.Ytdbngpncigjfiaa
