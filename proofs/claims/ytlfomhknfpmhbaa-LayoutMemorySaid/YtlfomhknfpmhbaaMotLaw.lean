/- LayoutMotion returns true. -/
import Derived.Deep.CutBlock
import Derived.Deep.DeepCutAuto
import Derived.Test.YtlfomhknfpmhbaaInitialL
import Derived.Test.YtlfomhknfpmhbaaIntsA
namespace Go.Proofs.Ytlfomhknfpmhbaa
open Go.RowKit

theorem motOf_five (s : St) (bodies : List Bd) (cells : List Int) (i : Int) : ∃ a b c d e : Int, motOf s bodies cells i = .agg #[.int .i64 a, .int .i64 b, .int .i64 c, .int .i64 d, .int .i64 e] := by
  unfold motOf
  by_cases h : motIn s cells i
  · rw [if_pos h]; exact ⟨_, _, _, _, _, rfl⟩
  · rw [if_neg h]; exact ⟨0, 0, 0, 0, 0, rfl⟩

/-- the long row: some row of n numbers in a new block -/
def LongR (w : World) (bu n : Nat) (wr : World) : Prop := ∃ C : List Int, C.length = n ∧ wr.heap[bu]? = some (row C) ∧ Fr [] w wr

set_option maxRecDepth 100000 in
set_option maxHeartbeats 8000000 in
theorem motlaw_walk (w : World) (lo : Option Addr) (lc : Nat) (l : List Int) (hl : Srci w lo lc l) (co : Option Addr) (cc : Nat) (c : List Int) (hc : Srci w co cc c) (i : Int) (hi : bounded i) :
    Calls Try.prog 8 #[.slice lo l.length lc, .slice co c.length cc, .int .i64 i] w fun e w' => e = .returned (.bool true) ∧ Fr [] w w' := by
  have HSU := Lib.hid (setup_any w lo lc l hl.rd hl.bnd)
  have HC := Lib.hid hc
  obtain ⟨ki, hki, -, hAI⟩ := around_nat i 6 hi (by omega) (by omega)
  have HAI := Lib.hid hAI
  clear hl hc hAI
  go_enter Try.func8, Try.ntmps8
  go_wp2_with fail
  refine HSU.out.mono ?_
  rintro e w1 ⟨s, bodies, doors, rfl, hs⟩
  have hok := hs.ok
  have F1 := Lib.hid hs.fr
  obtain ⟨pl, hpl⟩ : ∃ pl : Nat, s.players = (pl : Int) := ⟨s.players.toNat, by have := hs.num.1; omega⟩
  have hpl3 : pl ≤ 3 := by have := hs.num.1; omega
  have hpl1 : 1 ≤ pl := by have := hs.num.1; omega
  have h5 := hs.b5
  have hnbe := hs.nb
  have HBD := Lib.hid (⟨hnbe, hs.seg.rd⟩ : BodiesAt w1 s bodies)
  have HRI := Lib.hid (fun (u : World) (hf : Fr [] w1 u) => rinitial_any u s bodies hok pl hpl (by omega) (HBD.out.old hf) (by omega))
  obtain ⟨n, hn⟩ : ∃ n, n = 48 + 4 * pl + 8 * bodies.length := ⟨_, rfl⟩
  have HLL := Lib.hid ((initL_len pl bodies).trans hn.symm)
  have hn1 : n ≤ 1000 := by omega
  have hn0 : 48 ≤ n := by omega
  have HMO := Lib.hid (fun (u : World) (hf : Fr [] w1 u) (ao : Option Addr) (m ac : Nat) (x : List Int) (hm : x.length = m) (hm2 : m ≤ ac) (hac : ac ≤ maxLen) (hrd : Rd u 1 ao m (ints x)) (hml : m ≤ 1000) (v : Int) (r : Value) (hr : motOf s bodies x v = r) => (by
    subst hm
    have h := motion_any u s bodies ao ac x ⟨hok, by omega, HBD.out.old hf, hrd, hm2, hac⟩ (by omega) v
    rw [hr] at h
    exact h : Calls Try.prog 28 #[s.val, .slice ao m ac, .int .i64 v] u fun e w' => e = .returned r ∧ Fr [] u w'))
  have HMR := Lib.hid (fun (u : World) (hf : Fr [] w1 u) (ao : Option Addr) (m ac : Nat) (x : List Int) (hm : x.length = m) (hm2 : m ≤ ac) (hac : ac ≤ maxLen) (hrd : Rd u 1 ao m (ints x)) (hml : m ≤ 1000) (v : Int) (r : Value) (hr : motOf s bodies x v = r) => (by
    subst hm
    have h := rmotion_any u s bodies ao ac x ⟨hok, by omega, HBD.out.old hf, hrd, hm2, hac⟩ (by omega) v
    rw [hr] at h
    exact h : Calls Try.prog 29 #[s.val, .slice ao m ac, .int .i64 v] u fun e w' => e = .returned r ∧ Fr [] u w'))
  rw [← hn] at HRI
  obtain ⟨SC, hC⟩ : ∃ C : List Value, C = (stCells s).toList := ⟨_, rfl⟩
  have hval : s.val = .agg SC.toArray := by rw [hC]; rfl
  have hCl : (Try.prog.info? 31).map (·.size) = some SC.length := by rw [hC]; exact infoSetup
  have HCS := Lib.hid (by rw [hC]; rfl : SC.toArray.size = 16)
  have HC1 := Lib.hid (by rw [hC]; simp [stCells, Value.oneCell'] : SC.toArray.all (·.oneCell') = true)
  have hu := Try.underlying31
  rw [hval] at HRI HMO HMR ⊢
  clear hn hok hpl hs hnbe HBD hC hval
  obtain ⟨b7, hb7⟩ : ∃ b7, b7 = w1.heap.size := ⟨_, rfl⟩
  have HB7 := Lib.hid hb7
  go_wp2_with (refine wpList_storeB rfl 31 (Operand.tmp 7) (Operand.tmp 14) rfl w1.heap.size 16 SC.toArray rfl rfl _ 31 (by exact alloc_new _ _) rfl HCS.out infoSetup HC1.out ?_; intro w2 hb2 hf2; have F2 := Lib.hid (((Fr.refl [] w1).alloc _).trans hf2 (fun k hk => .inr (by simp at hk; omega))); have B2 := Lib.hid hb2; clear hb2 hf2)
  rw [← HB7.out] at B2 ⊢
  clear hb7 HB7
  refine (ints_any w2 co cc c 100 (HC.out.old (F1.out.trans F2.out (by simp [Ext]))) (by omega)).mono ?_
  rintro e w3 ⟨fo, fc, rfl, hfs, f3, -⟩
  obtain ⟨m, hm⟩ : ∃ m, m = (c.take 100).length := ⟨_, rfl⟩
  have hm1 : m ≤ 100 := by rw [hm, List.length_take]; omega
  obtain ⟨X, hX⟩ : ∃ X, X = c.take 100 := ⟨_, rfl⟩
  rw [← hX] at hfs hm
  rw [← hX, ← hm]
  rw [← hm] at hfs
  have hmc : m ≤ fc := hfs.2.2.1
  have HFC := Lib.hid hfs.2.1
  have HXL := Lib.hid hm.symm
  have HFS := Lib.hid hfs.rd
  have F3 := Lib.hid (F2.out.trans f3 (by simp [Ext]))
  have B3 := Lib.hid (f3.blk B2.out (by simp))
  clear hm hX hfs f3 F2 B2 HC
  go_wp2_with (refine wpList_loadB rfl 31 (Operand.tmp 7) rfl b7 16 rfl SC.toArray 31 (0, 0) B3.out _ Try.underlying31 rfl HCS.out infoSetup ?_)
  refine (HRI.out _ F3.out).mono ?_
  rintro e w4 ⟨bu, rfl, hbu, hr4, f4⟩
  have Q4 := Lib.hid (⟨_, HLL.out, hr4, f4⟩ : LongR w3 bu n w4)
  clear f4 hr4
  go_upto_block 0 with fail
  go_cut [] (fun wc => LongR w3 bu n wc)
  case first =>
    go_wp2_with fail
    go_loopw [10] (fun kv wr => ∃ k : Nat, k ≤ m ∧ k ≤ n ∧ kv = .int .i64 (k : Int) ∧ LongR w3 bu n wr) (fun kv _ => m - (intOf kv).toNat)
    case atStart => exact ⟨0, by omega, by omega, rfl, Q4.out⟩
    case round =>
      obtain ⟨k, hk, hkn, rfl, hq⟩ := hrel
      have HQ := Lib.hid hq
      clear hq Q4
      by_cases hin : k < m ∧ k < n
      · obtain ⟨hkm, hkn2⟩ := hin
        obtain ⟨j, hj⟩ : ∃ j : Nat, j = n - 1 - k := ⟨_, rfl⟩
        have hjn : j < n := by omega
        have hj1 : (n : Int) - 1 - (k : Int) = (j : Int) := by omega
        obtain ⟨C, hCl, hCr, hCf⟩ := HQ.out
        obtain ⟨y, cx⟩ : ∃ y, wr.cell? ⟨bu, j, none⟩ = some (.int .i64 y) := ⟨_, row_cell hCr (k := j) (by omega)⟩
        have fx := row_frozen hCr j
        obtain ⟨g, off, rfl, hg, hcx⟩ := (HFS.out.fr hCf (by simp)).at (by omega)
        obtain ⟨x, hx⟩ : ∃ x, x = X[k]'(by rw [HXL.out]; exact hkm) := ⟨_, rfl⟩
        have cf : wr.cell? ⟨g, off + k, none⟩ = some (.int .i64 x) := by
          rw [hcx k (by omega), ints_get, List.getElem?_eq_getElem (by rw [HXL.out]; exact hkm), ← hx]; rfl
        have HQ2 := Lib.hid (⟨C.set j x, by simpa using hCl, row_set hCr j x, hCf.setCell (p := ⟨bu, j, none⟩) (.inr hbu) _⟩ : LongR w3 bu n (wr.setCell ⟨bu, j, none⟩ (.int .i64 x)))
        have HJ := Lib.hid hj
        clear hCl hCr hCf hg hcx hx hj HQ
        go_wp2_with fail
        go_roundw
        case rel => exact ⟨k + 1, by omega, by omega, by go_num, HQ2.out⟩
        case measure => simp [intOf]; omega
      · have hex : (k < m ∧ ¬ k < n) ∨ ¬ k < m := by omega
        clear hin
        rcases hex with ⟨hkm, hkn2⟩ | hkm
        all_goals
          go_wp2_with fail
          go_meet
          exact HQ.out
  case rest =>
    clear Q4
    have HQ := Lib.hid hcut
    clear hcut
    go_wp2_with fail
    refine (HAI.out _).mono ?_
    rintro e w5 ⟨rfl, rfl⟩
    obtain ⟨C, hCl, hCr, hCf⟩ := HQ.out
    obtain ⟨IX, hIX⟩ : ∃ IX : Array Value, IX = #[.int .i64 i, .int .i64 (ki : Int)] := ⟨_, rfl⟩
    obtain ⟨wb, hwb⟩ : ∃ wb, wb = wc.alloc (.cells #[.int .i64 i, .int .i64 (ki : Int)] 3) := ⟨_, rfl⟩
    obtain ⟨bi, hbi⟩ : ∃ bi, bi = wc.heap.size := ⟨_, rfl⟩
    have HWE := Lib.hid hwb
    have HBI := Lib.hid hbi
    have FB := Lib.hid (by rw [hwb]; exact (F3.out.trans hCf (by simp [Ext])).alloc _ : Fr [] w1 wb)
    have HFB := Lib.hid (by rw [hwb]; exact HFS.out.fr (hCf.alloc _) (by simp) : Rd wb 1 fo m (ints X))
    have HCB := Lib.hid (by rw [hwb]; exact alloc_old hCr : wb.heap[bu]? = some (row C))
    have BB := Lib.hid (by rw [hwb]; exact alloc_old (hCf.blk B3.out (by simp)) : wb.heap[b7]? = some (.cells SC.toArray 31 (0, 0)))
    have BI := Lib.hid (by rw [hwb, hbi, hIX]; exact alloc_new wc _ : wb.heap[bi]? = some (.cells IX 3 (0, 0)))
    have HIX := Lib.hid hIX
    have HCL := Lib.hid hCl
    clear hIX hwb hbi hCl hCr hCf HQ
    go_wp2_with fail
    rw [← HWE.out, ← HBI.out]
    go_loopw [12] (fun kv wr => ∃ k : Nat, k ≤ 2 ∧ kv = .int .i64 (k : Int) ∧ Fr [] wb wr) (fun kv _ => 2 - (intOf kv).toNat)
    case atStart => exact ⟨0, by omega, rfl, Fr.refl _ _⟩
    case round =>
      clear HWE HBI
      obtain ⟨q, hq, rfl, hf⟩ := hrel
      have HF := Lib.hid hf
      clear hf
      by_cases hq2 : q < 2
      · obtain ⟨v, hv⟩ : ∃ v : Int, IX[q]? = some (.int .i64 v) := by
          rw [HIX.out]
          rcases (show q = 0 ∨ q = 1 by omega) with e | e <;> subst e <;> exact ⟨_, rfl⟩
        have HV := Lib.hid hv
        clear hv
        obtain ⟨a0, a1, a2, a3, a4, ha⟩ := motOf_five s bodies X v
        obtain ⟨g0, g1, g2, g3, g4, hg⟩ := motOf_five s bodies C v
        have HA := Lib.hid ha
        have HG := Lib.hid hg
        have hna := fun (u : World) => ne_motion u a0 a1 a2 a3 a4 a0 a1 a2 a3 a4
        have hng := fun (u : World) => ne_motion u g0 g1 g2 g3 g4 g0 g1 g2 g3 g4
        have hna2 : ∀ u, (binOp .neq 50 (.agg #[.int .i64 a0, .int .i64 a1, .int .i64 a2, .int .i64 a3, .int .i64 a4]) (.agg #[.int .i64 a0, .int .i64 a1, .int .i64 a2, .int .i64 a3, .int .i64 a4])).run Try.prog u = .ok (.bool false) u := fun u => by rw [hna]; simp
        have hng2 : ∀ u, (binOp .neq 50 (.agg #[.int .i64 g0, .int .i64 g1, .int .i64 g2, .int .i64 g3, .int .i64 g4]) (.agg #[.int .i64 g0, .int .i64 g1, .int .i64 g2, .int .i64 g3, .int .i64 g4])).run Try.prog u = .ok (.bool false) u := fun u => by rw [hng]; simp
        have K1 := Lib.hid (fun (u : World) (hf : Fr [] wb u) => HMO.out u (FB.out.trans hf (by simp [Ext])) fo m fc X HXL.out (by omega) HFC.out (HFB.out.fr hf (by simp)) (by omega) v _ HA.out)
        have K2 := Lib.hid (fun (u : World) (hf : Fr [] wb u) => HMR.out u (FB.out.trans hf (by simp [Ext])) fo m fc X HXL.out (by omega) HFC.out (HFB.out.fr hf (by simp)) (by omega) v _ HA.out)
        have K3 := Lib.hid (fun (u : World) (hf : Fr [] wb u) => HMO.out u (FB.out.trans hf (by simp [Ext])) (some ⟨bu, 0, none⟩) n n C HCL.out (by omega) (by unfold maxLen; omega) (by have h := (row_seg (hf.blk HCB.out (by simp)) (by rw [HCL.out]; unfold maxLen; omega)).rd; rw [HCL.out] at h; exact h) (by omega) v _ HG.out)
        have K4 := Lib.hid (fun (u : World) (hf : Fr [] wb u) => HMR.out u (FB.out.trans hf (by simp [Ext])) (some ⟨bu, 0, none⟩) n n C HCL.out (by omega) (by unfold maxLen; omega) (by have h := (row_seg (hf.blk HCB.out (by simp)) (by rw [HCL.out]; unfold maxLen; omega)).rd; rw [HCL.out] at h; exact h) (by omega) v _ HG.out)
        have KEEP := Lib.hid (fun (u : World) (hf : Fr [] wb u) => (⟨range_blk (c := SC.toArray) (hf.blk BB.out (by simp)), (cell_blk (hf.blk BI.out (by simp)) q).trans HV.out⟩ : u.rangeAt b7 0 SC ∧ u.cell? ⟨bi, q, none⟩ = some (.int .i64 v)))
        have HFd := Lib.hid (HF.out.drew)
        have hqq : (q : Int) < 2 := by omega
        clear ha hg hna hng
        have k0 := KEEP.out wr HF.out
        go_upto_region 12 with fail
        refine wp_region_held_drew (S := fun w' => w'.rangeAt b7 0 SC ∧ w'.cell? ⟨bi, q, none⟩ = some (.int .i64 v)) (by kernel_rfl) (KEEP.out _ HFd.out) (fun hHeld => ?_)
        refine wpAnyH_takeL (i := 0) (v := (.agg SC.toArray)) rfl (by kernel_rfl) (by kernel_rfl) (by kernel_rfl) (fun _ _ _ h => h) (yieldsIf_load_mid (by rfl) 31 (Operand.tmp 7) rfl b7 0 rfl SC _ (fun w' hw' => hw'.1) hu rfl hCl) (by assumption) ?_
        try simp only [Act.put, List.setIfInBounds_toArray, List.set_cons_zero, List.set_cons_succ]
        refine wpAnyH_takeL (i := 1) (v := _) rfl (by kernel_rfl) (by kernel_rfl) (by kernel_rfl) (fun _ _ _ h => h) (Or.inl ⟨by rfl, (by intro w' hSw; (try dsimp only at hSw); obtain ⟨g0, g1⟩ := hSw; go_simp; try with_reducible rfl)⟩) (by assumption) ?_
        try simp only [Act.put, List.setIfInBounds_toArray, List.set_cons_zero, List.set_cons_succ]
        refine wpAnyH_takeL (i := 2) (v := _) rfl (by kernel_rfl) (by kernel_rfl) (by kernel_rfl) (fun _ _ _ h => h) (Or.inl ⟨by rfl, (by intro w' hSw; (try dsimp only at hSw); obtain ⟨g0, g1⟩ := hSw; go_simp; try with_reducible rfl)⟩) (by assumption) ?_
        try simp only [Act.put, List.setIfInBounds_toArray, List.set_cons_zero, List.set_cons_succ]
        refine wpAnyH_takeL (i := 3) (v := _) rfl (by kernel_rfl) (by kernel_rfl) (by kernel_rfl) (fun _ _ _ h => h) (Or.inl ⟨by rfl, (by intro w' hSw; (try dsimp only at hSw); obtain ⟨g0, g1⟩ := hSw; go_simp; try with_reducible rfl)⟩) (by assumption) ?_
        try simp only [Act.put, List.setIfInBounds_toArray, List.set_cons_zero, List.set_cons_succ]
        refine wpAnyH_takeL (i := 4) (v := _) rfl (by kernel_rfl) (by kernel_rfl) (by kernel_rfl) (fun _ _ _ h => h) (Or.inl ⟨by rfl, (by intro w' hSw; (try dsimp only at hSw); obtain ⟨g0, g1⟩ := hSw; go_simp; try with_reducible rfl)⟩) (by assumption) ?_
        try simp only [Act.put, List.setIfInBounds_toArray, List.set_cons_zero, List.set_cons_succ]
        refine wpAnyH_takeL (i := 5) (v := _) rfl (by kernel_rfl) (by kernel_rfl) (by kernel_rfl) (fun _ _ _ h => h) (Or.inl ⟨by rfl, (by intro w' hSw; (try dsimp only at hSw); obtain ⟨g0, g1⟩ := hSw; go_simp; try with_reducible rfl)⟩) (by assumption) ?_
        try simp only [Act.put, List.setIfInBounds_toArray, List.set_cons_zero, List.set_cons_succ]
        refine wpAnyH_takeL (i := 7) (v := (.agg SC.toArray)) rfl (by kernel_rfl) (by kernel_rfl) (by kernel_rfl) (fun _ _ _ h => h) (yieldsIf_load_mid (by rfl) 31 (Operand.tmp 7) rfl b7 0 rfl SC _ (fun w' hw' => hw'.1) hu rfl hCl) (by assumption) ?_
        try simp only [Act.put, List.setIfInBounds_toArray, List.set_cons_zero, List.set_cons_succ]
        refine wpAnyH_takeL (i := 8) (v := _) rfl (by kernel_rfl) (by kernel_rfl) (by kernel_rfl) (fun _ _ _ h => h) (Or.inl ⟨by rfl, (by intro w' hSw; (try dsimp only at hSw); obtain ⟨g0, g1⟩ := hSw; go_simp; try with_reducible rfl)⟩) (by assumption) ?_
        try simp only [Act.put, List.setIfInBounds_toArray, List.set_cons_zero, List.set_cons_succ]
        refine wpAnyH_takeL (i := 9) (v := _) rfl (by kernel_rfl) (by kernel_rfl) (by kernel_rfl) (fun _ _ _ h => h) (Or.inl ⟨by rfl, (by intro w' hSw; (try dsimp only at hSw); obtain ⟨g0, g1⟩ := hSw; go_simp; try with_reducible rfl)⟩) (by assumption) ?_
        try simp only [Act.put, List.setIfInBounds_toArray, List.set_cons_zero, List.set_cons_succ]
        refine wpAnyH_takeL (i := 10) (v := _) rfl (by kernel_rfl) (by kernel_rfl) (by kernel_rfl) (fun _ _ _ h => h) (Or.inl ⟨by rfl, (by intro w' hSw; (try dsimp only at hSw); obtain ⟨g0, g1⟩ := hSw; go_simp; try with_reducible rfl)⟩) (by assumption) ?_
        try simp only [Act.put, List.setIfInBounds_toArray, List.set_cons_zero, List.set_cons_succ]
        refine wpAnyH_takeL (i := 11) (v := _) rfl (by kernel_rfl) (by kernel_rfl) (by kernel_rfl) (fun _ _ _ h => h) (Or.inl ⟨by rfl, (by intro w' hSw; (try dsimp only at hSw); obtain ⟨g0, g1⟩ := hSw; go_simp; try with_reducible rfl)⟩) (by assumption) ?_
        try simp only [Act.put, List.setIfInBounds_toArray, List.set_cons_zero, List.set_cons_succ]
        refine wpAnyH_takeL (i := 12) (v := _) rfl (by kernel_rfl) (by kernel_rfl) (by kernel_rfl) (fun _ _ _ h => h) (Or.inl ⟨by rfl, (by intro w' hSw; (try dsimp only at hSw); obtain ⟨g0, g1⟩ := hSw; go_simp; try with_reducible rfl)⟩) (by assumption) ?_
        try simp only [Act.put, List.setIfInBounds_toArray, List.set_cons_zero, List.set_cons_succ]
        refine wpAnyH_ready (rs := [6]) (by kernel_rfl) (by simp) ?_
        refine AllReadyH.consL (i := 6) rfl (fun K hK => ?_) AllReadyH.nil
        go_simp
        (refine (K1.out _ HFd.out).mono ?_; rintro e wA ⟨rfl, fA⟩; have FA1 := Lib.hid (HFd.out.trans fA (by simp [Ext])); clear fA)
        refine hK.out _ _ (KEEP.out _ FA1.out) (fun hHeld => ?_)
        clear hK K
        try simp only [Act.put, List.setIfInBounds_toArray, List.set_cons_zero, List.set_cons_succ]
        refine wpAnyH_ready (rs := [13]) (by kernel_rfl) (by simp) ?_
        refine AllReadyH.consL (i := 13) rfl (fun K hK => ?_) AllReadyH.nil
        go_simp
        (refine (K2.out _ FA1.out).mono ?_; rintro e wB ⟨rfl, fB⟩; have FA2 := Lib.hid (FA1.out.trans fB (by simp [Ext])); clear fB)
        refine hK.out _ _ (KEEP.out _ FA2.out) (fun hHeld => ?_)
        clear hK K
        try simp only [Act.put, List.setIfInBounds_toArray, List.set_cons_zero, List.set_cons_succ]
        refine wpAnyH_takeL (i := 14) (v := _) rfl (by kernel_rfl) (by kernel_rfl) (by kernel_rfl) (fun _ _ _ h => h) (Or.inl ⟨by rfl, (by intro w' hSw; (try dsimp only at hSw); obtain ⟨g0, g1⟩ := hSw; go_simp; try with_reducible rfl)⟩) (by assumption) ?_
        try simp only [Act.put, List.setIfInBounds_toArray, List.set_cons_zero, List.set_cons_succ]
        refine wpAnyH_takeL (i := 15) (v := _) rfl (by kernel_rfl) (by kernel_rfl) (by kernel_rfl) (fun _ _ _ h => h) (Or.inl ⟨by rfl, (by intro w' hSw; (try dsimp only at hSw); obtain ⟨g0, g1⟩ := hSw; go_simp; try with_reducible rfl)⟩) (by assumption) ?_
        try simp only [Act.put, List.setIfInBounds_toArray, List.set_cons_zero, List.set_cons_succ]
        refine wpAnyH_takeL (i := 16) (v := (.agg SC.toArray)) rfl (by kernel_rfl) (by kernel_rfl) (by kernel_rfl) (fun _ _ _ h => h) (yieldsIf_load_mid (by rfl) 31 (Operand.tmp 7) rfl b7 0 rfl SC _ (fun w' hw' => hw'.1) hu rfl hCl) (by assumption) ?_
        try simp only [Act.put, List.setIfInBounds_toArray, List.set_cons_zero, List.set_cons_succ]
        refine wpAnyH_takeL (i := 17) (v := _) rfl (by kernel_rfl) (by kernel_rfl) (by kernel_rfl) (fun _ _ _ h => h) (Or.inl ⟨by rfl, (by intro w' hSw; (try dsimp only at hSw); obtain ⟨g0, g1⟩ := hSw; go_simp; try with_reducible rfl)⟩) (by assumption) ?_
        try simp only [Act.put, List.setIfInBounds_toArray, List.set_cons_zero, List.set_cons_succ]
        refine wpAnyH_takeL (i := 18) (v := _) rfl (by kernel_rfl) (by kernel_rfl) (by kernel_rfl) (fun _ _ _ h => h) (Or.inl ⟨by rfl, (by intro w' hSw; (try dsimp only at hSw); obtain ⟨g0, g1⟩ := hSw; go_simp; try with_reducible rfl)⟩) (by assumption) ?_
        try simp only [Act.put, List.setIfInBounds_toArray, List.set_cons_zero, List.set_cons_succ]
        refine wpAnyH_takeL (i := 19) (v := _) rfl (by kernel_rfl) (by kernel_rfl) (by kernel_rfl) (fun _ _ _ h => h) (Or.inl ⟨by rfl, (by intro w' hSw; (try dsimp only at hSw); obtain ⟨g0, g1⟩ := hSw; go_simp; try with_reducible rfl)⟩) (by assumption) ?_
        try simp only [Act.put, List.setIfInBounds_toArray, List.set_cons_zero, List.set_cons_succ]
        refine wpAnyH_takeL (i := 20) (v := _) rfl (by kernel_rfl) (by kernel_rfl) (by kernel_rfl) (fun _ _ _ h => h) (Or.inl ⟨by rfl, (by intro w' hSw; (try dsimp only at hSw); obtain ⟨g0, g1⟩ := hSw; go_simp; try with_reducible rfl)⟩) (by assumption) ?_
        try simp only [Act.put, List.setIfInBounds_toArray, List.set_cons_zero, List.set_cons_succ]
        refine wpAnyH_takeL (i := 21) (v := _) rfl (by kernel_rfl) (by kernel_rfl) (by kernel_rfl) (fun _ _ _ h => h) (Or.inl ⟨by rfl, (by intro w' hSw; (try dsimp only at hSw); obtain ⟨g0, g1⟩ := hSw; go_simp; try with_reducible rfl)⟩) (by assumption) ?_
        try simp only [Act.put, List.setIfInBounds_toArray, List.set_cons_zero, List.set_cons_succ]
        refine wpAnyH_takeL (i := 23) (v := (.agg SC.toArray)) rfl (by kernel_rfl) (by kernel_rfl) (by kernel_rfl) (fun _ _ _ h => h) (yieldsIf_load_mid (by rfl) 31 (Operand.tmp 7) rfl b7 0 rfl SC _ (fun w' hw' => hw'.1) hu rfl hCl) (by assumption) ?_
        try simp only [Act.put, List.setIfInBounds_toArray, List.set_cons_zero, List.set_cons_succ]
        refine wpAnyH_takeL (i := 24) (v := _) rfl (by kernel_rfl) (by kernel_rfl) (by kernel_rfl) (fun _ _ _ h => h) (Or.inl ⟨by rfl, (by intro w' hSw; (try dsimp only at hSw); obtain ⟨g0, g1⟩ := hSw; go_simp; try with_reducible rfl)⟩) (by assumption) ?_
        try simp only [Act.put, List.setIfInBounds_toArray, List.set_cons_zero, List.set_cons_succ]
        refine wpAnyH_takeL (i := 25) (v := _) rfl (by kernel_rfl) (by kernel_rfl) (by kernel_rfl) (fun _ _ _ h => h) (Or.inl ⟨by rfl, (by intro w' hSw; (try dsimp only at hSw); obtain ⟨g0, g1⟩ := hSw; go_simp; try with_reducible rfl)⟩) (by assumption) ?_
        try simp only [Act.put, List.setIfInBounds_toArray, List.set_cons_zero, List.set_cons_succ]
        refine wpAnyH_takeL (i := 26) (v := _) rfl (by kernel_rfl) (by kernel_rfl) (by kernel_rfl) (fun _ _ _ h => h) (Or.inl ⟨by rfl, (by intro w' hSw; (try dsimp only at hSw); obtain ⟨g0, g1⟩ := hSw; go_simp; try with_reducible rfl)⟩) (by assumption) ?_
        try simp only [Act.put, List.setIfInBounds_toArray, List.set_cons_zero, List.set_cons_succ]
        refine wpAnyH_takeL (i := 27) (v := _) rfl (by kernel_rfl) (by kernel_rfl) (by kernel_rfl) (fun _ _ _ h => h) (Or.inl ⟨by rfl, (by intro w' hSw; (try dsimp only at hSw); obtain ⟨g0, g1⟩ := hSw; go_simp; try with_reducible rfl)⟩) (by assumption) ?_
        try simp only [Act.put, List.setIfInBounds_toArray, List.set_cons_zero, List.set_cons_succ]
        refine wpAnyH_takeL (i := 28) (v := _) rfl (by kernel_rfl) (by kernel_rfl) (by kernel_rfl) (fun _ _ _ h => h) (Or.inl ⟨by rfl, (by intro w' hSw; (try dsimp only at hSw); obtain ⟨g0, g1⟩ := hSw; go_simp; try with_reducible rfl)⟩) (by assumption) ?_
        try simp only [Act.put, List.setIfInBounds_toArray, List.set_cons_zero, List.set_cons_succ]
        refine wpAnyH_ready (rs := [22]) (by kernel_rfl) (by simp) ?_
        refine AllReadyH.consL (i := 22) rfl (fun K hK => ?_) AllReadyH.nil
        go_simp
        (refine (K3.out _ FA2.out).mono ?_; rintro e wC ⟨rfl, fC⟩; have FA3 := Lib.hid (FA2.out.trans fC (by simp [Ext])); clear fC)
        refine hK.out _ _ (KEEP.out _ FA3.out) (fun hHeld => ?_)
        clear hK K
        try simp only [Act.put, List.setIfInBounds_toArray, List.set_cons_zero, List.set_cons_succ]
        refine wpAnyH_ready (rs := [29]) (by kernel_rfl) (by simp) ?_
        refine AllReadyH.consL (i := 29) rfl (fun K hK => ?_) AllReadyH.nil
        go_simp
        (refine (K4.out _ FA3.out).mono ?_; rintro e wD ⟨rfl, fD⟩; have FA4 := Lib.hid (FA3.out.trans fD (by simp [Ext])); clear fD)
        refine hK.out _ _ (KEEP.out _ FA4.out) (fun hHeld => ?_)
        clear hK K
        try simp only [Act.put, List.setIfInBounds_toArray, List.set_cons_zero, List.set_cons_succ]
        refine wpAnyH_takeL (i := 30) (v := _) rfl (by kernel_rfl) (by kernel_rfl) (by kernel_rfl) (fun _ _ _ h => h) (Or.inl ⟨by rfl, (by intro w' hSw; (try dsimp only at hSw); obtain ⟨g0, g1⟩ := hSw; go_simp; try with_reducible rfl)⟩) (by assumption) ?_
        try simp only [Act.put, List.setIfInBounds_toArray, List.set_cons_zero, List.set_cons_succ]
        refine wpAnyH_takeL (i := 31) (v := _) rfl (by kernel_rfl) (by kernel_rfl) (by kernel_rfl) (fun _ _ _ h => h) (Or.inl ⟨by rfl, (by intro w' hSw; (try dsimp only at hSw); obtain ⟨g0, g1⟩ := hSw; go_simp; try with_reducible rfl)⟩) (by assumption) ?_
        try simp only [Act.put, List.setIfInBounds_toArray, List.set_cons_zero, List.set_cons_succ]
        refine wpAnyH_done (by kernel_rfl) ?_ _
        go_wp2_with fail
        go_roundw
        case rel => exact ⟨q + 1, by omega, by go_num, FA4.out⟩
        case measure => simp [intOf]; omega
      · go_wp2_with fail
        refine (lives_any _).mono ?_
        rintro e w9 ⟨rfl, f9⟩
        have F9 := Lib.hid ((F1.out.trans (FB.out.trans HF.out (by simp [Ext])) (by simp [Ext])).trans f9 (by simp [Ext]))
        clear f9
        go_wp2_with fail
        go_ret
        exact ⟨rfl, F9.out⟩
end Go.Proofs.Ytlfomhknfpmhbaa
