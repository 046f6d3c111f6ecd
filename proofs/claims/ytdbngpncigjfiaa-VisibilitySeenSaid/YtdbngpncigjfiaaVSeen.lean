/- VisibilitySeen returns true (written by genlaw27.py). -/
import Derived.Test.YtdbngpncigjfiaaLaw27
namespace Go.Proofs.Ytdbngpncigjfiaa
open Go.RowKit

set_option maxRecDepth 100000 in
set_option maxHeartbeats 16000000 in
theorem vseen_walk (w : World) (lo : Option Addr) (lc : Nat) (l : List Int) (hl : Srci w lo lc l) (mo : Option Addr) (mc : Nat) (m : List Int) (hm : Srci w mo mc m) (ao : Option Addr) (ac : Nat) (a : List Int) (hat : Srci w ao ac a) (player body : Int) :
    Calls Try.prog 4 #[.slice lo l.length lc, .slice mo m.length mc, .slice ao a.length ac, .int .i64 player, .int .i64 body] w fun e w' => e = .returned (.bool true) ∧ Fr [] w w' := by
  have HSU := Lib.hid (set27_any w lo lc l hl.rd hl.bnd mo mc m hm.rd hm.bnd)
  have HAT := Lib.hid hat
  clear hl hm hat
  go_enter Try.func4, Try.ntmps4
  go_wp2_with fail
  refine HSU.out.mono ?_
  rintro e w1 ⟨s, bodies, rooms, doors, rfl, hs⟩
  have HS := Lib.hid hs
  have F1 := Lib.hid hs.fr
  have hr5 := hs.r5
  obtain ⟨C, hC⟩ := cAt s
  have HCS := Lib.hid hC.size
  have HV := Lib.hid hC.val
  have HC := Lib.hid hC
  have hCl : (Try.prog.info? 31).map (·.size) = some C.toList.length := by rw [Array.length_toList, hC.size]; exact infoSetup
  have HO := Lib.hid (by have h := hC.val; unfold St.val at h; injection h with h; rw [← h]; simp [Value.oneCell'] : C.all (·.oneCell') = true)
  obtain ⟨b1, hb1⟩ : ∃ b1, b1 = w1.heap.size := ⟨_, rfl⟩
  have HB1 := Lib.hid hb1
  rw [HV.out]
  have HCL0 := Lib.hid hCl
  clear hs hb1 hC HSU hCl
  go_upto_region 2 with (refine wpList_storeB rfl 31 (Operand.tmp 11) (Operand.tmp 17) rfl w1.heap.size 16 C rfl rfl _ 31 (by exact alloc_new _ _) rfl HCS.out infoSetup HO.out ?_; intro w2 hb2 hf2; have F2 := Lib.hid (((Fr.refl [] w1).alloc _).trans hf2 (fun k hk => .inr (by simp at hk; omega))); have B2 := Lib.hid (by rw [HB1.out]; exact hb2 : w2.heap[b1]? = some (.cells C 31 (0, 0))); clear hb2 hf2)
  rw [← HB1.out]
  obtain ⟨pl, hpl⟩ : ∃ pl : Nat, s.players = (pl : Int) := ⟨s.players.toNat, by have := HS.out.pl; omega⟩
  have hpl3 : 1 ≤ pl ∧ pl ≤ 3 := by have := HS.out.pl; omega
  have hpn : pl ≤ bodies.length := by have := HS.out.pn; omega
  have hb5 := HS.out.b5
  have HPL := Lib.hid hpl
  obtain ⟨nb, hnb⟩ : ∃ nb, nb = bodies.length := ⟨_, rfl⟩
  have HNB := Lib.hid hnb
  have HSN := Lib.hid (HS.out.nb.trans hnb.symm)
  obtain ⟨n, hn⟩ : ∃ n, n = 48 + 4 * pl + 8 * bodies.length := ⟨_, rfl⟩
  have HN := Lib.hid hn
  have HCE := Lib.hid (fun u (hu : Fr [] w1 u) => (by
    rw [← HV.out]
    exact cells27_any u s bodies HS.out.ok pl hpl hpl3.2 (HS.out.bd hu) hb5 HS.out.good ao ac a ((HAT.out.old F1.out).old hu).rd HAT.out.bnd n hn : Calls Try.prog 18 #[.agg C, .slice ao a.length ac] u (Cells27To u pl bodies.length n)))
  rw [← hnb] at hpn hb5
  clear hpl hn hnb
  go_wp2_with (refine wpList_loadB rfl 31 (Operand.tmp 11) rfl b1 16 rfl C 31 (0, 0) B2.out _ Try.underlying31 rfl HCS.out infoSetup ?_)
  refine (HCE.out w2 F2.out).mono ?_
  rintro e w5 ⟨bc, cells, rfl, hcl, hrow, hbc, f5, hsm, hpo⟩
  have HCL := Lib.hid hcl
  have HROW := Lib.hid hrow
  have F5 := Lib.hid (F2.out.trans f5 (by simp [Ext]))
  have B5 := Lib.hid (f5.blk B2.out (by simp))
  have HSM := Lib.hid hsm
  have HPO := Lib.hid hpo
  have hb1c : b1 < bc := by have := lt_of_blk B2.out; omega
  have VP := Lib.hid (fun u (hu : Fr [] w5 u) => HS.out.vpre (F5.out.trans hu (by simp [Ext])) HPL.out HN.out (hu.blk HROW.out (by simp)) HCL.out HPO.out)
  have KEEP := Lib.hid (fun u (hu : Fr [] w5 u) => (hu.blk B5.out (by simp) : u.heap[b1]? = some (.cells C 31 (0, 0))))
  clear hcl hrow hsm hpo f5 HCE hbc
  have QSeen := Lib.hid (fun u (hu : Fr [] w5 u) (k : Int) => (by have h := seen_any (VP.out u hu) k; rw [HV.out, HCL.out] at h; exact h : Calls Try.prog 19 #[.agg C, .slice (some ⟨bc, 0, none⟩) n n, .int .i64 k] u (IntsTo u (seenL s rooms doors cells k))))
  have QRSeen := Lib.hid (fun u (hu : Fr [] w5 u) (k : Int) => (by have h := rseen_any (VP.out u hu) k; rw [HV.out, HCL.out] at h; exact h : Calls Try.prog 20 #[.agg C, .slice (some ⟨bc, 0, none⟩) n n, .int .i64 k] u (IntsTo u (seenL s rooms doors cells k))))
  have QSees := Lib.hid (fun u (hu : Fr [] w5 u) (k i : Int) => (by have h := sees_any (VP.out u hu) k i; rw [HV.out, HCL.out] at h; exact h : Calls Try.prog 21 #[.agg C, .slice (some ⟨bc, 0, none⟩) n n, .int .i64 k, .int .i64 i] u (fun e w' => e = .returned (.bool (seesB s rooms doors cells k i)) ∧ Fr [] u w')))
  have QRSees := Lib.hid (fun u (hu : Fr [] w5 u) (k i : Int) => (by have h := rsees_any (VP.out u hu) k i; rw [HV.out, HCL.out] at h; exact h : Calls Try.prog 22 #[.agg C, .slice (some ⟨bc, 0, none⟩) n n, .int .i64 k, .int .i64 i] u (fun e w' => e = .returned (.bool (seesB s rooms doors cells k i)) ∧ Fr [] u w')))
  have K0 := Lib.hid (fun u (hu : Fr [] w5 u) => (by have h := cell_blk (KEEP.out u hu) 0; rw [h, HC.out.c0, HPL.out] : u.cell? ⟨b1, 0, none⟩ = some (.int .i64 (pl : Int))))
  have K1 := Lib.hid (fun u (hu : Fr [] w5 u) => (by have h := cell_blk (KEEP.out u hu) 1; rw [h, HC.out.c1, HSN.out] : u.cell? ⟨b1, 1, none⟩ = some (.slice s.bo nb s.bc)))
  go_wp2_with fail
  go_loopw [13] (fun iv wr => ∃ k : Int, -1 ≤ k ∧ k ≤ (pl : Int) + 1 ∧ iv = .int .i64 k ∧ Fr [] w5 wr) (fun iv _ => ((pl : Int) + 1 - intOf iv).toNat)
  case atStart => exact ⟨-1, by omega, by omega, rfl, Fr.refl _ _⟩
  case round =>
    obtain ⟨k, hk0, hk1, rfl, hf⟩ := hrel
    have HF := Lib.hid hf
    have c0 := K0.out wr hf
    clear hf
    by_cases hle : k ≤ (pl : Int)
    · have HDr := Lib.hid (HF.out.drew)
      go_upto_region 6 with fail
      refine wp_region_held_drew (S := fun u => u.heap[b1]? = some (.cells C 31 (0, 0))) (by kernel_rfl) (KEEP.out _ HDr.out) (fun hHeld => ?_)
      refine wpAnyH_takeL (i := 0) (v := (.agg C)) rfl (by kernel_rfl) (by kernel_rfl) (by kernel_rfl) (fun _ _ _ h => h) (yieldsIf_load_mid (by rfl) 31 (Operand.tmp 11) rfl b1 0 rfl C.toList _ (fun w' hw' => range_blk (c := C) hw') Try.underlying31 rfl HCL0.out) (by assumption) ?_
      try simp only [Act.put, List.setIfInBounds_toArray, List.set_cons_zero, List.set_cons_succ]
      refine wpAnyH_takeL (i := 1) (v := _) rfl (by kernel_rfl) (by kernel_rfl) (by kernel_rfl) (fun _ _ _ h => h) (Or.inl ⟨by rfl, (by intro w' hSw; (try dsimp only at hSw); skip; go_simp; try with_reducible rfl)⟩) (by assumption) ?_
      try simp only [Act.put, List.setIfInBounds_toArray, List.set_cons_zero, List.set_cons_succ]
      refine wpAnyH_takeL (i := 2) (v := _) rfl (by kernel_rfl) (by kernel_rfl) (by kernel_rfl) (fun _ _ _ h => h) (Or.inl ⟨by rfl, (by intro w' hSw; (try dsimp only at hSw); skip; go_simp; try with_reducible rfl)⟩) (by assumption) ?_
      try simp only [Act.put, List.setIfInBounds_toArray, List.set_cons_zero, List.set_cons_succ]
      refine wpAnyH_takeL (i := 4) (v := (.agg C)) rfl (by kernel_rfl) (by kernel_rfl) (by kernel_rfl) (fun _ _ _ h => h) (yieldsIf_load_mid (by rfl) 31 (Operand.tmp 11) rfl b1 0 rfl C.toList _ (fun w' hw' => range_blk (c := C) hw') Try.underlying31 rfl HCL0.out) (by assumption) ?_
      try simp only [Act.put, List.setIfInBounds_toArray, List.set_cons_zero, List.set_cons_succ]
      refine wpAnyH_takeL (i := 5) (v := _) rfl (by kernel_rfl) (by kernel_rfl) (by kernel_rfl) (fun _ _ _ h => h) (Or.inl ⟨by rfl, (by intro w' hSw; (try dsimp only at hSw); skip; go_simp; try with_reducible rfl)⟩) (by assumption) ?_
      try simp only [Act.put, List.setIfInBounds_toArray, List.set_cons_zero, List.set_cons_succ]
      refine wpAnyH_takeL (i := 6) (v := _) rfl (by kernel_rfl) (by kernel_rfl) (by kernel_rfl) (fun _ _ _ h => h) (Or.inl ⟨by rfl, (by intro w' hSw; (try dsimp only at hSw); skip; go_simp; try with_reducible rfl)⟩) (by assumption) ?_
      try simp only [Act.put, List.setIfInBounds_toArray, List.set_cons_zero, List.set_cons_succ]
      refine wpAnyH_ready (rs := [3]) (by kernel_rfl) (by simp) ?_
      refine AllReadyH.consL (i := 3) rfl (fun K hK => ?_) AllReadyH.nil
      go_simp
      (refine (QSeen.out _ HDr.out k).mono ?_; rintro e wA ⟨oA, cA, rfl, hsA, fA, -⟩; have HA := Lib.hid (HDr.out.trans fA (by simp [Ext])); have SA := Lib.hid hsA; clear fA hsA)
      refine hK.out _ _ (KEEP.out _ HA.out) (fun hHeld => ?_)
      clear hK K
      try simp only [Act.put, List.setIfInBounds_toArray, List.set_cons_zero, List.set_cons_succ]
      refine wpAnyH_ready (rs := [7]) (by kernel_rfl) (by simp) ?_
      refine AllReadyH.consL (i := 7) rfl (fun K hK => ?_) AllReadyH.nil
      go_simp
      (refine (QRSeen.out _ HA.out k).mono ?_; rintro e wB ⟨oB, cB, rfl, hsB, fB, -⟩; have HB := Lib.hid (HA.out.trans fB (by simp [Ext])); have SB := Lib.hid hsB; have SA2 := Lib.hid (SA.out.fr fB (by simp)); clear fB hsB)
      refine hK.out _ _ (KEEP.out _ HB.out) (fun hHeld => ?_)
      clear hK K
      try simp only [Act.put, List.setIfInBounds_toArray, List.set_cons_zero, List.set_cons_succ]
      refine wpAnyH_ready (rs := [8]) (by kernel_rfl) (by simp) ?_
      refine AllReadyH.consL (i := 8) rfl (fun K hK => ?_) AllReadyH.nil
      go_simp
      (refine (same_yes _ oA oB cA cB _ SA2.out.rd SB.out.rd).mono ?_; rintro e wE ⟨rfl, kE⟩; have HE := Lib.hid (HB.out.trans (drewFr kE) (by simp [Ext])); clear kE)
      refine hK.out _ _ (KEEP.out _ HE.out) (fun hHeld => ?_)
      clear hK K
      try simp only [Act.put, List.setIfInBounds_toArray, List.set_cons_zero, List.set_cons_succ]
      refine wpAnyH_takeL (i := 9) (v := _) rfl (by kernel_rfl) (by kernel_rfl) (by kernel_rfl) (fun _ _ _ h => h) (Or.inl ⟨by rfl, (by intro w' hSw; (try dsimp only at hSw); skip; go_simp; try with_reducible rfl)⟩) (by assumption) ?_
      try simp only [Act.put, List.setIfInBounds_toArray, List.set_cons_zero, List.set_cons_succ]
      refine wpAnyH_done (by kernel_rfl) ?_ _
      clear hHeld c0
      go_wp2_with fail
      obtain ⟨wo, rfl⟩ : ∃ wo : World, wo = wr := ⟨_, rfl⟩
      go_loopw [14] (fun iv wr => ∃ i : Int, -1 ≤ i ∧ i ≤ (nb : Int) + 1 ∧ iv = .int .i64 i ∧ Fr [] w5 wr) (fun iv _ => ((nb : Int) + 1 - intOf iv).toNat)
      case atStart => exact ⟨-1, by omega, by omega, rfl, HE.out⟩
      case round =>
        obtain ⟨i, hi0, hi1, rfl, hf⟩ := hrel
        have HF2 := Lib.hid hf
        have c1 := K1.out wr hf
        clear hf
        by_cases hli : i ≤ (nb : Int)
        · have HDr2 := Lib.hid (HF2.out.drew)
          have hss : (seesB s rooms doors cells k i != seesB s rooms doors cells k i) = false := by simp
          go_upto_region 11 with fail
          refine wp_region_held_drew (S := fun u => u.heap[b1]? = some (.cells C 31 (0, 0))) (by kernel_rfl) (KEEP.out _ HDr2.out) (fun hHeld => ?_)
          refine wpAnyH_takeL (i := 0) (v := (.agg C)) rfl (by kernel_rfl) (by kernel_rfl) (by kernel_rfl) (fun _ _ _ h => h) (yieldsIf_load_mid (by rfl) 31 (Operand.tmp 11) rfl b1 0 rfl C.toList _ (fun w' hw' => range_blk (c := C) hw') Try.underlying31 rfl HCL0.out) (by assumption) ?_
          try simp only [Act.put, List.setIfInBounds_toArray, List.set_cons_zero, List.set_cons_succ]
          refine wpAnyH_takeL (i := 1) (v := _) rfl (by kernel_rfl) (by kernel_rfl) (by kernel_rfl) (fun _ _ _ h => h) (Or.inl ⟨by rfl, (by intro w' hSw; (try dsimp only at hSw); skip; go_simp; try with_reducible rfl)⟩) (by assumption) ?_
          try simp only [Act.put, List.setIfInBounds_toArray, List.set_cons_zero, List.set_cons_succ]
          refine wpAnyH_takeL (i := 2) (v := _) rfl (by kernel_rfl) (by kernel_rfl) (by kernel_rfl) (fun _ _ _ h => h) (Or.inl ⟨by rfl, (by intro w' hSw; (try dsimp only at hSw); skip; go_simp; try with_reducible rfl)⟩) (by assumption) ?_
          try simp only [Act.put, List.setIfInBounds_toArray, List.set_cons_zero, List.set_cons_succ]
          refine wpAnyH_takeL (i := 3) (v := _) rfl (by kernel_rfl) (by kernel_rfl) (by kernel_rfl) (fun _ _ _ h => h) (Or.inl ⟨by rfl, (by intro w' hSw; (try dsimp only at hSw); skip; go_simp; try with_reducible rfl)⟩) (by assumption) ?_
          try simp only [Act.put, List.setIfInBounds_toArray, List.set_cons_zero, List.set_cons_succ]
          refine wpAnyH_takeL (i := 5) (v := (.agg C)) rfl (by kernel_rfl) (by kernel_rfl) (by kernel_rfl) (fun _ _ _ h => h) (yieldsIf_load_mid (by rfl) 31 (Operand.tmp 11) rfl b1 0 rfl C.toList _ (fun w' hw' => range_blk (c := C) hw') Try.underlying31 rfl HCL0.out) (by assumption) ?_
          try simp only [Act.put, List.setIfInBounds_toArray, List.set_cons_zero, List.set_cons_succ]
          refine wpAnyH_takeL (i := 6) (v := _) rfl (by kernel_rfl) (by kernel_rfl) (by kernel_rfl) (fun _ _ _ h => h) (Or.inl ⟨by rfl, (by intro w' hSw; (try dsimp only at hSw); skip; go_simp; try with_reducible rfl)⟩) (by assumption) ?_
          try simp only [Act.put, List.setIfInBounds_toArray, List.set_cons_zero, List.set_cons_succ]
          refine wpAnyH_takeL (i := 7) (v := _) rfl (by kernel_rfl) (by kernel_rfl) (by kernel_rfl) (fun _ _ _ h => h) (Or.inl ⟨by rfl, (by intro w' hSw; (try dsimp only at hSw); skip; go_simp; try with_reducible rfl)⟩) (by assumption) ?_
          try simp only [Act.put, List.setIfInBounds_toArray, List.set_cons_zero, List.set_cons_succ]
          refine wpAnyH_takeL (i := 8) (v := _) rfl (by kernel_rfl) (by kernel_rfl) (by kernel_rfl) (fun _ _ _ h => h) (Or.inl ⟨by rfl, (by intro w' hSw; (try dsimp only at hSw); skip; go_simp; try with_reducible rfl)⟩) (by assumption) ?_
          try simp only [Act.put, List.setIfInBounds_toArray, List.set_cons_zero, List.set_cons_succ]
          refine wpAnyH_ready (rs := [4]) (by kernel_rfl) (by simp) ?_
          refine AllReadyH.consL (i := 4) rfl (fun K hK => ?_) AllReadyH.nil
          go_simp
          (refine (QSees.out _ HDr2.out k i).mono ?_; rintro e wG ⟨rfl, fG⟩; have HG := Lib.hid (HDr2.out.trans fG (by simp [Ext])); clear fG)
          refine hK.out _ _ (KEEP.out _ HG.out) (fun hHeld => ?_)
          clear hK K
          try simp only [Act.put, List.setIfInBounds_toArray, List.set_cons_zero, List.set_cons_succ]
          refine wpAnyH_ready (rs := [9]) (by kernel_rfl) (by simp) ?_
          refine AllReadyH.consL (i := 9) rfl (fun K hK => ?_) AllReadyH.nil
          go_simp
          (refine (QRSees.out _ HG.out k i).mono ?_; rintro e wH ⟨rfl, fH⟩; have HH := Lib.hid (HG.out.trans fH (by simp [Ext])); clear fH)
          refine hK.out _ _ (KEEP.out _ HH.out) (fun hHeld => ?_)
          clear hK K
          try simp only [Act.put, List.setIfInBounds_toArray, List.set_cons_zero, List.set_cons_succ]
          refine wpAnyH_takeL (i := 10) (v := _) rfl (by kernel_rfl) (by kernel_rfl) (by kernel_rfl) (fun _ _ _ h => h) (Or.inl ⟨by rfl, (by intro w' hSw; (try dsimp only at hSw); skip; go_simp; try with_reducible rfl)⟩) (by assumption) ?_
          try simp only [Act.put, List.setIfInBounds_toArray, List.set_cons_zero, List.set_cons_succ]
          refine wpAnyH_done (by kernel_rfl) ?_ _
          clear hHeld c1
          go_wp2_with fail
          go_roundw
          case rel => exact ⟨i + 1, by omega, by omega, rfl, HH.out⟩
          case measure => simp [intOf]; omega
        · go_wp2_with fail
          go_roundw
          case rel => exact ⟨k + 1, by omega, by omega, rfl, HF2.out⟩
          case measure => simp [intOf]; omega
    · have HDr3 := Lib.hid (HF.out.drew)
      have hss : (seesB s rooms doors cells player body == seesB s rooms doors cells player body) = true := by simp
      go_upto_region 13 with fail
      refine wp_region_held_drew (S := fun u => u.heap[b1]? = some (.cells C 31 (0, 0))) (by kernel_rfl) (KEEP.out _ HDr3.out) (fun hHeld => ?_)
      refine wpAnyH_takeL (i := 0) (v := (.agg C)) rfl (by kernel_rfl) (by kernel_rfl) (by kernel_rfl) (fun _ _ _ h => h) (yieldsIf_load_mid (by rfl) 31 (Operand.tmp 11) rfl b1 0 rfl C.toList _ (fun w' hw' => range_blk (c := C) hw') Try.underlying31 rfl HCL0.out) (by assumption) ?_
      try simp only [Act.put, List.setIfInBounds_toArray, List.set_cons_zero, List.set_cons_succ]
      refine wpAnyH_takeL (i := 1) (v := _) rfl (by kernel_rfl) (by kernel_rfl) (by kernel_rfl) (fun _ _ _ h => h) (Or.inl ⟨by rfl, (by intro w' hSw; (try dsimp only at hSw); skip; go_simp; try with_reducible rfl)⟩) (by assumption) ?_
      try simp only [Act.put, List.setIfInBounds_toArray, List.set_cons_zero, List.set_cons_succ]
      refine wpAnyH_takeL (i := 2) (v := _) rfl (by kernel_rfl) (by kernel_rfl) (by kernel_rfl) (fun _ _ _ h => h) (Or.inl ⟨by rfl, (by intro w' hSw; (try dsimp only at hSw); skip; go_simp; try with_reducible rfl)⟩) (by assumption) ?_
      try simp only [Act.put, List.setIfInBounds_toArray, List.set_cons_zero, List.set_cons_succ]
      refine wpAnyH_takeL (i := 3) (v := _) rfl (by kernel_rfl) (by kernel_rfl) (by kernel_rfl) (fun _ _ _ h => h) (Or.inl ⟨by rfl, (by intro w' hSw; (try dsimp only at hSw); skip; go_simp; try with_reducible rfl)⟩) (by assumption) ?_
      try simp only [Act.put, List.setIfInBounds_toArray, List.set_cons_zero, List.set_cons_succ]
      refine wpAnyH_takeL (i := 5) (v := (.agg C)) rfl (by kernel_rfl) (by kernel_rfl) (by kernel_rfl) (fun _ _ _ h => h) (yieldsIf_load_mid (by rfl) 31 (Operand.tmp 11) rfl b1 0 rfl C.toList _ (fun w' hw' => range_blk (c := C) hw') Try.underlying31 rfl HCL0.out) (by assumption) ?_
      try simp only [Act.put, List.setIfInBounds_toArray, List.set_cons_zero, List.set_cons_succ]
      refine wpAnyH_takeL (i := 6) (v := _) rfl (by kernel_rfl) (by kernel_rfl) (by kernel_rfl) (fun _ _ _ h => h) (Or.inl ⟨by rfl, (by intro w' hSw; (try dsimp only at hSw); skip; go_simp; try with_reducible rfl)⟩) (by assumption) ?_
      try simp only [Act.put, List.setIfInBounds_toArray, List.set_cons_zero, List.set_cons_succ]
      refine wpAnyH_takeL (i := 7) (v := _) rfl (by kernel_rfl) (by kernel_rfl) (by kernel_rfl) (fun _ _ _ h => h) (Or.inl ⟨by rfl, (by intro w' hSw; (try dsimp only at hSw); skip; go_simp; try with_reducible rfl)⟩) (by assumption) ?_
      try simp only [Act.put, List.setIfInBounds_toArray, List.set_cons_zero, List.set_cons_succ]
      refine wpAnyH_takeL (i := 8) (v := _) rfl (by kernel_rfl) (by kernel_rfl) (by kernel_rfl) (fun _ _ _ h => h) (Or.inl ⟨by rfl, (by intro w' hSw; (try dsimp only at hSw); skip; go_simp; try with_reducible rfl)⟩) (by assumption) ?_
      try simp only [Act.put, List.setIfInBounds_toArray, List.set_cons_zero, List.set_cons_succ]
      refine wpAnyH_ready (rs := [4]) (by kernel_rfl) (by simp) ?_
      refine AllReadyH.consL (i := 4) rfl (fun K hK => ?_) AllReadyH.nil
      go_simp
      (refine (QSees.out _ HDr3.out player body).mono ?_; rintro e wI ⟨rfl, fI⟩; have HI := Lib.hid (HDr3.out.trans fI (by simp [Ext])); clear fI)
      refine hK.out _ _ (KEEP.out _ HI.out) (fun hHeld => ?_)
      clear hK K
      try simp only [Act.put, List.setIfInBounds_toArray, List.set_cons_zero, List.set_cons_succ]
      refine wpAnyH_ready (rs := [9]) (by kernel_rfl) (by simp) ?_
      refine AllReadyH.consL (i := 9) rfl (fun K hK => ?_) AllReadyH.nil
      go_simp
      (refine (QRSees.out _ HI.out player body).mono ?_; rintro e wJ ⟨rfl, fJ⟩; have HJ := Lib.hid (HI.out.trans fJ (by simp [Ext])); clear fJ)
      refine hK.out _ _ (KEEP.out _ HJ.out) (fun hHeld => ?_)
      clear hK K
      try simp only [Act.put, List.setIfInBounds_toArray, List.set_cons_zero, List.set_cons_succ]
      refine wpAnyH_takeL (i := 10) (v := _) rfl (by kernel_rfl) (by kernel_rfl) (by kernel_rfl) (fun _ _ _ h => h) (Or.inl ⟨by rfl, (by intro w' hSw; (try dsimp only at hSw); skip; go_simp; try with_reducible rfl)⟩) (by assumption) ?_
      try simp only [Act.put, List.setIfInBounds_toArray, List.set_cons_zero, List.set_cons_succ]
      refine wpAnyH_takeL (i := 11) (v := _) rfl (by kernel_rfl) (by kernel_rfl) (by kernel_rfl) (fun _ _ _ h => h) (Or.inl ⟨by rfl, (by intro w' hSw; (try dsimp only at hSw); skip; go_simp; try with_reducible rfl)⟩) (by assumption) ?_
      try simp only [Act.put, List.setIfInBounds_toArray, List.set_cons_zero, List.set_cons_succ]
      refine wpAnyH_ready (rs := [12]) (by kernel_rfl) (by simp) ?_
      refine AllReadyH.consL (i := 12) rfl (fun K hK => ?_) AllReadyH.nil
      go_simp
      (refine (lives_any _).mono ?_; rintro e wL ⟨rfl, fL⟩; have HL := Lib.hid (HJ.out.trans fL (by simp [Ext])); clear fL)
      refine hK.out _ _ (KEEP.out _ HL.out) (fun hHeld => ?_)
      clear hK K
      try simp only [Act.put, List.setIfInBounds_toArray, List.set_cons_zero, List.set_cons_succ]
      refine wpAnyH_takeL (i := 13) (v := _) rfl (by kernel_rfl) (by kernel_rfl) (by kernel_rfl) (fun _ _ _ h => h) (Or.inl ⟨by rfl, (by intro w' hSw; (try dsimp only at hSw); skip; go_simp; try with_reducible rfl)⟩) (by assumption) ?_
      try simp only [Act.put, List.setIfInBounds_toArray, List.set_cons_zero, List.set_cons_succ]
      refine wpAnyH_takeL (i := 14) (v := _) rfl (by kernel_rfl) (by kernel_rfl) (by kernel_rfl) (fun _ _ _ h => h) (Or.inl ⟨by rfl, (by intro w' hSw; (try dsimp only at hSw); skip; go_simp; try with_reducible rfl)⟩) (by assumption) ?_
      try simp only [Act.put, List.setIfInBounds_toArray, List.set_cons_zero, List.set_cons_succ]
      refine wpAnyH_done (by kernel_rfl) ?_ _
      clear hHeld
      go_wp2_with fail
      go_ret
      exact ⟨rfl, (F1.out.trans F5.out (by simp [Ext])).trans HL.out (by simp [Ext])⟩
end Go.Proofs.Ytdbngpncigjfiaa
