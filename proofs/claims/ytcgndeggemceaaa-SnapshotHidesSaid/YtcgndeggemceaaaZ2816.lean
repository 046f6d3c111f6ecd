/- Law28, SnViews (merged by merge.py). -/
import Derived.Test.YtcgndeggemceaaaZ2815
import Derived.Test.YtcgndeggemceaaaZ282
import Derived.Deep.CutBlock
import Derived.Deep.DeepCutAuto
/- What the laws on views share: a setup made from numbers, its state. -/
namespace Go.Proofs.Ytcgndeggemceaaa
open Go.RowKit

theorem drewFr {w w' : World} (h : ∃ k, w' = w.drewN k) : Fr [] w w' := by obtain ⟨k, rfl⟩ := h; exact (Fr.refl [] _).drewN k
section
variable {w w1 : World} {s : St} {bodies : List Bd} {doors : List (Int × Int)}
theorem SetupAt.few (h : SetupAt w w1 s bodies doors) : Few roomsL doors := by
  have hm := h.mok
  unfold mapB at hm
  simp only [Bool.and_eq_true, List.all_eq_true] at hm
  refine ⟨by simp [roomsL], fun d hd => ?_⟩
  have h1 := hm.2 d hd
  unfold drOk inB at h1
  simp [roomsL] at h1
  omega
theorem SetupAt.bd (h : SetupAt w w1 s bodies doors) {u : World} (hu : Fr [] w1 u) : BodiesAt u s bodies := ⟨h.nb, (h.seg.fr hu (by simp)).rd⟩
theorem SetupAt.vpreR (h : SetupAt w w1 s bodies doors) {u : World} (hu : Fr [] w1 u) {pl n : Nat} (hpl : s.players = (pl : Int)) (hn : n = 48 + 4 * pl + 8 * bodies.length)
    {co : Option Addr} {cc : Nat} {cells : List Int} (hr : Seg u 3 1 co n cc (ints cells)) (hl : cells.length = n) (hp : PosOk pl bodies.length cells) : VPre u s bodies roomsL doors co cc cells := by
  have h1 := h.num.1
  have h2 := h.nb
  have h3 := h.b5
  refine ⟨⟨h.ok, by omega, h.bd hu, by rw [hl]; exact hr.rd, by rw [hl]; exact hr.2.2.1, hr.2.1⟩, h.map.old hu, h.few, by rw [h2]; exact h.pn, by omega, fun i h0 h1 => ?_, by have := h.num.2.1; omega, by have := h.num.2.1; omega⟩
  have := hp i.toNat (by omega)
  unfold posX posY
  rw [show (48 + 4 * s.players + 8 * i).toNat = 48 + 4 * pl + 8 * i.toNat by omega]
  exact this
end
theorem sees_own {s : St} {rooms : List Bx} {doors : List (Int × Int)} {cells : List Int} {p : Nat} {pl : Nat} (hpl : s.players = (pl : Int)) (hp : p < pl) (hb : pl ≤ s.nb) : seesB s rooms doors cells (p : Int) (p : Int) = true := by
  unfold seesB
  rw [if_neg (by omega), if_pos rfl]
theorem requal_t (w : World) (ao bo : Option Addr) (ca cb : Nat) (a : List (Int × Int)) (ha : Rd w 2 ao a.length (a.flatMap clV)) (hb : Rd w 2 bo a.length (a.flatMap clV)) :
    Calls Try.prog 15 #[.slice ao a.length ca, .slice bo a.length cb] w fun e w' => e = .returned (.bool true) ∧ Fr [] w w' :=
  (requal_any w ao bo ca cb a a ha hb).mono fun _ _ h => ⟨by rw [h.1]; simp, h.2⟩
end Go.Proofs.Ytcgndeggemceaaa
/- SnapshotViews returns true (written by genlaw28.py). -/
namespace Go.Proofs.Ytcgndeggemceaaa
open Go.RowKit

set_option maxRecDepth 100000 in
set_option maxHeartbeats 16000000 in
theorem snviews_walk (w : World) (lo mo : Option Addr) (lc mc : Nat) (l m : List Int) (hl : Rd w 1 lo l.length (ints l)) (hlb : ∀ x ∈ l, bounded x) (hm : Rd w 1 mo m.length (ints m)) (hmb : ∀ x ∈ m, bounded x) :
    Calls Try.prog 7 #[.slice lo l.length lc, .slice mo m.length mc] w fun e w' => e = .returned (.bool true) ∧ Fr [] w w' := by
  have HSU := Lib.hid (setup_any w lo lc l hl hlb)
  have HAT := Lib.hid (fun u (hu : Fr [] w u) => hm.fr hu (by simp))
  have HMB := Lib.hid hmb
  clear hl hlb hm hmb
  go_enter Try.func7, Try.ntmps7
  go_wp2_with fail
  refine HSU.out.mono ?_
  rintro e w1 ⟨s, bodies, doors, rfl, hs⟩
  have HS := Lib.hid hs
  have F1 := Lib.hid hs.fr
  obtain ⟨C, hC⟩ := cAt s
  have HCS := Lib.hid hC.size
  have HV := Lib.hid hC.val
  have HC := Lib.hid hC
  have hCl : (Try.prog.info? 49).map (·.size) = some C.toList.length := by rw [Array.length_toList, hC.size]; exact infoSetup
  have HO := Lib.hid (by have h := hC.val; unfold St.val at h; injection h with h; rw [← h]; simp [Value.oneCell'] : C.all (·.oneCell') = true)
  obtain ⟨b1, hb1⟩ : ∃ b1, b1 = w1.heap.size := ⟨_, rfl⟩
  have HB1 := Lib.hid hb1
  rw [HV.out]
  have HCL0 := Lib.hid hCl
  clear hs hb1 hC HSU hCl
  go_upto_region 2 with (refine wpList_storeB rfl 49 (Operand.tmp 5) (Operand.tmp 9) rfl w1.heap.size 16 C rfl rfl _ 49 (by exact alloc_new _ _) rfl HCS.out infoSetup HO.out ?_; intro w2 hb2 hf2; have F2 := Lib.hid (((Fr.refl [] w1).alloc _).trans hf2 (fun k hk => .inr (by simp at hk; omega))); have B2 := Lib.hid (by rw [HB1.out]; exact hb2 : w2.heap[b1]? = some (.cells C 49 (0, 0))); clear hb2 hf2)
  rw [← HB1.out]
  obtain ⟨pl, hpl⟩ : ∃ pl : Nat, s.players = (pl : Int) := ⟨s.players.toNat, by have := HS.out.num.1; omega⟩
  have hpl3 : 1 ≤ pl ∧ pl ≤ 3 := by have := HS.out.num.1; omega
  have hpn : pl ≤ bodies.length := by have := HS.out.pn; omega
  have hb5 := HS.out.b5
  have HPL := Lib.hid hpl
  obtain ⟨n, hn⟩ : ∃ n, n = 48 + 4 * pl + 8 * bodies.length := ⟨_, rfl⟩
  have HN := Lib.hid hn
  have HST := Lib.hid (fun u (hu : Fr [] w1 u) => (by
    rw [← HV.out]
    exact state_any u s bodies HS.out.ok pl hpl hpl3.2 (HS.out.bd hu) hb5 (by omega) (fun d hd => (HS.out.good d hd).1) mo mc m (HAT.out u (F1.out.trans hu (by simp [Ext]))) HMB.out n hn : Calls Try.prog 21 #[.agg C, .slice mo m.length mc] u (State28To u pl bodies.length n)))
  obtain ⟨nb, hnb⟩ : ∃ nb, nb = bodies.length := ⟨_, rfl⟩
  have HNB := Lib.hid hnb
  have HSN := Lib.hid (HS.out.nb.trans hnb.symm)
  rw [← hnb] at hpn hb5
  have hn100 : n ≤ 100 := by omega
  have hn1 : 56 ≤ n := by omega
  have hnn : n = 48 + 4 * pl + 8 * nb := by omega
  have HNN := Lib.hid hnn
  clear hpl hn hnb hnn
  go_wp2_with (refine wpList_loadB rfl 49 (Operand.tmp 5) rfl b1 16 rfl C 49 (0, 0) B2.out _ Try.underlying49 rfl HCS.out infoSetup ?_)
  refine (HST.out w2 F2.out).mono ?_
  rintro e w5 ⟨g, off, sc, cells, rfl, hcl, hseg, hg, f5, hsm, hpo⟩
  have HCL := Lib.hid hcl
  have SG := Lib.hid (fun u (hu : Fr [] w5 u) => hseg.fr hu (by simp))
  have F5 := Lib.hid (F2.out.trans f5 (by simp [Ext]))
  have B5 := Lib.hid (f5.blk B2.out (by simp))
  have HSM := Lib.hid hsm
  have HPO := Lib.hid hpo
  have HG2 := Lib.hid hg
  have VP := Lib.hid (fun u (hu : Fr [] w5 u) => HS.out.vpreR (F5.out.trans hu (by simp [Ext])) HPL.out HN.out (SG.out u hu) HCL.out HPO.out)
  have KEEP := Lib.hid (fun u (hu : Fr [] w5 u) => (hu.blk B5.out (by simp) : u.heap[b1]? = some (.cells C 49 (0, 0))))
  obtain ⟨SE, hSE⟩ : ∃ SE : Nat → List Int, SE = fun k : Nat => seenL s roomsL doors cells ((k : Nat) : Int) := ⟨_, rfl⟩
  obtain ⟨VW, hVW⟩ : ∃ VW : Nat → List (Int × Int), VW = fun k : Nat => viewL pl cells k (SE k) := ⟨_, rfl⟩
  have QView := Lib.hid (fun u (hu : Fr [] w5 u) (k : Nat) (hk : k < pl) => (by
    have h := view_any (VP.out u hu) pl k HPL.out hk (by rw [HCL.out]; omega) (SG.out u hu).lt
    rw [HV.out, HCL.out] at h; rw [hVW, hSE]; exact h : Calls Try.prog 22 #[.agg C, .slice (some ⟨g, off, none⟩) n sc, .int .i64 (k : Int)] u (CelTo u (VW k))))
  have HVW := Lib.hid hVW
  have HSE := Lib.hid hSE
  have K0 := Lib.hid (fun u (hu : Fr [] w5 u) => (by have h := cell_blk (KEEP.out u hu) 0; rw [h, HC.out.c0, HPL.out] : u.cell? ⟨b1, 0, none⟩ = some (.int .i64 (pl : Int))))
  have K1 := Lib.hid (fun u (hu : Fr [] w5 u) => (by have h := cell_blk (KEEP.out u hu) 1; rw [h, HC.out.c1, HSN.out] : u.cell? ⟨b1, 1, none⟩ = some (.slice s.bo nb s.bc)))
  clear hcl hseg hsm hpo f5 HST hg hVW hSE
  have QRView := Lib.hid (fun u (hu : Fr [] w5 u) (k : Nat) (hk : k < pl) => (by
    have h := rview_any (VP.out u hu) pl k HPL.out hk (by rw [HCL.out]; omega) (SG.out u hu).lt
    rw [HV.out, HCL.out] at h; rw [HVW.out, HSE.out]; exact h : Calls Try.prog 23 #[.agg C, .slice (some ⟨g, off, none⟩) n sc, .int .i64 (k : Int)] u (CelTo u (VW k))))
  go_wp2_with fail
  go_loopw [7] (fun iv wr => ∃ k : Nat, k ≤ pl ∧ iv = .int .i64 (k : Int) ∧ Fr [] w5 wr) (fun iv _ => pl - (intOf iv).toNat)
  case atStart => exact ⟨0, by omega, rfl, Fr.refl _ _⟩
  case round =>
    obtain ⟨k, hk0, rfl, hf⟩ := hrel
    have HF := Lib.hid hf
    have c0 := K0.out wr hf
    clear hf
    by_cases hk : k < pl
    · have hki : (k : Int) < (pl : Int) := by omega
      have HDr := Lib.hid (HF.out.drew)
      have wk : IntKind.i64.wrap ((k : Int) + 1) = (k : Int) + 1 := IntWalk.i64_in _ (by omega)
      go_upto_region 6 with fail
      refine wp_region_held_drew (S := fun u => u.heap[b1]? = some (.cells C 49 (0, 0))) (by kernel_rfl) (KEEP.out _ HDr.out) (fun hHeld => ?_)
      refine wpAnyH_takeL (i := 0) (v := (.agg C)) rfl (by kernel_rfl) (by kernel_rfl) (by kernel_rfl) (fun _ _ _ h => h) (yieldsIf_load_mid (by rfl) 49 (Operand.tmp 5) rfl b1 0 rfl C.toList _ (fun w' hw' => range_blk (c := C) hw') Try.underlying49 rfl HCL0.out) (by assumption) ?_
      try simp only [Act.put, List.setIfInBounds_toArray, List.set_cons_zero, List.set_cons_succ]
      refine wpAnyH_takeL (i := 1) (v := _) rfl (by kernel_rfl) (by kernel_rfl) (by kernel_rfl) (fun _ _ _ h => h) (Or.inl ⟨by rfl, (by intro w' hSw; (try dsimp only at hSw); skip; go_simp; try with_reducible rfl)⟩) (by assumption) ?_
      try simp only [Act.put, List.setIfInBounds_toArray, List.set_cons_zero, List.set_cons_succ]
      refine wpAnyH_takeL (i := 2) (v := _) rfl (by kernel_rfl) (by kernel_rfl) (by kernel_rfl) (fun _ _ _ h => h) (Or.inl ⟨by rfl, (by intro w' hSw; (try dsimp only at hSw); skip; go_simp; try with_reducible rfl)⟩) (by assumption) ?_
      try simp only [Act.put, List.setIfInBounds_toArray, List.set_cons_zero, List.set_cons_succ]
      refine wpAnyH_takeL (i := 4) (v := (.agg C)) rfl (by kernel_rfl) (by kernel_rfl) (by kernel_rfl) (fun _ _ _ h => h) (yieldsIf_load_mid (by rfl) 49 (Operand.tmp 5) rfl b1 0 rfl C.toList _ (fun w' hw' => range_blk (c := C) hw') Try.underlying49 rfl HCL0.out) (by assumption) ?_
      try simp only [Act.put, List.setIfInBounds_toArray, List.set_cons_zero, List.set_cons_succ]
      refine wpAnyH_takeL (i := 5) (v := _) rfl (by kernel_rfl) (by kernel_rfl) (by kernel_rfl) (fun _ _ _ h => h) (Or.inl ⟨by rfl, (by intro w' hSw; (try dsimp only at hSw); skip; go_simp; try with_reducible rfl)⟩) (by assumption) ?_
      try simp only [Act.put, List.setIfInBounds_toArray, List.set_cons_zero, List.set_cons_succ]
      refine wpAnyH_takeL (i := 6) (v := _) rfl (by kernel_rfl) (by kernel_rfl) (by kernel_rfl) (fun _ _ _ h => h) (Or.inl ⟨by rfl, (by intro w' hSw; (try dsimp only at hSw); skip; go_simp; try with_reducible rfl)⟩) (by assumption) ?_
      try simp only [Act.put, List.setIfInBounds_toArray, List.set_cons_zero, List.set_cons_succ]
      refine wpAnyH_ready (rs := [3]) (by kernel_rfl) (by simp) ?_
      refine AllReadyH.consL (i := 3) rfl (fun K hK => ?_) AllReadyH.nil
      go_simp
      (refine (QView.out _ HDr.out k hk).mono ?_; rintro e wA ⟨oA, cA, rfl, hsA, fA, -⟩; have HA := Lib.hid (HDr.out.trans fA (by simp [Ext])); have SA := Lib.hid hsA; clear fA hsA)
      refine hK.out _ _ (KEEP.out _ HA.out) (fun hHeld => ?_)
      clear hK K
      try simp only [Act.put, List.setIfInBounds_toArray, List.set_cons_zero, List.set_cons_succ]
      refine wpAnyH_ready (rs := [7]) (by kernel_rfl) (by simp) ?_
      refine AllReadyH.consL (i := 7) rfl (fun K hK => ?_) AllReadyH.nil
      go_simp
      (refine (QRView.out _ HA.out k hk).mono ?_; rintro e wB ⟨oB, cB, rfl, hsB, fB, -⟩; have HB := Lib.hid (HA.out.trans fB (by simp [Ext])); have SB := Lib.hid hsB; have SA2 := Lib.hid (SA.out.fr fB (by simp)); clear fB hsB)
      refine hK.out _ _ (KEEP.out _ HB.out) (fun hHeld => ?_)
      clear hK K
      try simp only [Act.put, List.setIfInBounds_toArray, List.set_cons_zero, List.set_cons_succ]
      refine wpAnyH_ready (rs := [8]) (by kernel_rfl) (by simp) ?_
      refine AllReadyH.consL (i := 8) rfl (fun K hK => ?_) AllReadyH.nil
      go_simp
      (refine (requal_t _ oA oB cA cB _ SA2.out.rd SB.out.rd).mono ?_; rintro e wE ⟨rfl, fE⟩; have HE := Lib.hid (HB.out.trans fE (by simp [Ext])); clear fE)
      refine hK.out _ _ (KEEP.out _ HE.out) (fun hHeld => ?_)
      clear hK K
      try simp only [Act.put, List.setIfInBounds_toArray, List.set_cons_zero, List.set_cons_succ]
      refine wpAnyH_takeL (i := 9) (v := _) rfl (by kernel_rfl) (by kernel_rfl) (by kernel_rfl) (fun _ _ _ h => h) (Or.inl ⟨by rfl, (by intro w' hSw; (try dsimp only at hSw); skip; go_simp; try with_reducible rfl)⟩) (by assumption) ?_
      try simp only [Act.put, List.setIfInBounds_toArray, List.set_cons_zero, List.set_cons_succ]
      refine wpAnyH_done (by kernel_rfl) ?_ _
      clear hHeld c0
      go_wp2_with fail
      go_roundw
      case rel => exact ⟨k + 1, by omega, by go_num, HE.out⟩
      case measure => simp [intOf]; omega
    · have hki : ¬ (k : Int) < (pl : Int) := by omega
      go_wp2_with fail
      refine (lives_any _).mono ?_
      rintro e wL ⟨rfl, fL⟩
      have HL := Lib.hid (HF.out.trans fL (by simp [Ext]))
      clear fL
      go_wp2_with fail
      go_ret
      exact ⟨rfl, (F1.out.trans F5.out (by simp [Ext])).trans HL.out (by simp [Ext])⟩
end Go.Proofs.Ytcgndeggemceaaa
