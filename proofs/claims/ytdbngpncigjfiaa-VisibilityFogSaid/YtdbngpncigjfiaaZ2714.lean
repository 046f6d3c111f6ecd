/- VFog (merged by merge.py). -/
import Derived.Test.YtdbngpncigjfiaaZ2713
/- VisibilityFog returns true (written by genlaw27.py). -/
namespace Go.Proofs.Ytdbngpncigjfiaa
open Go.RowKit

/-- the great room -/
def bigB : Bx := ⟨-1048576, -1048576, 1048576, 1048576⟩
theorem big_room {x y : Int} (hx : inC x) (hy : inC y) : roomOf [bigB] x y = 0 := by
  unfold inC at hx hy
  symm
  exact roomOf_hit (i := 0) (fun j hj h => by omega) (by simp) (inBx_yes (by simp only [List.getElem_cons_zero, bigB]; omega) (by simp only [List.getElem_cons_zero, bigB]; omega) (by simp only [List.getElem_cons_zero, bigB]; omega) (by simp only [List.getElem_cons_zero, bigB]; omega))
theorem fog_sees (s : St) (cells : List Int) (p i : Nat) (pl : Nat) (hpl : s.players = (pl : Int)) (hp : p < pl) (hi : i < s.nb) (hpn : pl ≤ s.nb) (hne : ¬ i = p) (hps : inC (posX s cells p) ∧ inC (posY s cells p)) (his : inC (posX s cells i) ∧ inC (posY s cells i)) {X Y : Int}
    (hX : X = posX s cells i - posX s cells p) (hY : Y = posY s cells i - posY s cells p) :
    seesB s [bigB] [] cells (p : Int) (i : Int) = decide (X * X + Y * Y < (s.fog + 1) * (s.fog + 1)) := by
  unfold seesB
  rw [if_neg (show ¬ ((p : Int) < 0 ∨ s.players ≤ (p : Int) ∨ (i : Int) < 0 ∨ (s.nb : Int) ≤ (i : Int)) by omega), if_neg (show ¬ ((i : Int) = (p : Int)) by omega)]
  unfold farB
  rw [big_room hps.1 hps.2, big_room his.1 his.2, ← hX, ← hY]
  rfl
theorem fog_self (s : St) (cells : List Int) (p : Nat) (pl : Nat) (hpl : s.players = (pl : Int)) (hp : p < pl) (hpn : pl ≤ s.nb) : seesB s [bigB] [] cells (p : Int) (p : Int) = true := by
  unfold seesB
  rw [if_neg (show ¬ ((p : Int) < 0 ∨ s.players ≤ (p : Int) ∨ (p : Int) < 0 ∨ (s.nb : Int) ≤ (p : Int)) by omega), if_pos rfl]
theorem VPre.posOk {w : World} {s : St} {bodies : List Bd} {rooms : List Bx} {doors : List (Int × Int)} {co : Option Addr} {cc : Nat} {cells : List Int} (h : VPre w s bodies rooms doors co cc cells) (i : Nat) (hi : i < s.nb) : inC (posX s cells i) ∧ inC (posY s cells i) := h.pos i (by omega) (by omega)

set_option maxRecDepth 100000 in
set_option maxHeartbeats 16000000 in
theorem vfog_walk (w : World) (lo : Option Addr) (lc : Nat) (l : List Int) (hl : Srci w lo lc l) (ao : Option Addr) (ac : Nat) (a : List Int) (hat : Srci w ao ac a) (fog : Int) (hfo : bounded fog) :
    Calls Try.prog 8 #[.slice lo l.length lc, .slice ao a.length ac, .int .i64 fog] w fun e w' => e = .returned (.bool true) ∧ Fr [] w w' := by
  have HSU := Lib.hid (setup_any w lo lc l hl.rd hl.bnd)
  have HAT := Lib.hid hat
  obtain ⟨f, hf1, -, hAF⟩ := around_nat fog 30000 hfo (by omega) (by omega)
  have HAF := Lib.hid hAF
  clear hl hat hfo hAF
  go_enter Try.func8, Try.ntmps8
  go_wp2_with fail
  refine HSU.out.mono ?_
  rintro e wv ⟨so, bodies, doors, rfl, hs⟩
  have HSo := Lib.hid hs
  have F1o := Lib.hid hs.fr
  obtain ⟨Co, hC⟩ := cAt so
  have HCS := Lib.hid hC.size
  have HVo := Lib.hid hC.val
  have HCo := Lib.hid hC
  have hCl : (Try.prog.info? 31).map (·.size) = some Co.toList.length := by rw [Array.length_toList, hC.size]; exact infoSetup
  have HO := Lib.hid (by have h := hC.val; unfold St.val at h; injection h with h; rw [← h]; simp [Value.oneCell'] : Co.all (·.oneCell') = true)
  obtain ⟨b1, hb1⟩ : ∃ b1, b1 = wv.heap.size := ⟨_, rfl⟩
  have HB1 := Lib.hid hb1
  rw [HVo.out]
  have HCL0 := Lib.hid hCl
  clear hs hb1 hC HSU hCl
  go_upto_region 2 with (refine wpList_storeB rfl 31 (Operand.tmp 7) (Operand.tmp 14) rfl wv.heap.size 16 Co rfl rfl _ 31 (by exact alloc_new _ _) rfl HCS.out infoSetup HO.out ?_; intro w2 hb2 hf2; have F2o := Lib.hid (((Fr.refl [] wv).alloc _).trans hf2 (fun k hk => .inr (by simp at hk; omega))); have B2o := Lib.hid (by rw [HB1.out]; exact hb2 : w2.heap[b1]? = some (.cells Co 31 (0, 0))); clear hb2 hf2)
  rw [← HB1.out]
  have hCo := (by have h := HVo.out; unfold St.val at h; injection h with h; exact h.symm : Co = stCells so)
  have HCoE := Lib.hid hCo
  clear hCo
  have q6 : ∀ o, (w2.alloc o).cell? ⟨b1, 6, none⟩ = some (.slice so.ro so.rn so.rc) := fun o => (cell_blk (alloc_old B2o.out) 6).trans HCo.out.c6
  have q7 : ∀ o, (w2.alloc o).cell? ⟨b1, 7, none⟩ = some (.slice so.dO so.dn so.dc) := fun o => (cell_blk (alloc_old B2o.out) 7).trans HCo.out.c7
  have q8 : ∀ o, (w2.alloc o).cell? ⟨b1, 8, none⟩ = some (.int .i64 so.fog) := fun o => (cell_blk (alloc_old B2o.out) 8).trans HCo.out.c8
  have y6 : ∀ o, (w2.alloc o).frozen? ⟨b1, 6, none⟩ = false := fun o => frozen_blk (alloc_old B2o.out) 6
  have y7 : ∀ o, (w2.alloc o).frozen? ⟨b1, 7, none⟩ = false := fun o => frozen_blk (alloc_old B2o.out) 7
  have y8 : ∀ o, (w2.alloc o).frozen? ⟨b1, 8, none⟩ = false := fun o => frozen_blk (alloc_old B2o.out) 8
  go_wp2_with fail
  refine (HAF.out _).mono ?_
  rintro e wx ⟨rfl, hwx⟩
  rw [← hwx]
  clear hwx
  go_upto_region 5 with fail
  obtain ⟨b3, hb3⟩ : ∃ b3, b3 = w2.heap.size := ⟨_, rfl⟩
  have HB3 := Lib.hid hb3
  rw [← hb3]
  obtain ⟨w1, hw1⟩ : ∃ w1, w1 = (((w2.alloc (.cells #[.int .i64 (-1048576), .int .i64 (-1048576), .int .i64 1048576, .int .i64 1048576] 25)).setCell ⟨b1, 6, none⟩ (.slice (some ⟨b3, 0, none⟩) 1 1)).setCell ⟨b1, 7, none⟩ (.slice none 0 0)).setCell ⟨b1, 8, none⟩ (.int .i64 (f : Int)) := ⟨_, rfl⟩
  rw [← hw1]
  obtain ⟨s, hse⟩ : ∃ s : St, s = { sd (sr so (some ⟨b3, 0, none⟩) 1 1) none 0 0 with fog := (f : Int) } := ⟨_, rfl⟩
  obtain ⟨C, hC⟩ := cAt s
  have hCs := (by have h := hC.val; unfold St.val at h; injection h with h; exact h.symm : C = stCells s)
  have HCS := Lib.hid hC.size
  have HV := Lib.hid hC.val
  have HC := Lib.hid hC
  have hCl : (Try.prog.info? 31).map (·.size) = some C.toList.length := by rw [Array.length_toList, hC.size]; exact infoSetup
  have HCL0 := Lib.hid hCl
  have hbb := alloc_old (o' := .cells #[.int .i64 (-1048576), .int .i64 (-1048576), .int .i64 1048576, .int .i64 1048576] 25) B2o.out
  have B2 := Lib.hid (by
    rw [hw1]
    have h := setCell_blk (setCell_blk (setCell_blk hbb 6 (.slice (some ⟨b3, 0, none⟩) 1 1)) 7 (.slice none 0 0)) 8 (.int .i64 (f : Int))
    rw [h, hCs, HCoE.out, hse]; rfl : w1.heap[b1]? = some (.cells C 31 (0, 0)))
  have hb1v : wv.heap.size ≤ b1 := by rw [HB1.out]; exact Nat.le_refl _
  have FV := Lib.hid (by
    rw [hw1]
    exact (((F2o.out.alloc _).setCell (p := ⟨b1, 6, none⟩) (.inr hb1v) _).setCell (p := ⟨b1, 7, none⟩) (.inr hb1v) _).setCell (p := ⟨b1, 8, none⟩) (.inr hb1v) _ : Fr [] wv w1)
  have HBX := Lib.hid (by
    have hne : b1 < w2.heap.size := lt_of_blk B2o.out
    rw [hw1, setCell_ne (by simp; omega), setCell_ne (by simp; omega), setCell_ne (by simp; omega), hb3]
    exact alloc_new w2 _ : w1.heap[b3]? = some (.cells #[.int .i64 (-1048576), .int .i64 (-1048576), .int .i64 1048576, .int .i64 1048576] 25 (0, 0)))
  obtain ⟨rooms, hrooms⟩ : ∃ rooms, rooms = [bigB] := ⟨_, rfl⟩
  obtain ⟨doors, hdoors⟩ : ∃ doors : List (Int × Int), doors = [] := ⟨_, rfl⟩
  have HS := Lib.hid (by
    have ho := HSo.out
    subst hrooms hdoors
    refine ⟨by rw [hse]; exact ho.nb, ?_, ⟨by rw [hse]; rfl, by rw [hse]; rfl, ?_, ?_⟩, by simp, ?_, by simp, by simp, by rw [hse]; simp [sd, sr], by rw [hse]; simp [sd, sr, maxLen], by rw [hse]; exact ho.num.1, by rw [hse]; exact ho.pn, ho.b5, by rw [hse]; simp only; omega, fun d hd => (ho.good d hd).1, F1o.out.trans FV.out (by simp [Ext])⟩
    · have h := ho.seg.rd.fr FV.out (by simp); rw [hse]; exact h
    · have h := (Seg.one b3 _ 25 4 1 HBX.out rfl (by unfold maxLen; omega)).rd; rw [hse]; exact h
    · rw [hse]; exact ⟨by simp, by simp, .inl rfl⟩
    · intro b hb
      simp at hb
      subst hb
      unfold boxOk inC bigB
      simp : Set27 w w1 s bodies rooms doors)
  have HROOMS := Lib.hid hrooms
  have HDOORS := Lib.hid hdoors
  have HFOG := Lib.hid (by rw [hse] : s.fog = (f : Int))
  have F1 := Lib.hid (F1o.out.trans FV.out (by simp [Ext]))
  have F2 := Lib.hid (Fr.refl [] w1)
  clear hw1 hse hC hCs hCl hbb hrooms hdoors hb3 q6 q7 q8 y6 y7 y8
  obtain ⟨pl, hpl⟩ : ∃ pl : Nat, s.players = (pl : Int) := ⟨s.players.toNat, by have := HS.out.pl; omega⟩
  have hpl3 : 1 ≤ pl ∧ pl ≤ 3 := by have := HS.out.pl; omega
  have hpn : pl ≤ bodies.length := by have := HS.out.pn; omega
  have hb5 := HS.out.b5
  have HPL := Lib.hid hpl
  obtain ⟨nb, hnb⟩ : ∃ nb, nb = bodies.length := ⟨_, rfl⟩
  have HNB := Lib.hid hnb
  have HSN := Lib.hid (HS.out.nb.trans hnb.symm)
  obtain ⟨n, hn⟩ : ∃ n, n = 48 + 4 * pl + 8 * bodies.length := ⟨_, rfl⟩
  have HN := Lib.hid hn
  have HCE := Lib.hid (fun u (hu : Fr [] w1 u) => (by
    rw [← HV.out]
    exact cells27_any u s bodies HS.out.ok pl hpl hpl3.2 (HS.out.bd hu) hb5 HS.out.good ao ac a ((HAT.out.old F1.out).old hu).rd HAT.out.bnd n hn : Calls Try.prog 18 #[.agg C, .slice ao a.length ac] u (Cells27To u pl bodies.length n)))
  rw [← hnb] at hpn hb5
  clear hpl hn hnb
  go_wp2_with (refine wpList_loadB rfl 31 (Operand.tmp 7) rfl b1 16 rfl C 31 (0, 0) B2.out _ Try.underlying31 rfl HCS.out infoSetup ?_)
  refine (HCE.out w1 F2.out).mono ?_
  rintro e w5 ⟨bc, cells, rfl, hcl, hrow, hbc, f5, hsm, hpo⟩
  have HCL := Lib.hid hcl
  have HROW := Lib.hid hrow
  have F5 := Lib.hid (F2.out.trans f5 (by simp [Ext]))
  have B5 := Lib.hid (f5.blk B2.out (by simp))
  have HSM := Lib.hid hsm
  have HPO := Lib.hid hpo
  have hb1c : b1 < bc := by have := lt_of_blk B2.out; omega
  have VP := Lib.hid (fun u (hu : Fr [] w5 u) => HS.out.vpre (F5.out.trans hu (by simp [Ext])) HPL.out HN.out (hu.blk HROW.out (by simp)) HCL.out HPO.out)
  have KEEP := Lib.hid (fun u (hu : Fr [] w5 u) => (hu.blk B5.out (by simp) : u.heap[b1]? = some (.cells C 31 (0, 0))))
  clear hcl hrow hsm hpo f5 HCE hbc
  have QSees := Lib.hid (fun u (hu : Fr [] w5 u) (k i : Int) => (by have h := sees_any (VP.out u hu) k i; rw [HV.out, HCL.out] at h; exact h : Calls Try.prog 21 #[.agg C, .slice (some ⟨bc, 0, none⟩) n n, .int .i64 k, .int .i64 i] u (fun e w' => e = .returned (.bool (seesB s rooms doors cells k i)) ∧ Fr [] u w')))
  have K0 := Lib.hid (fun u (hu : Fr [] w5 u) => (by have h := cell_blk (KEEP.out u hu) 0; rw [h, HC.out.c0, HPL.out] : u.cell? ⟨b1, 0, none⟩ = some (.int .i64 (pl : Int))))
  have K1 := Lib.hid (fun u (hu : Fr [] w5 u) => (by have h := cell_blk (KEEP.out u hu) 1; rw [h, HC.out.c1, HSN.out] : u.cell? ⟨b1, 1, none⟩ = some (.slice s.bo nb s.bc)))
  have K8 := Lib.hid (fun u (hu : Fr [] w5 u) => (by have h := cell_blk (KEEP.out u hu) 8; rw [h, HC.out.c8, HFOG.out] : u.cell? ⟨b1, 8, none⟩ = some (.int .i64 (f : Int))))
  have QP := Lib.hid (fun u (hu : Fr [] w5 u) (i : Nat) (hi : i < nb) => (by have h := place_any (VP.out u hu) (i : Int) (by omega) (by rw [HSN.out]; omega); rw [HV.out, HCL.out] at h; exact h : Calls Try.prog 27 #[.agg C, .slice (some ⟨bc, 0, none⟩) n n, .int .i64 (i : Int)] u (fun e w' => e = .returned (.agg #[.int .i64 (posX s cells i), .int .i64 (posY s cells i)]) ∧ Fr [] u w')))
  have HIC := Lib.hid (fun (i : Nat) (hi : i < nb) => (VP.out w5 (Fr.refl _ _)).posOk i (by rw [HSN.out]; exact hi))
  go_wp2_with fail
  go_loopw [9] (fun iv wr => ∃ p : Nat, p ≤ pl ∧ iv = .int .i64 (p : Int) ∧ Fr [] w5 wr) (fun iv _ => pl - (intOf iv).toNat)
  case atStart => exact ⟨0, by omega, rfl, Fr.refl _ _⟩
  case round =>
    obtain ⟨p, hp, rfl, hf⟩ := hrel
    have HF1 := Lib.hid hf
    have c0 := K0.out wr hf
    clear hf
    by_cases hpp : p < pl
    · have hppi : (p : Int) < (pl : Int) := by omega
      go_wp2_with fail
      clear c0
      obtain ⟨wo, rfl⟩ : ∃ wo : World, wo = wr := ⟨_, rfl⟩
      go_loopw [10] (fun iv wr => ∃ i : Nat, i ≤ nb ∧ iv = .int .i64 (i : Int) ∧ Fr [] w5 wr) (fun iv _ => nb - (intOf iv).toNat)
      case atStart => exact ⟨0, by omega, rfl, HF1.out⟩
      case round =>
        obtain ⟨i, hi, rfl, hf⟩ := hrel
        have HF2 := Lib.hid hf
        have c1 := K1.out wr hf
        clear hf
        by_cases hii : i < nb
        · have hiii : (i : Int) < (nb : Int) := by omega
          obtain ⟨X, hX⟩ : ∃ X, X = posX s cells i - posX s cells p := ⟨_, rfl⟩
          obtain ⟨Y, hY⟩ : ∃ Y, Y = posY s cells i - posY s cells p := ⟨_, rfl⟩
          have QSub := Lib.hid (fun u (_ : Fr [] w5 u) => (by rw [hX, hY]; exact sub_any u _ _ _ _ (HIC.out i hii).1 (HIC.out i hii).2 (HIC.out p (by omega)).1 (HIC.out p (by omega)).2 : Calls Try.prog 29 #[.agg #[.int .i64 (posX s cells i), .int .i64 (posY s cells i)], .agg #[.int .i64 (posX s cells p), .int .i64 (posY s cells p)]] u fun e w' => e = .returned (.agg #[.int .i64 X, .int .i64 Y]) ∧ Fr [] u w'))
          have QP1 := Lib.hid (fun u (hu : Fr [] w5 u) => QP.out u hu i hii)
          have QP2 := Lib.hid (fun u (hu : Fr [] w5 u) => QP.out u hu p (by omega))
          have HXD := Lib.hid (by rw [hX]; exact dd_bound (HIC.out i hii).1 (HIC.out p (by omega)).1 : inD X)
          have HYD := Lib.hid (by rw [hY]; exact dd_bound (HIC.out i hii).2 (HIC.out p (by omega)).2 : inD Y)
          have HXE := Lib.hid hX
          have HYE := Lib.hid hY
          have HQ := Lib.hid (HF2.out.drew)
          clear hX hY
          go_upto_region 12 with fail
          clear c1
          go_cut [11] (fun s11 wc => ∃ b, s11 = .pointer (some ⟨b, 0, none⟩) ∧ wc.heap[b]? = some (.cells #[.int .i64 X, .int .i64 Y] 29 (0, 0)) ∧ Fr [] w5 wc)
          case first =>
            refine wp_region_held_drew (S := fun u => u.heap[b1]? = some (.cells C 31 (0, 0))) (by kernel_rfl) (KEEP.out _ HQ.out) (fun hHeld => ?_)
            refine wpAnyH_takeL (i := 0) (v := (.agg C)) rfl (by kernel_rfl) (by kernel_rfl) (by kernel_rfl) (fun _ _ _ h => h) (yieldsIf_load_mid (by rfl) 31 (Operand.tmp 7) rfl b1 0 rfl C.toList _ (fun w' hw' => range_blk (c := C) hw') Try.underlying31 rfl HCL0.out) (by assumption) ?_
            try simp only [Act.put, List.setIfInBounds_toArray, List.set_cons_zero, List.set_cons_succ]
            refine wpAnyH_takeL (i := 1) (v := _) rfl (by kernel_rfl) (by kernel_rfl) (by kernel_rfl) (fun _ _ _ h => h) (Or.inl ⟨by rfl, (by intro w' hSw; (try dsimp only at hSw); skip; go_simp; try with_reducible rfl)⟩) (by assumption) ?_
            try simp only [Act.put, List.setIfInBounds_toArray, List.set_cons_zero, List.set_cons_succ]
            refine wpAnyH_takeL (i := 2) (v := _) rfl (by kernel_rfl) (by kernel_rfl) (by kernel_rfl) (fun _ _ _ h => h) (Or.inl ⟨by rfl, (by intro w' hSw; (try dsimp only at hSw); skip; go_simp; try with_reducible rfl)⟩) (by assumption) ?_
            try simp only [Act.put, List.setIfInBounds_toArray, List.set_cons_zero, List.set_cons_succ]
            refine wpAnyH_takeL (i := 4) (v := (.agg C)) rfl (by kernel_rfl) (by kernel_rfl) (by kernel_rfl) (fun _ _ _ h => h) (yieldsIf_load_mid (by rfl) 31 (Operand.tmp 7) rfl b1 0 rfl C.toList _ (fun w' hw' => range_blk (c := C) hw') Try.underlying31 rfl HCL0.out) (by assumption) ?_
            try simp only [Act.put, List.setIfInBounds_toArray, List.set_cons_zero, List.set_cons_succ]
            refine wpAnyH_takeL (i := 5) (v := _) rfl (by kernel_rfl) (by kernel_rfl) (by kernel_rfl) (fun _ _ _ h => h) (Or.inl ⟨by rfl, (by intro w' hSw; (try dsimp only at hSw); skip; go_simp; try with_reducible rfl)⟩) (by assumption) ?_
            try simp only [Act.put, List.setIfInBounds_toArray, List.set_cons_zero, List.set_cons_succ]
            refine wpAnyH_takeL (i := 6) (v := _) rfl (by kernel_rfl) (by kernel_rfl) (by kernel_rfl) (fun _ _ _ h => h) (Or.inl ⟨by rfl, (by intro w' hSw; (try dsimp only at hSw); skip; go_simp; try with_reducible rfl)⟩) (by assumption) ?_
            try simp only [Act.put, List.setIfInBounds_toArray, List.set_cons_zero, List.set_cons_succ]
            refine wpAnyH_ready (rs := [3, 9]) (by kernel_rfl) (by simp) ?_
            refine AllReadyH.consL (i := 3) rfl (fun K hK => ?_) ?_
            · go_simp
              (refine (QP1.out _ HQ.out).mono ?_; rintro e wA ⟨rfl, fA⟩; have HQ := Lib.hid (HQ.out.trans fA (by simp [Ext])); clear fA)
              refine hK.out _ _ (KEEP.out _ HQ.out) (fun hHeld => ?_)
              clear hK K
              try simp only [Act.put, List.setIfInBounds_toArray, List.set_cons_zero, List.set_cons_succ]
              refine wpAnyH_ready (rs := [7, 9]) (by kernel_rfl) (by simp) ?_
              refine AllReadyH.consL (i := 7) rfl (fun K hK => ?_) ?_
              · go_simp
                (refine (QP2.out _ HQ.out).mono ?_; rintro e wB ⟨rfl, fB⟩; have HQ := Lib.hid (HQ.out.trans fB (by simp [Ext])); clear fB)
                refine hK.out _ _ (KEEP.out _ HQ.out) (fun hHeld => ?_)
                clear hK K
                try simp only [Act.put, List.setIfInBounds_toArray, List.set_cons_zero, List.set_cons_succ]
                refine wpAnyH_ready (rs := [8, 9]) (by kernel_rfl) (by simp) ?_
                refine AllReadyH.consL (i := 8) rfl (fun K hK => ?_) ?_
                · go_simp
                  (refine (QSub.out _ HQ.out).mono ?_; rintro e wC ⟨rfl, fC⟩; have HQ := Lib.hid (HQ.out.trans fC (by simp [Ext])); clear fC)
                  refine hK.out _ _ (KEEP.out _ HQ.out) (fun hHeld => ?_)
                  clear hK K
                  try simp only [Act.put, List.setIfInBounds_toArray, List.set_cons_zero, List.set_cons_succ]
                  refine wpAnyH_ready (rs := [9]) (by kernel_rfl) (by simp) ?_
                  refine AllReadyH.consL (i := 9) rfl (fun K hK => ?_) AllReadyH.nil
                  go_simp
                  (obtain ⟨bm, hbm⟩ : ∃ bm, bm = (wC).heap.size := ⟨_, rfl⟩; have HM := Lib.hid (alloc_new (wC) (.cells #[.int .i64 0, .int .i64 0] 29)); have hbg : w5.heap.size ≤ bm := Nat.le_trans HQ.out.size (Nat.le_of_eq hbm.symm); have HQ := Lib.hid (HQ.out.alloc (.cells #[.int .i64 0, .int .i64 0] 29)); rw [← hbm] at HM; (try simp only [World.drew] at hbm ⊢); rw [← hbm]; clear hbm)
                  refine hK.out _ _ (KEEP.out _ HQ.out) (fun hHeld => ?_)
                  clear hK K
                  try simp only [Act.put, List.setIfInBounds_toArray, List.set_cons_zero, List.set_cons_succ]
                  refine wpAnyH_ready (rs := [10]) (by kernel_rfl) (by simp) ?_
                  refine AllReadyH.consL (i := 10) rfl (fun K hK => ?_) AllReadyH.nil
                  rw [if_pos (by rfl)]; refine wp_storeB 29 (Operand.tmp 11) (Operand.tmp 46) rfl bm 2 #[.int .i64 X, .int .i64 Y] rfl rfl _ 29 HM.out rfl rfl infoVec (by simp [Value.oneCell']) ?_; intro wf hbf hff; have HQ := Lib.hid (HQ.out.trans hff (fun k hk => .inr (by simp at hk; omega))); have HB := Lib.hid hbf; clear hbf hff
                  refine hK.out _ _ (KEEP.out _ HQ.out) (fun hHeld => ?_)
                  clear hK K
                  try simp only [Act.put, List.setIfInBounds_toArray, List.set_cons_zero, List.set_cons_succ]
                  refine wpAnyH_done (by kernel_rfl) ?_ _
                  go_wp2_with fail
                  go_meet
                  exact ⟨bm, rfl, HB.out, HQ.out⟩
                refine AllReadyH.consL (i := 9) rfl (fun K hK => ?_) AllReadyH.nil
                go_simp
                (obtain ⟨bm, hbm⟩ : ∃ bm, bm = (wB).heap.size := ⟨_, rfl⟩; have HM := Lib.hid (alloc_new (wB) (.cells #[.int .i64 0, .int .i64 0] 29)); have hbg : w5.heap.size ≤ bm := Nat.le_trans HQ.out.size (Nat.le_of_eq hbm.symm); have HQ := Lib.hid (HQ.out.alloc (.cells #[.int .i64 0, .int .i64 0] 29)); rw [← hbm] at HM; (try simp only [World.drew] at hbm ⊢); rw [← hbm]; clear hbm)
                refine hK.out _ _ (KEEP.out _ HQ.out) (fun hHeld => ?_)
                clear hK K
                try simp only [Act.put, List.setIfInBounds_toArray, List.set_cons_zero, List.set_cons_succ]
                refine wpAnyH_ready (rs := [8]) (by kernel_rfl) (by simp) ?_
                refine AllReadyH.consL (i := 8) rfl (fun K hK => ?_) AllReadyH.nil
                go_simp
                (refine (QSub.out _ HQ.out).mono ?_; rintro e wC ⟨rfl, fC⟩; have HM := Lib.hid (fC.blk HM.out (by simp)); have HQ := Lib.hid (HQ.out.trans fC (by simp [Ext])); clear fC)
                refine hK.out _ _ (KEEP.out _ HQ.out) (fun hHeld => ?_)
                clear hK K
                try simp only [Act.put, List.setIfInBounds_toArray, List.set_cons_zero, List.set_cons_succ]
                refine wpAnyH_ready (rs := [10]) (by kernel_rfl) (by simp) ?_
                refine AllReadyH.consL (i := 10) rfl (fun K hK => ?_) AllReadyH.nil
                rw [if_pos (by rfl)]; refine wp_storeB 29 (Operand.tmp 11) (Operand.tmp 46) rfl bm 2 #[.int .i64 X, .int .i64 Y] rfl rfl _ 29 HM.out rfl rfl infoVec (by simp [Value.oneCell']) ?_; intro wf hbf hff; have HQ := Lib.hid (HQ.out.trans hff (fun k hk => .inr (by simp at hk; omega))); have HB := Lib.hid hbf; clear hbf hff
                refine hK.out _ _ (KEEP.out _ HQ.out) (fun hHeld => ?_)
                clear hK K
                try simp only [Act.put, List.setIfInBounds_toArray, List.set_cons_zero, List.set_cons_succ]
                refine wpAnyH_done (by kernel_rfl) ?_ _
                go_wp2_with fail
                go_meet
                exact ⟨bm, rfl, HB.out, HQ.out⟩
              refine AllReadyH.consL (i := 9) rfl (fun K hK => ?_) AllReadyH.nil
              go_simp
              (obtain ⟨bm, hbm⟩ : ∃ bm, bm = (wA).heap.size := ⟨_, rfl⟩; have HM := Lib.hid (alloc_new (wA) (.cells #[.int .i64 0, .int .i64 0] 29)); have hbg : w5.heap.size ≤ bm := Nat.le_trans HQ.out.size (Nat.le_of_eq hbm.symm); have HQ := Lib.hid (HQ.out.alloc (.cells #[.int .i64 0, .int .i64 0] 29)); rw [← hbm] at HM; (try simp only [World.drew] at hbm ⊢); rw [← hbm]; clear hbm)
              refine hK.out _ _ (KEEP.out _ HQ.out) (fun hHeld => ?_)
              clear hK K
              try simp only [Act.put, List.setIfInBounds_toArray, List.set_cons_zero, List.set_cons_succ]
              refine wpAnyH_ready (rs := [7]) (by kernel_rfl) (by simp) ?_
              refine AllReadyH.consL (i := 7) rfl (fun K hK => ?_) AllReadyH.nil
              go_simp
              (refine (QP2.out _ HQ.out).mono ?_; rintro e wB ⟨rfl, fB⟩; have HM := Lib.hid (fB.blk HM.out (by simp)); have HQ := Lib.hid (HQ.out.trans fB (by simp [Ext])); clear fB)
              refine hK.out _ _ (KEEP.out _ HQ.out) (fun hHeld => ?_)
              clear hK K
              try simp only [Act.put, List.setIfInBounds_toArray, List.set_cons_zero, List.set_cons_succ]
              refine wpAnyH_ready (rs := [8]) (by kernel_rfl) (by simp) ?_
              refine AllReadyH.consL (i := 8) rfl (fun K hK => ?_) AllReadyH.nil
              go_simp
              (refine (QSub.out _ HQ.out).mono ?_; rintro e wC ⟨rfl, fC⟩; have HM := Lib.hid (fC.blk HM.out (by simp)); have HQ := Lib.hid (HQ.out.trans fC (by simp [Ext])); clear fC)
              refine hK.out _ _ (KEEP.out _ HQ.out) (fun hHeld => ?_)
              clear hK K
              try simp only [Act.put, List.setIfInBounds_toArray, List.set_cons_zero, List.set_cons_succ]
              refine wpAnyH_ready (rs := [10]) (by kernel_rfl) (by simp) ?_
              refine AllReadyH.consL (i := 10) rfl (fun K hK => ?_) AllReadyH.nil
              rw [if_pos (by rfl)]; refine wp_storeB 29 (Operand.tmp 11) (Operand.tmp 46) rfl bm 2 #[.int .i64 X, .int .i64 Y] rfl rfl _ 29 HM.out rfl rfl infoVec (by simp [Value.oneCell']) ?_; intro wf hbf hff; have HQ := Lib.hid (HQ.out.trans hff (fun k hk => .inr (by simp at hk; omega))); have HB := Lib.hid hbf; clear hbf hff
              refine hK.out _ _ (KEEP.out _ HQ.out) (fun hHeld => ?_)
              clear hK K
              try simp only [Act.put, List.setIfInBounds_toArray, List.set_cons_zero, List.set_cons_succ]
              refine wpAnyH_done (by kernel_rfl) ?_ _
              go_wp2_with fail
              go_meet
              exact ⟨bm, rfl, HB.out, HQ.out⟩
            refine AllReadyH.consL (i := 9) rfl (fun K hK => ?_) AllReadyH.nil
            go_simp
            (obtain ⟨bm, hbm⟩ : ∃ bm, bm = (wr.drew).heap.size := ⟨_, rfl⟩; have HM := Lib.hid (alloc_new (wr.drew) (.cells #[.int .i64 0, .int .i64 0] 29)); have hbg : w5.heap.size ≤ bm := Nat.le_trans HQ.out.size (Nat.le_of_eq hbm.symm); have HQ := Lib.hid (HQ.out.alloc (.cells #[.int .i64 0, .int .i64 0] 29)); rw [← hbm] at HM; (try simp only [World.drew] at hbm ⊢); rw [← hbm]; clear hbm)
            refine hK.out _ _ (KEEP.out _ HQ.out) (fun hHeld => ?_)
            clear hK K
            try simp only [Act.put, List.setIfInBounds_toArray, List.set_cons_zero, List.set_cons_succ]
            refine wpAnyH_ready (rs := [3]) (by kernel_rfl) (by simp) ?_
            refine AllReadyH.consL (i := 3) rfl (fun K hK => ?_) AllReadyH.nil
            go_simp
            (refine (QP1.out _ HQ.out).mono ?_; rintro e wA ⟨rfl, fA⟩; have HM := Lib.hid (fA.blk HM.out (by simp)); have HQ := Lib.hid (HQ.out.trans fA (by simp [Ext])); clear fA)
            refine hK.out _ _ (KEEP.out _ HQ.out) (fun hHeld => ?_)
            clear hK K
            try simp only [Act.put, List.setIfInBounds_toArray, List.set_cons_zero, List.set_cons_succ]
            refine wpAnyH_ready (rs := [7]) (by kernel_rfl) (by simp) ?_
            refine AllReadyH.consL (i := 7) rfl (fun K hK => ?_) AllReadyH.nil
            go_simp
            (refine (QP2.out _ HQ.out).mono ?_; rintro e wB ⟨rfl, fB⟩; have HM := Lib.hid (fB.blk HM.out (by simp)); have HQ := Lib.hid (HQ.out.trans fB (by simp [Ext])); clear fB)
            refine hK.out _ _ (KEEP.out _ HQ.out) (fun hHeld => ?_)
            clear hK K
            try simp only [Act.put, List.setIfInBounds_toArray, List.set_cons_zero, List.set_cons_succ]
            refine wpAnyH_ready (rs := [8]) (by kernel_rfl) (by simp) ?_
            refine AllReadyH.consL (i := 8) rfl (fun K hK => ?_) AllReadyH.nil
            go_simp
            (refine (QSub.out _ HQ.out).mono ?_; rintro e wC ⟨rfl, fC⟩; have HM := Lib.hid (fC.blk HM.out (by simp)); have HQ := Lib.hid (HQ.out.trans fC (by simp [Ext])); clear fC)
            refine hK.out _ _ (KEEP.out _ HQ.out) (fun hHeld => ?_)
            clear hK K
            try simp only [Act.put, List.setIfInBounds_toArray, List.set_cons_zero, List.set_cons_succ]
            refine wpAnyH_ready (rs := [10]) (by kernel_rfl) (by simp) ?_
            refine AllReadyH.consL (i := 10) rfl (fun K hK => ?_) AllReadyH.nil
            rw [if_pos (by rfl)]; refine wp_storeB 29 (Operand.tmp 11) (Operand.tmp 46) rfl bm 2 #[.int .i64 X, .int .i64 Y] rfl rfl _ 29 HM.out rfl rfl infoVec (by simp [Value.oneCell']) ?_; intro wf hbf hff; have HQ := Lib.hid (HQ.out.trans hff (fun k hk => .inr (by simp at hk; omega))); have HB := Lib.hid hbf; clear hbf hff
            refine hK.out _ _ (KEEP.out _ HQ.out) (fun hHeld => ?_)
            clear hK K
            try simp only [Act.put, List.setIfInBounds_toArray, List.set_cons_zero, List.set_cons_succ]
            refine wpAnyH_done (by kernel_rfl) ?_ _
            go_wp2_with fail
            go_meet
            exact ⟨bm, rfl, HB.out, HQ.out⟩
          case rest =>
            obtain ⟨b, rfl, hbv, hfc⟩ := hcut
            have HFC := Lib.hid hfc
            have v0 : wc.cell? ⟨b, 0, none⟩ = some (.int .i64 X) := cell_blk hbv 0
            have v1 : wc.cell? ⟨b, 1, none⟩ = some (.int .i64 Y) := cell_blk hbv 1
            have c8 := K8.out wc hfc
            have HBW := Lib.hid (KEEP.out wc hfc)
            clear hbv hfc
            obtain ⟨t, ht⟩ : ∃ t, t = seesB s rooms doors cells (p : Int) (i : Int) := ⟨_, rfl⟩
            have QS := Lib.hid (by rw [ht]; exact QSees.out wc HFC.out (p : Int) (i : Int) : Calls Try.prog 21 #[.agg C, .slice (some ⟨bc, 0, none⟩) n n, .int .i64 (p : Int), .int .i64 (i : Int)] wc (fun e w' => e = .returned (.bool t) ∧ Fr [] wc w'))
            have HT := Lib.hid ht
            clear ht
            go_upto_region 13 with fail
            go_cut [12] (fun s12 wd => s12 = .bool t ∧ wd = wc)
            case first =>
              by_cases hip : i = p
              · have e1 : ((i : Int) == (p : Int)) = true := beq_iff_eq.2 (by omega)
                have e2 : (i == p) = true := beq_iff_eq.2 hip
                have HR := Lib.hid (by rw [HT.out, HROOMS.out, HDOORS.out, hip]; exact fog_self s cells p pl HPL.out hpp (by rw [HSN.out]; omega) : t = true)
                clear hip
                go_wp2_with fail
                go_meet
                exact ⟨by rw [HR.out], rfl⟩
              · have e1 : ((i : Int) == (p : Int)) = false := beq_eq_false_iff_ne.2 (by omega)
                have e2 : (i == p) = false := beq_eq_false_iff_ne.2 hip
                have HR := Lib.hid (by rw [HT.out, HROOMS.out, HDOORS.out]; rw [← HFOG.out]; exact fog_sees s cells p i pl HPL.out hpp (by rw [HSN.out]; exact hii) (by rw [HSN.out]; omega) hip (HIC.out p (by omega)) (HIC.out i hii) HXE.out HYE.out : t = decide (X * X + Y * Y < ((f : Int) + 1) * ((f : Int) + 1)))
                obtain ⟨A, hA⟩ : ∃ A, X * X = A := ⟨_, rfl⟩
                obtain ⟨B, hB⟩ : ∃ B, Y * Y = B := ⟨_, rfl⟩
                obtain ⟨G, hG⟩ : ∃ G, ((f : Int) + 1) * ((f : Int) + 1) = G := ⟨_, rfl⟩
                obtain ⟨hA0, hA1⟩ := (by rw [← hA]; exact sq_bound HXD.out : 0 ≤ A ∧ A ≤ 4398046511104)
                obtain ⟨hB0, hB1⟩ := (by rw [← hB]; exact sq_bound HYD.out : 0 ≤ B ∧ B ≤ 4398046511104)
                obtain ⟨hG0, hG1⟩ := (by rw [← hG]; exact sq_bound (by unfold inD; omega) : 0 ≤ G ∧ G ≤ 4398046511104)
                rw [hA, hB, hG] at HR
                clear hip
                go_wp2_with fail
                go_meet
                exact ⟨by rw [HR.out], rfl⟩
            case rest =>
              obtain ⟨rfl, hwd⟩ := hcut
              subst hwd
              clear v0 v1 c8
              go_wp2_with (refine wpList_loadB rfl 31 (Operand.tmp 7) rfl b1 16 rfl C 31 (0, 0) HBW.out _ Try.underlying31 rfl HCS.out infoSetup ?_)
              refine QS.out.mono ?_
              rintro e we ⟨rfl, fe⟩
              have FE := Lib.hid (HFC.out.trans fe (by simp [Ext]))
              clear fe
              go_wp2_with fail
              go_roundw
              case rel => exact ⟨i + 1, by omega, by go_num, FE.out⟩
              case measure => simp [intOf]; omega
        · go_wp2_with fail
          go_roundw
          case rel => exact ⟨p + 1, by omega, by go_num, HF2.out⟩
          case measure => simp [intOf]; omega
    · go_wp2_with fail
      refine (lives_any _).mono ?_
      rintro e w9 ⟨rfl, f9⟩
      have F9 := Lib.hid (((F1.out.trans F5.out (by simp [Ext])).trans HF1.out (by simp [Ext])).trans f9 (by simp [Ext]))
      clear f9
      go_wp2_with fail
      go_ret
      exact ⟨rfl, F9.out⟩
end Go.Proofs.Ytdbngpncigjfiaa
