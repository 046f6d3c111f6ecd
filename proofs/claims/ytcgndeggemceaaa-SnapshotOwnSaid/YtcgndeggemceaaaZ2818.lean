/- SnOwn (merged by merge.py). -/
import Derived.Test.YtcgndeggemceaaaZ2816
import Derived.Test.YtcgndeggemceaaaZ2817
/- SnapshotOwn returns true (written by genlaw28.py). -/
namespace Go.Proofs.Ytcgndeggemceaaa
open Go.RowKit

set_option maxRecDepth 100000 in
set_option maxHeartbeats 16000000 in
theorem snown_walk (w : World) (lo mo : Option Addr) (lc mc : Nat) (l m : List Int) (hl : Rd w 1 lo l.length (ints l)) (hlb : ∀ x ∈ l, bounded x) (hm : Rd w 1 mo m.length (ints m)) (hmb : ∀ x ∈ m, bounded x) (player : Int) (hpb : bounded player) :
    Calls Try.prog 9 #[.slice lo l.length lc, .slice mo m.length mc, .int .i64 player] w fun e w' => e = .returned (.bool true) ∧ Fr [] w w' := by
  have HSU := Lib.hid (setup_any w lo lc l hl hlb)
  have HAT := Lib.hid (fun u (hu : Fr [] w u) => hm.fr hu (by simp))
  have HMB := Lib.hid hmb
  clear hl hlb hm hmb
  go_enter Try.func9, Try.ntmps9
  go_wp2_with fail
  refine HSU.out.mono ?_
  rintro e w1 ⟨s, bodies, doors, rfl, hs⟩
  have HS := Lib.hid hs
  have F1 := Lib.hid hs.fr
  obtain ⟨C, hC⟩ := cAt s
  have HCS := Lib.hid hC.size
  have HV := Lib.hid hC.val
  have HC := Lib.hid hC
  have hCl : (Try.prog.info? 49).map (·.size) = some C.toList.length := by rw [Array.length_toList, hC.size]; exact infoSetup
  have HO := Lib.hid (by have h := hC.val; unfold St.val at h; injection h with h; rw [← h]; simp [Value.oneCell'] : C.all (·.oneCell') = true)
  obtain ⟨b1, hb1⟩ : ∃ b1, b1 = w1.heap.size := ⟨_, rfl⟩
  have HB1 := Lib.hid hb1
  rw [HV.out]
  have HCL0 := Lib.hid hCl
  clear hs hb1 hC HSU hCl
  go_upto_region 2 with (refine wpList_storeB rfl 49 (Operand.tmp 7) (Operand.tmp 15) rfl w1.heap.size 16 C rfl rfl _ 49 (by exact alloc_new _ _) rfl HCS.out infoSetup HO.out ?_; intro w2 hb2 hf2; have F2 := Lib.hid (((Fr.refl [] w1).alloc _).trans hf2 (fun k hk => .inr (by simp at hk; omega))); have B2 := Lib.hid (by rw [HB1.out]; exact hb2 : w2.heap[b1]? = some (.cells C 49 (0, 0))); clear hb2 hf2)
  rw [← HB1.out]
  obtain ⟨pl, hpl⟩ : ∃ pl : Nat, s.players = (pl : Int) := ⟨s.players.toNat, by have := HS.out.num.1; omega⟩
  have hpl3 : 1 ≤ pl ∧ pl ≤ 3 := by have := HS.out.num.1; omega
  have hpn : pl ≤ bodies.length := by have := HS.out.pn; omega
  have hb5 := HS.out.b5
  have HPL := Lib.hid hpl
  obtain ⟨n, hn⟩ : ∃ n, n = 48 + 4 * pl + 8 * bodies.length := ⟨_, rfl⟩
  have HN := Lib.hid hn
  have HST := Lib.hid (fun u (hu : Fr [] w1 u) => (by
    rw [← HV.out]
    exact state_any u s bodies HS.out.ok pl hpl hpl3.2 (HS.out.bd hu) hb5 (by omega) (fun d hd => (HS.out.good d hd).1) mo mc m (HAT.out u (F1.out.trans hu (by simp [Ext]))) HMB.out n hn : Calls Try.prog 21 #[.agg C, .slice mo m.length mc] u (State28To u pl bodies.length n)))
  obtain ⟨nb, hnb⟩ : ∃ nb, nb = bodies.length := ⟨_, rfl⟩
  have HNB := Lib.hid hnb
  have HSN := Lib.hid (HS.out.nb.trans hnb.symm)
  rw [← hnb] at hpn hb5
  have hn100 : n ≤ 100 := by omega
  have hn1 : 56 ≤ n := by omega
  have hnn : n = 48 + 4 * pl + 8 * nb := by omega
  have HNN := Lib.hid hnn
  clear hpl hn hnb hnn
  go_wp2_with (refine wpList_loadB rfl 49 (Operand.tmp 7) rfl b1 16 rfl C 49 (0, 0) B2.out _ Try.underlying49 rfl HCS.out infoSetup ?_)
  refine (HST.out w2 F2.out).mono ?_
  rintro e w5 ⟨g, off, sc, cells, rfl, hcl, hseg, hg, f5, hsm, hpo⟩
  have HCL := Lib.hid hcl
  have SG := Lib.hid (fun u (hu : Fr [] w5 u) => hseg.fr hu (by simp))
  have F5 := Lib.hid (F2.out.trans f5 (by simp [Ext]))
  have B5 := Lib.hid (f5.blk B2.out (by simp))
  have HSM := Lib.hid hsm
  have HPO := Lib.hid hpo
  have HG2 := Lib.hid hg
  have VP := Lib.hid (fun u (hu : Fr [] w5 u) => HS.out.vpreR (F5.out.trans hu (by simp [Ext])) HPL.out HN.out (SG.out u hu) HCL.out HPO.out)
  have KEEP := Lib.hid (fun u (hu : Fr [] w5 u) => (hu.blk B5.out (by simp) : u.heap[b1]? = some (.cells C 49 (0, 0))))
  obtain ⟨SE, hSE⟩ : ∃ SE : Nat → List Int, SE = fun k : Nat => seenL s roomsL doors cells ((k : Nat) : Int) := ⟨_, rfl⟩
  obtain ⟨VW, hVW⟩ : ∃ VW : Nat → List (Int × Int), VW = fun k : Nat => viewL pl cells k (SE k) := ⟨_, rfl⟩
  have QView := Lib.hid (fun u (hu : Fr [] w5 u) (k : Nat) (hk : k < pl) => (by
    have h := view_any (VP.out u hu) pl k HPL.out hk (by rw [HCL.out]; omega) (SG.out u hu).lt
    rw [HV.out, HCL.out] at h; rw [hVW, hSE]; exact h : Calls Try.prog 22 #[.agg C, .slice (some ⟨g, off, none⟩) n sc, .int .i64 (k : Int)] u (CelTo u (VW k))))
  have HVW := Lib.hid hVW
  have HSE := Lib.hid hSE
  have K0 := Lib.hid (fun u (hu : Fr [] w5 u) => (by have h := cell_blk (KEEP.out u hu) 0; rw [h, HC.out.c0, HPL.out] : u.cell? ⟨b1, 0, none⟩ = some (.int .i64 (pl : Int))))
  have K1 := Lib.hid (fun u (hu : Fr [] w5 u) => (by have h := cell_blk (KEEP.out u hu) 1; rw [h, HC.out.c1, HSN.out] : u.cell? ⟨b1, 1, none⟩ = some (.slice s.bo nb s.bc)))
  clear hcl hseg hsm hpo f5 HST hg hVW hSE
  obtain ⟨p, hp, -, hA⟩ := around_nat player pl hpb (by omega) (by omega)
  have HA := Lib.hid hA
  have c00 := K0.out w5 (Fr.refl _ _)
  clear hA
  go_upto_region 4 with (go_at_call 18; refine (HA.out _).mono ?_; rintro e w' ⟨rfl, rfl⟩)
  clear c00 HA
  obtain ⟨q, hq⟩ : ∃ q : Nat → Bool, q = fun k : Nat => seesB s roomsL doors cells (p : Int) (k : Int) := ⟨_, rfl⟩
  have hqp : q p = true := by rw [hq]; exact sees_own HPL.out hp (by rw [HSN.out]; omega)
  have HPLR := Lib.hid (fun (u : World) => (by
    have r := player_any u s HS.out.ok (p : Int)
    rw [show plOf s (p : Int) = ((48 + 4 * p : Nat) : Int) by unfold plOf; rw [if_neg (by rw [HPL.out]; omega)]; omega, HV.out] at r; exact r : Calls Try.prog 26 #[.agg C, .int .i64 (p : Int)] u fun e w' => e = .returned (.int .i64 ((48 + 4 * p : Nat) : Int)) ∧ Fr [] u w'))
  have HBDR := Lib.hid (fun (u : World) (i : Nat) (hi : i < nb) => (by
    have r := body_any u s HS.out.ok (i : Int)
    rw [show bdOf s (i : Int) = ((48 + 4 * pl + 8 * i : Nat) : Int) by unfold bdOf; rw [if_neg (by rw [HSN.out]; omega), HPL.out]; omega, HV.out] at r; exact r : Calls Try.prog 27 #[.agg C, .int .i64 (i : Int)] u fun e w' => e = .returned (.int .i64 ((48 + 4 * pl + 8 * i : Nat) : Int)) ∧ Fr [] u w'))
  have HB5 := Lib.hid (KEEP.out w5 (Fr.refl _ _))
  go_wp2_with (refine wpList_loadB rfl 49 (Operand.tmp 7) rfl b1 16 rfl C 49 (0, 0) (HB5.out) _ Try.underlying49 rfl HCS.out infoSetup ?_)
  refine (QView.out w5 (Fr.refl _ _) p hp).mono ?_
  rintro e w6 ⟨vo, vc, rfl, hsv, f6, -⟩
  obtain ⟨V, hV⟩ : ∃ V, V = VW p := ⟨_, rfl⟩
  rw [← hV] at hsv ⊢
  have hVe : V = viewL pl cells p (accL q nb) := by rw [hV, HVW.out, HSE.out, hq, ← HSN.out]; rfl
  have HVM := Lib.hid (fun x (hx : x ∈ V) => (by rw [hVe] at hx; have h := view_mem hp hx; rw [← HNN.out] at h; exact h : ∃ k : Nat, x = ((k : Int), cells.getD k 0) ∧ k < n))
  have HVS := Lib.hid (by rw [hVe]; exact view_sorted hp : V.Pairwise fun a b => a.1 < b.1)
  have HVC := Lib.hid (by rw [hVe]; exact view_count hp (by omega) hqp : V.countP (fun x => ownB pl p x.1) = 13)
  obtain ⟨mm, hm1, hm2⟩ : ∃ m, V.length = 13 + 8 * m ∧ m ≤ nb := by rw [hVe]; exact view_len (by omega) hqp
  have hVl : V.length ≤ 100 := by omega
  have HM1 := Lib.hid hm1
  clear hm1
  have HSV := Lib.hid (fun u (hu : Fr [] w6 u) => (hsv.fr hu (by simp)).rd)
  have F6 := Lib.hid f6
  have HCC := Lib.hid (fun u (hu : Fr [] w6 u) (k : Nat) (hk : k < n) => (by
    obtain ⟨g', o', he, -, hc⟩ := (SG.out u (f6.trans hu (by simp [Ext]))).rd.at (by omega)
    cases he
    rw [hc k (by omega), ints_get, List.getElem?_eq_getElem (by rw [HCL.out]; exact hk), List.getD_eq_getElem?_getD, List.getElem?_eq_getElem (by rw [HCL.out]; exact hk)]; rfl : u.cell? ⟨g, off + k, none⟩ = some (.int .i64 (cells.getD k 0))))
  have KB := Lib.hid (fun u (hu : Fr [] w6 u) => KEEP.out u (f6.trans hu (by simp [Ext])))
  clear hq hqp hV hVe hsv f6 HB5
  go_wp2_with fail
  go_loopw [11, 12] (fun ow iv wr => ∃ i : Nat, i ≤ V.length ∧ ow = .int .i64 (((V.take i).countP (fun x => ownB pl p x.1) : Nat) : Int) ∧ iv = .int .i64 (i : Int) ∧ Fr [] w6 wr) (fun _ iv _ => V.length - (intOf iv).toNat)
  case atStart => exact ⟨0, by omega, rfl, rfl, Fr.refl _ _⟩
  case round =>
    obtain ⟨i, hi, rfl, rfl, hf⟩ := hrel
    have HF := Lib.hid hf
    obtain ⟨c, hc⟩ : ∃ c, c = (V.take i).countP (fun x => ownB pl p x.1) := ⟨_, rfl⟩
    have hcb : c ≤ 100 := by
      have h1 : (V.take i).countP (fun x => ownB pl p x.1) ≤ (V.take i).length := List.countP_le_length
      rw [List.length_take] at h1; omega
    rw [← hc]
    have HCE := Lib.hid hc
    clear hf hc
    by_cases hil : i < V.length
    · have hlt : (i : Int) < (V.length : Int) := by omega
      obtain ⟨gv, ov, hve, hgv, d0, d1⟩ := (HSV.out wr HF.out).cel hil
      obtain ⟨k, hk, hkn⟩ := HVM.out _ (List.getElem_mem hil)
      have e0 := HCC.out wr HF.out k hkn
      obtain ⟨x, hx⟩ : ∃ x, x = cells.getD k 0 := ⟨_, rfl⟩
      rw [← hx] at hk e0
      have HKV := Lib.hid (by
        have h1 : V.take (i + 1) = V.take i ++ [V[i]] := by rw [List.take_succ_eq_append_getElem hil]
        rw [h1, List.countP_append, ← HCE.out, hk, List.countP_singleton] : (V.take (i + 1)).countP (fun x => ownB pl p x.1) = c + if ownB pl p (k : Int) = true then 1 else 0)
      rw [hk] at d0 d1
      dsimp only at d0 d1
      have hkni : (k : Int) < (n : Int) := by omega
      have dk0 : decide (k < 0) = false := by simp
      have dkn : decide (n ≤ k) = false := decide_eq_false (by omega)
      have hxx : (x != x) = false := by simp
      have HPRE := Lib.hid (fun (j : Nat) (hj : j + 1 = i) => (by
        obtain ⟨gv', ov', hve', -, h2, -⟩ := (HSV.out wr HF.out).cel (show j < V.length by omega)
        rw [hve] at hve'; cases hve'
        have h3 := List.pairwise_iff_getElem.1 HVS.out j i (by omega) hil (by omega)
        rw [hk] at h3
        exact ⟨_, h3, h2⟩ : ∃ y : Int, y < (k : Int) ∧ wr.cell? ⟨gv, ov + j * 2, none⟩ = some (.int .i64 y)))
      subst hve
      clear hk hx
      go_upto_region 10 with fail
      go_cut [59] (fun s59 wc => s59 = .bool false ∧ wr = wc)
      case first =>
        by_cases hi0 : i = 0
        · have di : decide (0 < i) = false := decide_eq_false (by omega)
          clear d0 d1 e0 hlt hi0
          go_wp2_with fail
          go_meet
          exact ⟨rfl, rfl⟩
        · have di : decide (0 < i) = true := decide_eq_true (by omega)
          obtain ⟨j, hj⟩ : ∃ j, j + 1 = i := ⟨i - 1, by omega⟩
          obtain ⟨y, hyk, dy⟩ := HPRE.out j hj
          have wj : IntKind.i64.wrap ((i : Int) - 1) = (j : Int) := by rw [IntWalk.i64_in _ (by omega)]; omega
          have hjl : j < V.length := by omega
          have hjli : (j : Int) < (V.length : Int) := by omega
          have dyk : decide ((k : Int) ≤ y) = false := decide_eq_false (by omega)
          clear d0 d1 e0 hlt hi0 hj
          go_wp2_with fail
          go_meet
          exact ⟨rfl, rfl⟩
      case rest =>
        obtain ⟨rfl, rfl⟩ := hcut
        clear dk0 dkn HPRE
        go_upto_region 12 with fail
        go_quiet (fail)
        go_upto_region 14 with fail
        have HDN := Lib.hid (fun n => (HF.out.drewN n : Fr [] w6 (wr.drewN n)))
        obtain ⟨a, ha⟩ : ∃ a, a = 48 + 4 * p := ⟨_, rfl⟩
        obtain ⟨b, hb⟩ : ∃ b, b = 48 + 4 * pl + 8 * p := ⟨_, rfl⟩
        have hab : a + 4 ≤ b := by omega
        have hbn : b ≤ 100 := by omega
        have QP := Lib.hid (fun (u : World) => (by have r := HPLR.out u; rw [← ha] at r; exact r : Calls Try.prog 26 #[.agg C, .int .i64 (p : Int)] u fun e w' => e = .returned (.int .i64 (a : Int)) ∧ Fr [] u w'))
        have QB := Lib.hid (fun (u : World) => (by have r := HBDR.out u p (by omega); rw [← hb] at r; exact r : Calls Try.prog 27 #[.agg C, .int .i64 (p : Int)] u fun e w' => e = .returned (.int .i64 (b : Int)) ∧ Fr [] u w'))
        have hOB : ownB pl p (k : Int) = (decide (k = 0) || (decide (a ≤ k) && decide (k < a + 4)) || (decide (b ≤ k) && decide (k < b + 8))) := by
          unfold ownB
          rw [← ha, ← hb]
          congr 1
          · congr 1
            · rw [Bool.eq_iff_iff]; simp
            · congr 1 <;> (rw [decide_eq_decide]; omega)
          · congr 1 <;> (rw [decide_eq_decide]; omega)
        have HOB := Lib.hid hOB
        have wa : IntKind.i64.wrap ((a : Int) + 4) = (a : Int) + 4 := IntWalk.i64_in _ (by omega)
        have wb : IntKind.i64.wrap ((b : Int) + 8) = (b : Int) + 8 := IntWalk.i64_in _ (by omega)
        clear hOB ha hb d0 d1 e0 hxx hlt hkni
        go_cut [101] (fun s101 wc => s101 = .bool (ownB pl p (k : Int)) ∧ Fr [] w6 wc)
        case first =>
          have HBa := Lib.hid (fun n => KB.out _ (HDN.out n))
          rcases (show (k = 0) ∨ (0 < k ∧ k < a) ∨ (0 < k ∧ a ≤ k ∧ k < a + 4) ∨ (0 < k ∧ a + 4 ≤ k ∧ k < b) ∨ (0 < k ∧ b ≤ k ∧ k < b + 8) ∨ (0 < k ∧ b + 8 ≤ k) by omega) with hk6 | hk6 | hk6 | hk6 | hk6 | hk6
          · have q0 : ((k : Int) == 0) = true := beq_iff_eq.2 (by omega)
            have q1 : (k == 0) = true := beq_iff_eq.2 (by omega)
            have HVAL := Lib.hid (by rw [HOB.out]; simp; omega : ownB pl p (k : Int) = true)
            clear hk6
            go_wp2_with fail
            go_meet
            exact ⟨by rw [HVAL.out], (HDN.out _)⟩
          · have d0 : decide (a ≤ k) = false := decide_eq_false (by omega)
            have d1 : decide (b ≤ k) = false := decide_eq_false (by omega)
            have q0 : ((k : Int) == 0) = false := beq_eq_false_iff_ne.2 (by omega)
            have q1 : (k == 0) = false := beq_eq_false_iff_ne.2 (by omega)
            have HVAL := Lib.hid (by rw [HOB.out]; simp; omega : ownB pl p (k : Int) = false)
            clear hk6
            go_wp2_with (refine wpList_loadG (by rfl) 49 (Operand.tmp 7) rfl b1 16 rfl C 49 (0, 0) (HBa.out _) _ Try.underlying49 rfl HCS.out infoSetup ?_)
            refine (QP.out _).mono ?_
            rintro e wv0 ⟨rfl, fv0⟩
            have FV0 := Lib.hid ((HDN.out _).trans fv0 (by simp [Ext]))
            have HBv0 := Lib.hid (KB.out _ FV0.out)
            clear fv0
            go_wp2_with (refine wpList_loadG (by rfl) 49 (Operand.tmp 7) rfl b1 16 rfl C 49 (0, 0) HBv0.out _ Try.underlying49 rfl HCS.out infoSetup ?_)
            refine (QB.out _).mono ?_
            rintro e wv1 ⟨rfl, fv1⟩
            have FV1 := Lib.hid (FV0.out.trans fv1 (by simp [Ext]))
            have HBv1 := Lib.hid (KB.out _ FV1.out)
            clear fv1
            go_wp2_with fail
            go_meet
            exact ⟨by rw [HVAL.out], FV1.out⟩
          · have d0 : decide (a ≤ k) = true := decide_eq_true (by omega)
            have d1 : decide (k < a + 4) = true := decide_eq_true (by omega)
            have e1 : decide ((k : Int) < (a : Int) + 4) = true := decide_eq_true (by omega)
            have q0 : ((k : Int) == 0) = false := beq_eq_false_iff_ne.2 (by omega)
            have q1 : (k == 0) = false := beq_eq_false_iff_ne.2 (by omega)
            have HVAL := Lib.hid (by rw [HOB.out]; simp; omega : ownB pl p (k : Int) = true)
            clear hk6
            go_wp2_with (refine wpList_loadG (by rfl) 49 (Operand.tmp 7) rfl b1 16 rfl C 49 (0, 0) (HBa.out _) _ Try.underlying49 rfl HCS.out infoSetup ?_)
            refine (QP.out _).mono ?_
            rintro e wv0 ⟨rfl, fv0⟩
            have FV0 := Lib.hid ((HDN.out _).trans fv0 (by simp [Ext]))
            have HBv0 := Lib.hid (KB.out _ FV0.out)
            clear fv0
            go_wp2_with (refine wpList_loadG (by rfl) 49 (Operand.tmp 7) rfl b1 16 rfl C 49 (0, 0) HBv0.out _ Try.underlying49 rfl HCS.out infoSetup ?_)
            refine (QP.out _).mono ?_
            rintro e wv1 ⟨rfl, fv1⟩
            have FV1 := Lib.hid (FV0.out.trans fv1 (by simp [Ext]))
            have HBv1 := Lib.hid (KB.out _ FV1.out)
            clear fv1
            go_wp2_with fail
            go_meet
            exact ⟨by rw [HVAL.out], FV1.out⟩
          · have d0 : decide (a ≤ k) = true := decide_eq_true (by omega)
            have d1 : decide (k < a + 4) = false := decide_eq_false (by omega)
            have e1 : decide ((k : Int) < (a : Int) + 4) = false := decide_eq_false (by omega)
            have d2 : decide (b ≤ k) = false := decide_eq_false (by omega)
            have q0 : ((k : Int) == 0) = false := beq_eq_false_iff_ne.2 (by omega)
            have q1 : (k == 0) = false := beq_eq_false_iff_ne.2 (by omega)
            have HVAL := Lib.hid (by rw [HOB.out]; simp; omega : ownB pl p (k : Int) = false)
            clear hk6
            go_wp2_with (refine wpList_loadG (by rfl) 49 (Operand.tmp 7) rfl b1 16 rfl C 49 (0, 0) (HBa.out _) _ Try.underlying49 rfl HCS.out infoSetup ?_)
            refine (QP.out _).mono ?_
            rintro e wv0 ⟨rfl, fv0⟩
            have FV0 := Lib.hid ((HDN.out _).trans fv0 (by simp [Ext]))
            have HBv0 := Lib.hid (KB.out _ FV0.out)
            clear fv0
            go_wp2_with (refine wpList_loadG (by rfl) 49 (Operand.tmp 7) rfl b1 16 rfl C 49 (0, 0) HBv0.out _ Try.underlying49 rfl HCS.out infoSetup ?_)
            refine (QP.out _).mono ?_
            rintro e wv1 ⟨rfl, fv1⟩
            have FV1 := Lib.hid (FV0.out.trans fv1 (by simp [Ext]))
            have HBv1 := Lib.hid (KB.out _ FV1.out)
            clear fv1
            go_wp2_with (refine wpList_loadG (by rfl) 49 (Operand.tmp 7) rfl b1 16 rfl C 49 (0, 0) HBv1.out _ Try.underlying49 rfl HCS.out infoSetup ?_)
            refine (QB.out _).mono ?_
            rintro e wv2 ⟨rfl, fv2⟩
            have FV2 := Lib.hid (FV1.out.trans fv2 (by simp [Ext]))
            have HBv2 := Lib.hid (KB.out _ FV2.out)
            clear fv2
            go_wp2_with fail
            go_meet
            exact ⟨by rw [HVAL.out], FV2.out⟩
          · have d0 : decide (a ≤ k) = true := decide_eq_true (by omega)
            have d1 : decide (k < a + 4) = false := decide_eq_false (by omega)
            have e1 : decide ((k : Int) < (a : Int) + 4) = false := decide_eq_false (by omega)
            have d2 : decide (b ≤ k) = true := decide_eq_true (by omega)
            have d3 : decide (k < b + 8) = true := decide_eq_true (by omega)
            have e3 : decide ((k : Int) < (b : Int) + 8) = true := decide_eq_true (by omega)
            have q0 : ((k : Int) == 0) = false := beq_eq_false_iff_ne.2 (by omega)
            have q1 : (k == 0) = false := beq_eq_false_iff_ne.2 (by omega)
            have HVAL := Lib.hid (by rw [HOB.out]; simp; omega : ownB pl p (k : Int) = true)
            clear hk6
            go_wp2_with (refine wpList_loadG (by rfl) 49 (Operand.tmp 7) rfl b1 16 rfl C 49 (0, 0) (HBa.out _) _ Try.underlying49 rfl HCS.out infoSetup ?_)
            refine (QP.out _).mono ?_
            rintro e wv0 ⟨rfl, fv0⟩
            have FV0 := Lib.hid ((HDN.out _).trans fv0 (by simp [Ext]))
            have HBv0 := Lib.hid (KB.out _ FV0.out)
            clear fv0
            go_wp2_with (refine wpList_loadG (by rfl) 49 (Operand.tmp 7) rfl b1 16 rfl C 49 (0, 0) HBv0.out _ Try.underlying49 rfl HCS.out infoSetup ?_)
            refine (QP.out _).mono ?_
            rintro e wv1 ⟨rfl, fv1⟩
            have FV1 := Lib.hid (FV0.out.trans fv1 (by simp [Ext]))
            have HBv1 := Lib.hid (KB.out _ FV1.out)
            clear fv1
            go_wp2_with (refine wpList_loadG (by rfl) 49 (Operand.tmp 7) rfl b1 16 rfl C 49 (0, 0) HBv1.out _ Try.underlying49 rfl HCS.out infoSetup ?_)
            refine (QB.out _).mono ?_
            rintro e wv2 ⟨rfl, fv2⟩
            have FV2 := Lib.hid (FV1.out.trans fv2 (by simp [Ext]))
            have HBv2 := Lib.hid (KB.out _ FV2.out)
            clear fv2
            go_wp2_with (refine wpList_loadG (by rfl) 49 (Operand.tmp 7) rfl b1 16 rfl C 49 (0, 0) HBv2.out _ Try.underlying49 rfl HCS.out infoSetup ?_)
            refine (QB.out _).mono ?_
            rintro e wv3 ⟨rfl, fv3⟩
            have FV3 := Lib.hid (FV2.out.trans fv3 (by simp [Ext]))
            have HBv3 := Lib.hid (KB.out _ FV3.out)
            clear fv3
            go_wp2_with fail
            go_meet
            exact ⟨by rw [HVAL.out], FV3.out⟩
          · have d0 : decide (a ≤ k) = true := decide_eq_true (by omega)
            have d1 : decide (k < a + 4) = false := decide_eq_false (by omega)
            have e1 : decide ((k : Int) < (a : Int) + 4) = false := decide_eq_false (by omega)
            have d2 : decide (b ≤ k) = true := decide_eq_true (by omega)
            have d3 : decide (k < b + 8) = false := decide_eq_false (by omega)
            have e3 : decide ((k : Int) < (b : Int) + 8) = false := decide_eq_false (by omega)
            have q0 : ((k : Int) == 0) = false := beq_eq_false_iff_ne.2 (by omega)
            have q1 : (k == 0) = false := beq_eq_false_iff_ne.2 (by omega)
            have HVAL := Lib.hid (by rw [HOB.out]; simp; omega : ownB pl p (k : Int) = false)
            clear hk6
            go_wp2_with (refine wpList_loadG (by rfl) 49 (Operand.tmp 7) rfl b1 16 rfl C 49 (0, 0) (HBa.out _) _ Try.underlying49 rfl HCS.out infoSetup ?_)
            refine (QP.out _).mono ?_
            rintro e wv0 ⟨rfl, fv0⟩
            have FV0 := Lib.hid ((HDN.out _).trans fv0 (by simp [Ext]))
            have HBv0 := Lib.hid (KB.out _ FV0.out)
            clear fv0
            go_wp2_with (refine wpList_loadG (by rfl) 49 (Operand.tmp 7) rfl b1 16 rfl C 49 (0, 0) HBv0.out _ Try.underlying49 rfl HCS.out infoSetup ?_)
            refine (QP.out _).mono ?_
            rintro e wv1 ⟨rfl, fv1⟩
            have FV1 := Lib.hid (FV0.out.trans fv1 (by simp [Ext]))
            have HBv1 := Lib.hid (KB.out _ FV1.out)
            clear fv1
            go_wp2_with (refine wpList_loadG (by rfl) 49 (Operand.tmp 7) rfl b1 16 rfl C 49 (0, 0) HBv1.out _ Try.underlying49 rfl HCS.out infoSetup ?_)
            refine (QB.out _).mono ?_
            rintro e wv2 ⟨rfl, fv2⟩
            have FV2 := Lib.hid (FV1.out.trans fv2 (by simp [Ext]))
            have HBv2 := Lib.hid (KB.out _ FV2.out)
            clear fv2
            go_wp2_with (refine wpList_loadG (by rfl) 49 (Operand.tmp 7) rfl b1 16 rfl C 49 (0, 0) HBv2.out _ Try.underlying49 rfl HCS.out infoSetup ?_)
            refine (QB.out _).mono ?_
            rintro e wv3 ⟨rfl, fv3⟩
            have FV3 := Lib.hid (FV2.out.trans fv3 (by simp [Ext]))
            have HBv3 := Lib.hid (KB.out _ FV3.out)
            clear fv3
            go_wp2_with fail
            go_meet
            exact ⟨by rw [HVAL.out], FV3.out⟩
        case rest =>
          obtain ⟨rfl, hfc⟩ := hcut
          have HFC := Lib.hid hfc
          have wi : IntKind.i64.wrap ((i : Int) + 1) = (i : Int) + 1 := IntWalk.i64_in _ (by omega)
          have wc1 : IntKind.i64.wrap ((c : Int) + 1) = (c : Int) + 1 := IntWalk.i64_in _ (by omega)
          clear hfc HOB wa wb
          cases hO : ownB pl p (k : Int)
          · have HO2 := Lib.hid (by have h := HKV.out; rw [hO] at h; simpa using h : (V.take (i + 1)).countP (fun x => ownB pl p x.1) = c)
            clear hO
            go_wp2_with fail
            go_roundw
            case rel => exact ⟨i + 1, by omega, by rw [HO2.out], by go_num, HFC.out⟩
            case measure => simp [intOf]; omega
          · have HO2 := Lib.hid (by have h := HKV.out; rw [hO] at h; simpa using h : (V.take (i + 1)).countP (fun x => ownB pl p x.1) = c + 1)
            clear hO
            go_wp2_with fail
            go_roundw
            case rel => exact ⟨i + 1, by omega, by rw [HO2.out]; go_num, by go_num, HFC.out⟩
            case measure => simp [intOf]; omega
    · have hlt : ¬ (i : Int) < (V.length : Int) := by omega
      have hc13 : c = 13 := by rw [HCE.out, List.take_of_length_le (by omega)]; exact HVC.out
      subst hc13
      obtain ⟨r, hr⟩ : ∃ r, r = 8 * mm := ⟨_, rfl⟩
      have wl : IntKind.i64.wrap ((V.length : Int) - 13) = (r : Int) := by have := HM1.out; rw [IntWalk.i64_in _ (by omega)]; omega
      have wr8 : (r : Int) % 8 = 0 := by omega
      have wr8n : r % 8 = 0 := by omega
      clear hr hm2
      go_wp2_with (go_at_call 16; refine (lives_any _).mono ?_; rintro e wL ⟨rfl, fL⟩; have HL := Lib.hid (HF.out.trans fL (by simp [Ext])); clear fL)
      go_ret
      exact ⟨rfl, (F1.out.trans F5.out (by simp [Ext])).trans (F6.out.trans HL.out (by simp [Ext])) (by simp [Ext])⟩
end Go.Proofs.Ytcgndeggemceaaa
