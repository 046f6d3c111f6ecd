/- Val28, SnHides (merged by merge.py). -/
import Derived.Test.YtcgndeggemceaaaZ2817
import Derived.Test.YtcgndeggemceaaaZ2816
/- arenanetref01.Bound; arenanetref28.Value. -/
namespace Go.Proofs.Ytcgndeggemceaaa
open Go.RowKit

set_option maxHeartbeats 2000000 in
theorem bound_any (w : World) (n : Int) (m : Nat) (hn : bounded n) (hm : m ≤ 1099511627776) :
    Calls Try.prog 49 #[.int .i64 n, .int .i64 (m : Int)] w fun e w' => (∃ y : Int, -(m : Int) ≤ y ∧ y ≤ (m : Int) ∧ e = .returned (.int .i64 y)) ∧ Fr [] w w' := by
  obtain ⟨k, hk, -, hA⟩ := around_nat n (2 * m + 1) hn (by omega) (by omega)
  have HA := Lib.hid hA
  obtain ⟨M, hM⟩ : ∃ M, M = 2 * m + 1 := ⟨_, rfl⟩
  have w1 : IntKind.i64.wrap (2 * (m : Int)) = 2 * (m : Int) := IntWalk.i64_in _ (by omega)
  have w2 : IntKind.i64.wrap (2 * (m : Int) + 1) = (M : Int) := by rw [IntWalk.i64_in _ (by omega)]; omega
  have w3 : IntKind.i64.wrap ((k : Int) - (m : Int)) = (k : Int) - (m : Int) := IntWalk.i64_in _ (by omega)
  rw [← hM] at HA hk
  have HY := Lib.hid (by omega : -(m : Int) ≤ (k : Int) - (m : Int) ∧ (k : Int) - (m : Int) ≤ (m : Int))
  clear hA hM hn
  go_enter Try.func49, Try.ntmps49
  go_wp2_with fail
  refine (HA.out _).mono ?_
  rintro e w' ⟨rfl, rfl⟩
  go_wp2_with fail
  go_ret
  exact ⟨⟨_, HY.out.1, HY.out.2, rfl⟩, Fr.refl _ _⟩

set_option maxRecDepth 100000 in
set_option maxHeartbeats 4000000 in
theorem value_any (w : World) (s : St) (hok : s.Ok) (pl : Nat) (hpl : s.players = (pl : Int)) (hp3 : pl ≤ 3) (hnb : 0 < s.nb) (K : Nat) (hK : K ≤ 1000) (v : Int) (hv : bounded v) :
    Calls Try.prog 25 #[s.val, .int .i64 (K : Int), .int .i64 v] w fun e w' => (∃ y : Int, small y ∧ (48 + 4 * pl ≤ K → (K - (48 + 4 * pl)) % 8 < 2 → inC y) ∧ e = .returned (.int .i64 y)) ∧ Fr [] w w' := by
  obtain ⟨C, hC⟩ := cAt s
  have HCS := Lib.hid hC.size
  have HBO := Lib.hid (fun (u : World) => (by
    have h := rbody_any u s hok 0
    rw [show bdOf s 0 = ((48 + 4 * pl : Nat) : Int) by unfold bdOf; rw [if_neg (by omega), hpl]; omega, hC.val] at h; exact h : Calls Try.prog 42 #[.agg C, .int .i64 0] u fun e w' => e = .returned (.int .i64 ((48 + 4 * pl : Nat) : Int)) ∧ Fr [] u w'))
  have HB1 := Lib.hid (fun u => bound_any u v 1048576 hv (by omega))
  have HB2 := Lib.hid (fun u => bound_any u v 2147483647 hv (by omega))
  rw [hC.val]
  obtain ⟨fo, hfo⟩ : ∃ fo, fo = 48 + 4 * pl := ⟨_, rfl⟩
  rw [← hfo] at HBO ⊢
  have hfo1 : fo ≤ 60 := by omega
  clear hok hpl hnb hv hC hfo hp3
  obtain ⟨bx, hbx⟩ : ∃ bx, bx = w.heap.size := ⟨_, rfl⟩
  obtain ⟨wb, hwb⟩ : ∃ wb, wb = w.alloc (.cells C 49) := ⟨_, rfl⟩
  have HB := Lib.hid (by rw [hwb, hbx]; exact alloc_new w _ : wb.heap[bx]? = some (.cells C 49 (0, 0)))
  have HWB := Lib.hid (by rw [hwb]; exact (Fr.refl [] w).alloc _ : Fr [] w wb)
  have HBX := Lib.hid hbx
  have HWE := Lib.hid hwb
  clear hbx hwb
  go_enter Try.func25, Try.ntmps25
  go_upto_region 1 with (fail)
  rw [← HBX.out, ← HWE.out]
  go_wp2_with (refine wpList_loadB rfl 49 (Operand.tmp 3) rfl bx 16 rfl C 49 (0, 0) HB.out _ Try.underlying49 rfl HCS.out infoSetup ?_)
  refine (HBO.out wb).mono ?_
  rintro e w1 ⟨rfl, f1⟩
  have F1 := Lib.hid (HWB.out.trans f1 (by simp [Ext]))
  clear f1 HBO HB HWB
  cases hkd : decide (fo ≤ K)
  case false =>
    have hkf : ¬ fo ≤ K := of_decide_eq_false hkd
    go_wp2_with fail
    refine (HB2.out _).mono ?_
    rintro e w2 ⟨⟨y, hy0, hy1, rfl⟩, f2⟩
    have F2 := Lib.hid (F1.out.trans f2 (by simp [Ext]))
    have HY := Lib.hid (by unfold small; omega : small y)
    have HN := Lib.hid hkf
    clear f2 hy0 hy1 hkf
    go_wp2_with fail
    go_ret
    exact ⟨⟨y, HY.out, fun h => absurd h HN.out, rfl⟩, F2.out⟩
  case true =>
    have hkf : fo ≤ K := of_decide_eq_true hkd
    obtain ⟨q, hq⟩ : ∃ q, q = K - fo := ⟨_, rfl⟩
    have wkf : IntKind.i64.wrap ((K : Int) - (fo : Int)) = (q : Int) := by rw [IntWalk.i64_in _ (by omega)]; omega
    have HQ := Lib.hid hq
    clear hq
    by_cases hq2 : q % 8 < 2
    · have hqd : decide ((q : Int) % 8 < 2) = true := decide_eq_true (by omega)
      clear hq2
      go_wp2_with fail
      refine (HB1.out _).mono ?_
      rintro e w2 ⟨⟨y, hy0, hy1, rfl⟩, f2⟩
      have F2 := Lib.hid (F1.out.trans f2 (by simp [Ext]))
      have HY := Lib.hid (by unfold small inC; omega : small y ∧ inC y)
      clear f2 hy0 hy1
      go_wp2_with fail
      go_ret
      exact ⟨⟨y, HY.out.1, fun _ _ => HY.out.2, rfl⟩, F2.out⟩
    · have hqd : decide ((q : Int) % 8 < 2) = false := decide_eq_false (by omega)
      have HN := Lib.hid hq2
      clear hq2
      go_wp2_with fail
      refine (HB2.out _).mono ?_
      rintro e w2 ⟨⟨y, hy0, hy1, rfl⟩, f2⟩
      have F2 := Lib.hid (F1.out.trans f2 (by simp [Ext]))
      have HY := Lib.hid (by unfold small; omega : small y)
      clear f2 hy0 hy1
      go_wp2_with fail
      go_ret
      exact ⟨⟨y, HY.out, fun _ h => absurd h (by rw [← HQ.out]; exact HN.out), rfl⟩, F2.out⟩
end Go.Proofs.Ytcgndeggemceaaa
/- SnapshotHides returns true (written by genlaw28.py). -/
namespace Go.Proofs.Ytcgndeggemceaaa
open Go.RowKit

set_option maxRecDepth 100000 in
set_option maxHeartbeats 16000000 in
theorem snhides_walk (w : World) (lo mo : Option Addr) (lc mc : Nat) (l m : List Int) (hl : Rd w 1 lo l.length (ints l)) (hlb : ∀ x ∈ l, bounded x) (hm : Rd w 1 mo m.length (ints m)) (hmb : ∀ x ∈ m, bounded x) (player at' v : Int) (hpb : bounded player) (hab : bounded at') (hvb : bounded v) :
    Calls Try.prog 8 #[.slice lo l.length lc, .slice mo m.length mc, .int .i64 player, .int .i64 at', .int .i64 v] w fun e w' => e = .returned (.bool true) ∧ Fr [] w w' := by
  have HSU := Lib.hid (setup_any w lo lc l hl hlb)
  have HAT := Lib.hid (fun u (hu : Fr [] w u) => hm.fr hu (by simp))
  have HMB := Lib.hid hmb
  clear hl hlb hm hmb
  go_enter Try.func8, Try.ntmps8
  go_wp2_with fail
  refine HSU.out.mono ?_
  rintro e w1 ⟨s, bodies, doors, rfl, hs⟩
  have HS := Lib.hid hs
  have F1 := Lib.hid hs.fr
  obtain ⟨C, hC⟩ := cAt s
  have HCS := Lib.hid hC.size
  have HV := Lib.hid hC.val
  have HC := Lib.hid hC
  have hCl : (Try.prog.info? 49).map (·.size) = some C.toList.length := by rw [Array.length_toList, hC.size]; exact infoSetup
  have HO := Lib.hid (by have h := hC.val; unfold St.val at h; injection h with h; rw [← h]; simp [Value.oneCell'] : C.all (·.oneCell') = true)
  obtain ⟨b1, hb1⟩ : ∃ b1, b1 = w1.heap.size := ⟨_, rfl⟩
  have HB1 := Lib.hid hb1
  rw [HV.out]
  have HCL0 := Lib.hid hCl
  clear hs hb1 hC HSU hCl
  go_upto_region 2 with (refine wpList_storeB rfl 49 (Operand.tmp 11) (Operand.tmp 23) rfl w1.heap.size 16 C rfl rfl _ 49 (by exact alloc_new _ _) rfl HCS.out infoSetup HO.out ?_; intro w2 hb2 hf2; have F2 := Lib.hid (((Fr.refl [] w1).alloc _).trans hf2 (fun k hk => .inr (by simp at hk; omega))); have B2 := Lib.hid (by rw [HB1.out]; exact hb2 : w2.heap[b1]? = some (.cells C 49 (0, 0))); clear hb2 hf2)
  rw [← HB1.out]
  obtain ⟨pl, hpl⟩ : ∃ pl : Nat, s.players = (pl : Int) := ⟨s.players.toNat, by have := HS.out.num.1; omega⟩
  have hpl3 : 1 ≤ pl ∧ pl ≤ 3 := by have := HS.out.num.1; omega
  have hpn : pl ≤ bodies.length := by have := HS.out.pn; omega
  have hb5 := HS.out.b5
  have HPL := Lib.hid hpl
  obtain ⟨n, hn⟩ : ∃ n, n = 48 + 4 * pl + 8 * bodies.length := ⟨_, rfl⟩
  have HN := Lib.hid hn
  have HST := Lib.hid (fun u (hu : Fr [] w1 u) => (by
    rw [← HV.out]
    exact state_any u s bodies HS.out.ok pl hpl hpl3.2 (HS.out.bd hu) hb5 (by omega) (fun d hd => (HS.out.good d hd).1) mo mc m (HAT.out u (F1.out.trans hu (by simp [Ext]))) HMB.out n hn : Calls Try.prog 21 #[.agg C, .slice mo m.length mc] u (State28To u pl bodies.length n)))
  obtain ⟨nb, hnb⟩ : ∃ nb, nb = bodies.length := ⟨_, rfl⟩
  have HNB := Lib.hid hnb
  have HSN := Lib.hid (HS.out.nb.trans hnb.symm)
  rw [← hnb] at hpn hb5
  have hn100 : n ≤ 100 := by omega
  have hn1 : 56 ≤ n := by omega
  have hnn : n = 48 + 4 * pl + 8 * nb := by omega
  have HNN := Lib.hid hnn
  clear hpl hn hnb hnn
  go_wp2_with (refine wpList_loadB rfl 49 (Operand.tmp 11) rfl b1 16 rfl C 49 (0, 0) B2.out _ Try.underlying49 rfl HCS.out infoSetup ?_)
  refine (HST.out w2 F2.out).mono ?_
  rintro e w5 ⟨g, off, sc, cells, rfl, hcl, hseg, hg, f5, hsm, hpo⟩
  have HCL := Lib.hid hcl
  have SG := Lib.hid (fun u (hu : Fr [] w5 u) => hseg.fr hu (by simp))
  have F5 := Lib.hid (F2.out.trans f5 (by simp [Ext]))
  have B5 := Lib.hid (f5.blk B2.out (by simp))
  have HSM := Lib.hid hsm
  have HPO := Lib.hid hpo
  have HG2 := Lib.hid hg
  have VP := Lib.hid (fun u (hu : Fr [] w5 u) => HS.out.vpreR (F5.out.trans hu (by simp [Ext])) HPL.out HN.out (SG.out u hu) HCL.out HPO.out)
  have KEEP := Lib.hid (fun u (hu : Fr [] w5 u) => (hu.blk B5.out (by simp) : u.heap[b1]? = some (.cells C 49 (0, 0))))
  obtain ⟨SE, hSE⟩ : ∃ SE : Nat → List Int, SE = fun k : Nat => seenL s roomsL doors cells ((k : Nat) : Int) := ⟨_, rfl⟩
  obtain ⟨VW, hVW⟩ : ∃ VW : Nat → List (Int × Int), VW = fun k : Nat => viewL pl cells k (SE k) := ⟨_, rfl⟩
  have QView := Lib.hid (fun u (hu : Fr [] w5 u) (k : Nat) (hk : k < pl) => (by
    have h := view_any (VP.out u hu) pl k HPL.out hk (by rw [HCL.out]; omega) (SG.out u hu).lt
    rw [HV.out, HCL.out] at h; rw [hVW, hSE]; exact h : Calls Try.prog 22 #[.agg C, .slice (some ⟨g, off, none⟩) n sc, .int .i64 (k : Int)] u (CelTo u (VW k))))
  have HVW := Lib.hid hVW
  have HSE := Lib.hid hSE
  have K0 := Lib.hid (fun u (hu : Fr [] w5 u) => (by have h := cell_blk (KEEP.out u hu) 0; rw [h, HC.out.c0, HPL.out] : u.cell? ⟨b1, 0, none⟩ = some (.int .i64 (pl : Int))))
  have K1 := Lib.hid (fun u (hu : Fr [] w5 u) => (by have h := cell_blk (KEEP.out u hu) 1; rw [h, HC.out.c1, HSN.out] : u.cell? ⟨b1, 1, none⟩ = some (.slice s.bo nb s.bc)))
  clear hcl hseg hsm hpo f5 HST hg hVW hSE
  obtain ⟨p, hp, -, hA⟩ := around_nat player pl hpb (by omega) (by omega)
  have HA := Lib.hid hA
  have c00 := K0.out w5 (Fr.refl _ _)
  clear hA
  go_upto_region 4 with (go_at_call 18; refine (HA.out _).mono ?_; rintro e w' ⟨rfl, rfl⟩)
  clear c00 HA
  obtain ⟨q, hq⟩ : ∃ q : Nat → Bool, q = fun k : Nat => seesB s roomsL doors cells (p : Int) (k : Int) := ⟨_, rfl⟩
  have hqp : q p = true := by rw [hq]; exact sees_own HPL.out hp (by rw [HSN.out]; omega)
  have HPLR := Lib.hid (fun (u : World) => (by
    have r := player_any u s HS.out.ok (p : Int)
    rw [show plOf s (p : Int) = ((48 + 4 * p : Nat) : Int) by unfold plOf; rw [if_neg (by rw [HPL.out]; omega)]; omega, HV.out] at r; exact r : Calls Try.prog 26 #[.agg C, .int .i64 (p : Int)] u fun e w' => e = .returned (.int .i64 ((48 + 4 * p : Nat) : Int)) ∧ Fr [] u w'))
  have HBDR := Lib.hid (fun (u : World) (i : Nat) (hi : i < nb) => (by
    have r := body_any u s HS.out.ok (i : Int)
    rw [show bdOf s (i : Int) = ((48 + 4 * pl + 8 * i : Nat) : Int) by unfold bdOf; rw [if_neg (by rw [HSN.out]; omega), HPL.out]; omega, HV.out] at r; exact r : Calls Try.prog 27 #[.agg C, .int .i64 (i : Int)] u fun e w' => e = .returned (.int .i64 ((48 + 4 * pl + 8 * i : Nat) : Int)) ∧ Fr [] u w'))
  clear hqp
  obtain ⟨K, hK, -, hA⟩ := around_nat at' n hab (by omega) (by omega)
  have HA := Lib.hid hA
  clear hA
  go_upto_region 5 with (go_at_call 18; refine (HA.out _).mono ?_; rintro e w' ⟨rfl, rfl⟩)
  clear HA hq
  have HB5 := Lib.hid (KEEP.out w5 (Fr.refl _ _))
  go_wp2_with (refine wpList_loadB rfl 49 (Operand.tmp 11) rfl b1 16 rfl C 49 (0, 0) (HB5.out) _ Try.underlying49 rfl HCS.out infoSetup ?_)
  refine (QView.out w5 (Fr.refl _ _) p hp).mono ?_
  rintro e w6 ⟨vo, vc, rfl, hsv, f6, -⟩
  have F6 := Lib.hid f6
  have SV := Lib.hid (fun u (hu : Fr [] w6 u) => hsv.fr hu (by simp))
  have HB6 := Lib.hid (KEEP.out w6 f6)
  clear hsv f6
  go_wp2_with (refine wpList_loadB rfl 49 (Operand.tmp 11) rfl b1 16 rfl C 49 (0, 0) (HB6.out) _ Try.underlying49 rfl HCS.out infoSetup ?_)
  have QSeen := Lib.hid (fun u (hu : Fr [] w5 u) => (by have h := seen_any (VP.out u hu) (p : Int); rw [HV.out, HCL.out] at h; rw [HSE.out]; exact h : Calls Try.prog 24 #[.agg C, .slice (some ⟨g, off, none⟩) n sc, .int .i64 (p : Int)] u (IntsTo u (SE p))))
  refine (QSeen.out w6 F6.out).mono ?_
  rintro e w7 ⟨so, sc1, rfl, hs1, f7, -⟩
  have F7 := Lib.hid (F6.out.trans f7 (by simp [Ext]))
  have F67 := Lib.hid f7
  have SS := Lib.hid (fun u (hu : Fr [] w7 u) => (hs1.fr hu (by simp)).rd)
  clear hs1 f7 QSeen
  obtain ⟨ii, hii, hz0, hz1, hz2⟩ := info_parts infoInt
  obtain ⟨we, hwe⟩ : ∃ we, we = w7.alloc (.cells #[] 3) := ⟨_, rfl⟩
  obtain ⟨eb, heb⟩ : ∃ eb, eb = w7.heap.size := ⟨_, rfl⟩
  have HEB := Lib.hid (by
    have := Seg.one (w := we) eb #[] 3 1 0 (by rw [hwe, heb]; exact alloc_new _ _) rfl (by unfold maxLen; omega)
    exact this : Seg we 3 1 (some ⟨eb, 0, none⟩) 0 0 [])
  have F7E := Lib.hid (by rw [hwe]; exact (Fr.refl _ _).alloc _ : Fr [] w7 we)
  have HRS := Lib.hid (by have h := (SG.out we (F7.out.trans F7E.out (by simp [Ext]))).rd; exact h : Rd we 1 (some ⟨g, off, none⟩) n (ints cells))
  have HIO := Lib.hid (fun u (hu : u ∈ ints cells) => (by obtain ⟨x, -, rfl⟩ := List.mem_map.1 hu; rfl : u.oneCell' = true))
  have HEBE := Lib.hid heb
  have HWEE := Lib.hid hwe
  clear hwe heb
  go_upto_region 7 with fail
  go_upto_region 8 with (at_builtin; rw [← HEBE.out, ← HWEE.out]; refine wpList_append_rd rfl _ _ 22 rfl 3 ii _ 1 8 Try.underlying22 hii hz0 hz1 hz2 rfl (by decide) (some ⟨eb, 0, none⟩) 0 0 [] rfl HEB.out (some ⟨g, off, none⟩) n sc (ints cells) rfl HRS.out HIO.out (by unfold maxLen; omega) (by omega) ?_; intro no nc w8 hs8 hf8 hx8)
  rw [List.nil_append] at hs8
  simp only [Nat.zero_add] at hs8 ⊢
  obtain ⟨g2, off2, -, rfl, -, -, -, -⟩ := hs8.at (by have := hs8.2.2.1; omega)
  have hg2 : w7.heap.size ≤ g2 := by
    rcases hx8 g2 (by simp [blk]) with q | q
    · simp [blk] at q; have := HEBE.out; omega
    · have := F7E.out.size; omega
  have F8 := Lib.hid (F7E.out.trans hf8 (fun k hk => .inr (by simp [blk] at hk; have := HEBE.out; omega)) : Fr [] w7 w8)
  have HS8 := Lib.hid hs8
  have HG28 := Lib.hid hg2
  clear hs8 hf8 hx8 HEB HRS HIO
  have HB8 := Lib.hid (KEEP.out w8 (F7.out.trans F8.out (by simp [Ext])))
  go_wp2_with (refine wpList_loadB rfl 49 (Operand.tmp 11) rfl b1 16 rfl C 49 (0, 0) (HB8.out) _ Try.underlying49 rfl HCS.out infoSetup ?_)
  have QV := Lib.hid (fun (u : World) => (by have h := value_any u s HS.out.ok pl HPL.out hpl3.2 (by rw [HSN.out]; omega) K (by omega) v hvb; rw [HV.out] at h; exact h : Calls Try.prog 25 #[.agg C, .int .i64 (K : Int), .int .i64 v] u fun e w' => (∃ y : Int, small y ∧ (48 + 4 * pl ≤ K → (K - (48 + 4 * pl)) % 8 < 2 → inC y) ∧ e = .returned (.int .i64 y)) ∧ Fr [] u w'))
  refine (QV.out w8).mono ?_
  rintro e w9 ⟨⟨y, hys, hyc, rfl⟩, f9⟩
  have F9 := Lib.hid (F8.out.trans f9 (by simp [Ext]))
  have HS9 := Lib.hid (HS8.out.fr f9 (by simp))
  obtain ⟨_, _, _, he9, -, hfit, hcc, hff⟩ := HS9.out.at (by have := HS9.out.2.2.1; omega)
  cases he9
  have ck : w9.cell? ⟨g2, off2 + K, none⟩ = some (.int .i64 (cells[K]'(by rw [HCL.out]; exact hK))) := by rw [hcc K (by omega), ints_get, List.getElem?_eq_getElem (by rw [HCL.out]; exact hK)]; rfl
  have fk := hff (off2 + K)
  have HYS := Lib.hid hys
  have HYC := Lib.hid hyc
  have hKi : (K : Int) < (n : Int) := by omega
  clear hys hyc f9 QV HB8 HS8 hfit hcc hff
  go_upto_region 9 with fail
  obtain ⟨N, hN⟩ : ∃ N, N = cells.set K y := ⟨_, rfl⟩
  obtain ⟨wa, hwa⟩ : ∃ wa, wa = w9.setCell ⟨g2, off2 + K, none⟩ (.int .i64 y) := ⟨_, rfl⟩
  have hNl : N.length = n := by rw [hN, List.length_set]; exact HCL.out
  have hsa : Seg wa 3 1 (some ⟨g2, off2, none⟩) n nc (ints N) := by
    have h := HS9.out.store (i := K) (by omega) (.int .i64 y); rw [ints_set, ← hN, ← hwa] at h; exact h
  have FA := Lib.hid (by rw [hwa]; exact F9.out.setCell (p := ⟨g2, off2 + K, none⟩) (.inr (by have := HG28.out; simpa using this)) _ : Fr [] w7 wa)
  have hPN : PosOk pl bodies.length N := by rw [hN]; exact HPO.out.set (by rw [HCL.out]; exact HN.out) HYC.out
  have SN := Lib.hid (fun u (hu : Fr [] wa u) => hsa.fr hu (by simp))
  have VPN := Lib.hid (fun u (hu : Fr [] wa u) => HS.out.vpreR (F5.out.trans (F7.out.trans (FA.out.trans hu (by simp [Ext])) (by simp [Ext])) (by simp [Ext])) HPL.out HN.out (SN.out u hu) hNl hPN)
  have HNL := Lib.hid hNl
  rw [← hwa]
  have KA := Lib.hid (fun u (hu : Fr [] wa u) => KEEP.out u (F7.out.trans (FA.out.trans hu (by simp [Ext])) (by simp [Ext])))
  have HNE := Lib.hid hN
  clear hN hwa hNl hsa hPN HS9 ck fk
  have HBa := Lib.hid (KA.out wa (Fr.refl _ _))
  go_wp2_with (refine wpList_loadB rfl 49 (Operand.tmp 11) rfl b1 16 rfl C 49 (0, 0) (HBa.out) _ Try.underlying49 rfl HCS.out infoSetup ?_)
  obtain ⟨VN, hVN⟩ : ∃ VN, VN = viewL pl N p (seenL s roomsL doors N (p : Int)) := ⟨_, rfl⟩
  obtain ⟨SN2, hSN2⟩ : ∃ SN2, SN2 = seenL s roomsL doors N (p : Int) := ⟨_, rfl⟩
  have QView2 := Lib.hid (by
    have h := view_any (VPN.out wa (Fr.refl _ _)) pl p HPL.out hp (by rw [HNL.out]; omega) (SN.out wa (Fr.refl _ _)).lt
    rw [HV.out, HNL.out, ← hVN] at h; exact h : Calls Try.prog 22 #[.agg C, .slice (some ⟨g2, off2, none⟩) n nc, .int .i64 (p : Int)] wa (CelTo wa VN))
  have QSeen2 := Lib.hid (fun u (hu : Fr [] wa u) => (by have h := seen_any (VPN.out u hu) (p : Int); rw [HV.out, HNL.out, ← hSN2] at h; exact h : Calls Try.prog 24 #[.agg C, .slice (some ⟨g2, off2, none⟩) n nc, .int .i64 (p : Int)] u (IntsTo u SN2)))
  have HVNE := Lib.hid hVN
  have HSNE := Lib.hid hSN2
  clear hVN hSN2
  refine QView2.out.mono ?_
  rintro e wb ⟨vo2, vc2, rfl, hsv2, fb, -⟩
  have FB := Lib.hid fb
  have SV2 := Lib.hid (fun u (hu : Fr [] wb u) => hsv2.fr hu (by simp))
  have KB := Lib.hid (fun u (hu : Fr [] wb u) => KA.out u (fb.trans hu (by simp [Ext])))
  clear hsv2 fb QView2 HBa HB6 HB5
  obtain ⟨a, ha⟩ : ∃ a, a = 48 + 4 * p := ⟨_, rfl⟩
  have QP := Lib.hid (fun (u : World) => (by have r := HPLR.out u; rw [← ha] at r; exact r : Calls Try.prog 26 #[.agg C, .int .i64 (p : Int)] u fun e w' => e = .returned (.int .i64 (a : Int)) ∧ Fr [] u w'))
  have HAE := Lib.hid ha
  obtain ⟨a4, ha4⟩ : ∃ a4, a4 = a + 4 := ⟨_, rfl⟩
  have wa4 : IntKind.i64.wrap ((a : Int) + 4) = (a4 : Int) := by rw [IntWalk.i64_in _ (by omega)]; omega
  have HA4 := Lib.hid ha4
  obtain ⟨ow, how⟩ : ∃ ow : Bool, ow = (decide (a ≤ K) && decide (K < a4)) := ⟨_, rfl⟩
  have HOW := Lib.hid how
  have ha60 : a ≤ 60 := by omega
  clear ha ha4 how
  go_upto_region 10 with fail
  go_cut [19] (fun s19 wc => s19 = .bool ow ∧ Fr [] wb wc)
  case first =>
    have HB0 := Lib.hid (KB.out wb (Fr.refl _ _))
    go_wp2_with (refine wpList_loadB rfl 49 (Operand.tmp 11) rfl b1 16 rfl C 49 (0, 0) (HB0.out) _ Try.underlying49 rfl HCS.out infoSetup ?_)
    refine (QP.out _).mono ?_
    rintro e wv0 ⟨rfl, fv0⟩
    have FV0 := Lib.hid fv0
    have HBv0 := Lib.hid (KB.out _ fv0)
    clear fv0
    by_cases hak : a ≤ K
    · have d0 : decide (a ≤ K) = true := decide_eq_true hak
      go_wp2_with (refine wpList_loadG (by rfl) 49 (Operand.tmp 11) rfl b1 16 rfl C 49 (0, 0) (HBv0.out) _ Try.underlying49 rfl HCS.out infoSetup ?_)
      refine (QP.out _).mono ?_
      rintro e wv1 ⟨rfl, fv1⟩
      have FV1 := Lib.hid (FV0.out.trans fv1 (by simp [Ext]))
      clear fv1
      by_cases hk4 : K < a4
      · have d1 : decide (K < a4) = true := decide_eq_true hk4
        have HR := Lib.hid (by rw [HOW.out, d0, d1]; rfl : ow = true)
        go_wp2_with fail
        go_meet
        exact ⟨by rw [HR.out], FV1.out⟩
      · have d1 : decide (K < a4) = false := decide_eq_false hk4
        have HR := Lib.hid (by rw [HOW.out, d0, d1]; rfl : ow = false)
        go_wp2_with fail
        go_meet
        exact ⟨by rw [HR.out], FV1.out⟩
    · have d0 : decide (a ≤ K) = false := decide_eq_false hak
      have HR := Lib.hid (by rw [HOW.out, d0]; rfl : ow = false)
      go_wp2_with fail
      go_meet
      exact ⟨by rw [HR.out], FV0.out⟩
  case rest =>
    obtain ⟨rfl, hfc⟩ := hcut
    have FC := Lib.hid hfc
    obtain ⟨fo, hfo⟩ : ∃ fo, fo = 48 + 4 * pl := ⟨_, rfl⟩
    have HFO := Lib.hid hfo
    have hfo60 : fo ≤ 60 := by omega
    have HNFO := Lib.hid (by have := HNN.out; omega : n = fo + 8 * nb)
    clear hfc wa4 hfo
    have QB := Lib.hid (fun (u : World) (i : Nat) (hi : i < nb) => (by have r := HBDR.out u i hi; rw [← HFO.out] at r; exact r : Calls Try.prog 27 #[.agg C, .int .i64 (i : Int)] u fun e w' => e = .returned (.int .i64 ((fo + 8 * i : Nat) : Int)) ∧ Fr [] u w'))
    go_wp2_with fail
    go_loopw [20, 21] (fun bv iv wr => ∃ i : Nat, i ≤ nb ∧ iv = .int .i64 (i : Int) ∧ bv = .int .i64 (if fo ≤ K ∧ K < fo + 8 * i then (((K - fo) / 8 : Nat) : Int) else -1) ∧ Fr [] wb wr) (fun _ iv _ => nb - (intOf iv).toNat)
    case atStart => exact ⟨0, by omega, rfl, by rw [if_neg (by omega)], FC.out⟩
    case round =>
      obtain ⟨i, hi, rfl, rfl, hf⟩ := hrel
      have FR := Lib.hid hf
      obtain ⟨bd, hbd⟩ : ∃ bd, bd = (if fo ≤ K ∧ K < fo + 8 * i then (((K - fo) / 8 : Nat) : Int) else -1) := ⟨_, rfl⟩
      rw [← hbd]
      have HBD := Lib.hid hbd
      have c1 := K1.out wr (F7.out.trans (FA.out.trans (FB.out.trans hf (by simp [Ext])) (by simp [Ext])) (by simp [Ext]))
      clear hf hbd
      by_cases hin : i < nb
      · have hini : (i : Int) < (nb : Int) := by omega
        have wi : IntKind.i64.wrap ((i : Int) + 1) = (i : Int) + 1 := IntWalk.i64_in _ (by omega)
        have HBr := Lib.hid (KB.out wr FR.out)
        obtain ⟨b, hb⟩ : ∃ b, b = fo + 8 * i := ⟨_, rfl⟩
        have HQB := Lib.hid (fun u => (by have r := QB.out u i hin; rw [← hb] at r; exact r : Calls Try.prog 27 #[.agg C, .int .i64 (i : Int)] u fun e w' => e = .returned (.int .i64 (b : Int)) ∧ Fr [] u w'))
        have hbn : b + 8 ≤ 100 := by have := HNFO.out; omega
        obtain ⟨b8, hb8⟩ : ∃ b8, b8 = b + 8 := ⟨_, rfl⟩
        have wb8 : IntKind.i64.wrap ((b : Int) + 8) = (b8 : Int) := by rw [IntWalk.i64_in _ (by omega)]; omega
        go_upto_region 15 with fail
        go_cut [89] (fun s89 wc => s89 = .bool (decide (b ≤ K) && decide (K < b8)) ∧ Fr [] wb wc)
        case first =>
          clear hb hb8 hini c1
          go_wp2_with (refine wpList_loadB rfl 49 (Operand.tmp 11) rfl b1 16 rfl C 49 (0, 0) (HBr.out) _ Try.underlying49 rfl HCS.out infoSetup ?_)
          refine (HQB.out _).mono ?_
          rintro e wv0 ⟨rfl, fv0⟩
          have FV0 := Lib.hid (FR.out.trans fv0 (by simp [Ext]))
          have HBv0 := Lib.hid (KB.out _ FV0.out)
          clear fv0
          by_cases hak : b ≤ K
          · have d0 : decide (b ≤ K) = true := decide_eq_true hak
            go_wp2_with (refine wpList_loadG (by rfl) 49 (Operand.tmp 11) rfl b1 16 rfl C 49 (0, 0) (HBv0.out) _ Try.underlying49 rfl HCS.out infoSetup ?_)
            refine (HQB.out _).mono ?_
            rintro e wv1 ⟨rfl, fv1⟩
            have FV1 := Lib.hid (FV0.out.trans fv1 (by simp [Ext]))
            clear fv1
            by_cases hk4 : K < b8
            · have d1 : decide (K < b8) = true := decide_eq_true hk4
              go_wp2_with fail
              go_meet
              exact ⟨by simp [hak, hk4], FV1.out⟩
            · have d1 : decide (K < b8) = false := decide_eq_false hk4
              go_wp2_with fail
              go_meet
              exact ⟨by simp [hak, hk4], FV1.out⟩
          · have d0 : decide (b ≤ K) = false := decide_eq_false hak
            go_wp2_with fail
            go_meet
            exact ⟨by simp [hak], FV0.out⟩
        case rest =>
          obtain ⟨rfl, hfc⟩ := hcut
          have FC2 := Lib.hid hfc
          clear hfc wb8 c1 hini
          cases hbb : (decide (b ≤ K) && decide (K < b8))
          · have HNX := Lib.hid (by
              rw [Bool.and_eq_false_iff, decide_eq_false_iff_not, decide_eq_false_iff_not] at hbb
              rw [HBD.out]
              by_cases h : fo ≤ K ∧ K < fo + 8 * i
              · rw [if_pos h, if_pos (by omega)]
              · rw [if_neg h, if_neg (by omega)] : bd = (if fo ≤ K ∧ K < fo + 8 * (i + 1) then (((K - fo) / 8 : Nat) : Int) else -1))
            clear hbb hb hb8
            go_wp2_with fail
            go_roundw
            case rel => exact ⟨i + 1, by omega, by go_num, by rw [HNX.out], FC2.out⟩
            case measure => simp [intOf]; omega
          · have HNX := Lib.hid (by
              rw [Bool.and_eq_true, decide_eq_true_eq, decide_eq_true_eq] at hbb
              rw [if_pos (by omega), show (K - fo) / 8 = i by omega] : (i : Int) = (if fo ≤ K ∧ K < fo + 8 * (i + 1) then (((K - fo) / 8 : Nat) : Int) else -1))
            clear hbb hb hb8
            go_wp2_with fail
            go_roundw
            case rel => exact ⟨i + 1, by omega, by go_num, by rw [← HNX.out], FC2.out⟩
            case measure => simp [intOf]; omega
      · have hini : ¬ (i : Int) < (nb : Int) := by omega
        have hie : i = nb := by omega
        subst hie
        have FRR := Lib.hid (F7.out.trans (FA.out.trans (FB.out.trans FR.out (by simp [Ext])) (by simp [Ext])) (by simp [Ext]) : Fr [] w5 wr)
        have FAR := Lib.hid (FB.out.trans FR.out (by simp [Ext]) : Fr [] wa wr)
        have F7R := Lib.hid (FA.out.trans FAR.out (by simp [Ext]) : Fr [] w7 wr)
        have HBr := Lib.hid (KB.out wr FR.out)
        obtain ⟨eqv, heq⟩ : ∃ eqv : Bool, eqv = (decide (K = 0) || ow || (decide (0 ≤ bd) && (decide (bd ∈ SE p) || decide (bd ∈ SN2)))) := ⟨_, rfl⟩
        have HEQ := Lib.hid heq
        clear heq
        go_upto_region 17 with fail
        go_cut [112] (fun s112 wc => s112 = .bool eqv ∧ Fr [] wr wc)
        case first =>
          by_cases h0 : K = 0
          · have e0 : ((K : Int) == 0) = true := beq_iff_eq.2 (by omega)
            have e1 : (K == 0) = true := beq_iff_eq.2 h0
            have HR := Lib.hid (by rw [HEQ.out]; simp [h0] : eqv = true)
            clear h0
            go_wp2_with fail
            go_meet
            exact ⟨by rw [HR.out], Fr.refl _ _⟩
          · have e0 : ((K : Int) == 0) = false := beq_eq_false_iff_ne.2 (by omega)
            have e1 : (K == 0) = false := beq_eq_false_iff_ne.2 h0
            have HK0 := Lib.hid h0
            clear h0
            cases ow with
            | true =>
              have HR := Lib.hid (by rw [HEQ.out]; simp : eqv = true)
              go_wp2_with fail
              go_meet
              exact ⟨by rw [HR.out], Fr.refl _ _⟩
            | false =>
              by_cases hb0 : 0 ≤ bd
              · have d0 : decide (0 ≤ bd) = true := decide_eq_true hb0
                have QH1 := Lib.hid (fun u (hu : Fr [] w7 u) => hasn_any u so sc1 (SE p) bd (SS.out u hu))
                cases hm1 : decide (bd ∈ SE p)
                case true =>
                  rw [hm1] at QH1
                  have HR := Lib.hid (by rw [HEQ.out, hm1, d0]; simp : eqv = true)
                  clear hm1 hb0
                  go_wp2_with (go_at_call 28; refine (QH1.out wr F7R.out).mono ?_; rintro e w' ⟨rfl, rfl⟩)
                  go_meet
                  exact ⟨by rw [HR.out], Fr.refl _ _⟩
                case false =>
                  rw [hm1] at QH1
                  have HR := Lib.hid (by rw [HEQ.out, hm1, d0]; simp [HK0.out] : eqv = decide (bd ∈ SN2))
                  obtain ⟨t, ht⟩ : ∃ t, t = decide (bd ∈ SN2) := ⟨_, rfl⟩
                  have HTE := Lib.hid ht
                  rw [← ht] at HR
                  clear hm1 hb0 ht
                  go_wp2_with (first | (refine wpList_loadG (by rfl) 49 (Operand.tmp 11) rfl b1 16 rfl C 49 (0, 0) (HBr.out) _ Try.underlying49 rfl HCS.out infoSetup ?_) | (go_at_call 28; refine (QH1.out wr F7R.out).mono ?_; rintro e w' ⟨rfl, rfl⟩))
                  refine (QSeen2.out wr FAR.out).mono ?_
                  rintro e wz ⟨so2, sc2, rfl, hs2, fz, -⟩
                  have FZ := Lib.hid fz
                  have QH2 := Lib.hid (by have h := hasn_any wz so2 sc2 SN2 bd hs2.rd; rw [← HTE.out] at h; exact h : Calls Try.prog 28 #[.slice so2 SN2.length sc2, .int .i64 bd] wz fun e w' => e = .returned (.bool t) ∧ wz = w')
                  clear hs2 fz
                  go_wp2_with (go_at_call 28; refine QH2.out.mono ?_; rintro e w' ⟨rfl, rfl⟩)
                  go_meet
                  exact ⟨by rw [HR.out], FZ.out⟩
              · have d0 : decide (0 ≤ bd) = false := decide_eq_false hb0
                have HR := Lib.hid (by rw [HEQ.out, d0]; simp [HK0.out] : eqv = false)
                clear hb0
                go_wp2_with fail
                go_meet
                exact ⟨by rw [HR.out], Fr.refl _ _⟩
        case rest =>
          obtain ⟨rfl, hfc⟩ := hcut
          have FC3 := Lib.hid (FRR.out.trans hfc (by simp [Ext]))
          have FC4 := Lib.hid (FR.out.trans hfc (by simp [Ext]))
          clear hfc
          cases eqv with
          | true =>
            go_wp2_with fail
            refine (lives_any _).mono ?_
            rintro e wL ⟨rfl, fL⟩
            have HL := Lib.hid (FC3.out.trans fL (by simp [Ext]))
            clear fL
            go_wp2_with fail
            go_ret
            exact ⟨rfl, (F1.out.trans F5.out (by simp [Ext])).trans HL.out (by simp [Ext])⟩
          | false =>
            have hsame : VW p = VN := by
              have he := HEQ.out.symm
              rw [Bool.or_eq_false_iff, Bool.or_eq_false_iff, Bool.and_eq_false_iff, decide_eq_false_iff_not, decide_eq_false_iff_not] at he
              obtain ⟨⟨he0, he1⟩, he2⟩ := he
              rw [HVW.out, HVNE.out, HSE.out, HNE.out]
              have hnb : s.nb = i := HSN.out
              have hmem : ∀ (cs : List Int) (b : Nat), b < i → ((b : Int) ∈ seenL s roomsL doors cs (p : Int)) = (seesB s roomsL doors cs (p : Int) (b : Int) = true) := fun cs b hbi => by
                unfold seenL
                rw [accL_mem]
                apply propext
                constructor
                · rintro ⟨k, -, h2, h3⟩
                  have : k = b := by omega
                  subst this; exact h2
                · intro h2; exact ⟨b, by omega, h2, rfl⟩
              refine view_hide HPL.out hnb hp hpn he0 ?_ fun b hbi hb1 hb2 => ?_
              · have h1 := HOW.out
                rw [he1] at h1
                have h2 := h1.symm
                rw [Bool.and_eq_false_iff, decide_eq_false_iff_not, decide_eq_false_iff_not] at h2
                have := HA4.out
                have := HAE.out
                omega
              · have hbd : bd = (b : Int) := by rw [HBD.out, if_pos (by have := HFO.out; omega)]; have := HFO.out; omega
                rcases he2 with h2 | h2
                · omega
                · rw [Bool.or_eq_false_iff, decide_eq_false_iff_not, decide_eq_false_iff_not, hbd] at h2
                  obtain ⟨h3, h4⟩ := h2
                  rw [HSE.out, hmem cells b hbi] at h3
                  rw [HSNE.out, HNE.out, hmem _ b hbi] at h4
                  exact ⟨by simpa using h3, by simpa using h4⟩
            have HSAME := Lib.hid hsame
            have QEQ := Lib.hid (by
              have h := equal_any wc vo vo2 vc vc2 (VW p) VN (SV.out wc (F67.out.trans (FA.out.trans (FB.out.trans FC4.out (by simp [Ext])) (by simp [Ext])) (by simp [Ext]))).rd (SV2.out wc FC4.out).rd
              rw [decide_eq_true hsame] at h; exact h)
            clear hsame
            go_wp2_with (first | (go_at_call 14; refine QEQ.out.mono ?_; rintro e wM ⟨rfl, fM⟩; have HM := Lib.hid (FC3.out.trans fM (by simp [Ext])); clear fM) | (go_at_call 16; refine (lives_any _).mono ?_; rintro e wL ⟨rfl, fL⟩; have HL := Lib.hid (HM.out.trans fL (by simp [Ext])); clear fL))
            go_ret
            exact ⟨rfl, (F1.out.trans F5.out (by simp [Ext])).trans HL.out (by simp [Ext])⟩
end Go.Proofs.Ytcgndeggemceaaa
