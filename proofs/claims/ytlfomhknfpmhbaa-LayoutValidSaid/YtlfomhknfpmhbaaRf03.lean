/- arenanetref03: left, Valid. -/
import Derived.Test.YtlfomhknfpmhbaaGenV12
namespace Go.Proofs.Ytlfomhknfpmhbaa
open Go.RowKit

attribute [local irreducible] wpStill

set_option maxRecDepth 100000 in
set_option maxHeartbeats 2000000 in
theorem left_any (w : World) (v x p : Int × Int) : Calls Try.prog 54 #[.agg #[.int .i64 v.1, .int .i64 v.2], .agg #[.int .i64 x.1, .int .i64 x.2], .agg #[.int .i64 p.1, .int .i64 p.2]] w fun e w' => e = .returned (.int .i64 (crs v x p)) ∧ Fr [] w w' := by
  unfold crs
  obtain ⟨v1, v2⟩ := v
  obtain ⟨x1, x2⟩ := x
  obtain ⟨p1, p2⟩ := p
  go_enter Try.func54, Try.ntmps54
  go_wp2
  go_ret
  exact ⟨rfl, (((Fr.refl [] w).alloc _).alloc _).alloc _⟩

theorem within_bd {p : Int × Int} : withinB p = true ↔ (-32768 ≤ p.1 ∧ p.1 ≤ 32768) ∧ (-32768 ≤ p.2 ∧ p.2 ≤ 32768) := by
  unfold withinB inB; simp

set_option maxRecDepth 100000 in
set_option maxHeartbeats 16000000 in
theorem rvalid_any (w : World) (rad : Int) (po : Option Addr) (pc : Nat) (l : List (Int × Int)) (hlen : l.length ≤ 1000000) (hrd : Rd w 2 po l.length (vecs l)) :
    Calls Try.prog 42 #[.agg #[.int .i64 rad, .slice po l.length pc]] w fun e w' => e = .returned (.bool (shB rad l)) ∧ Fr [] w w' := by
  have HLEN := Lib.hid hlen
  have hcell := alloc_new w (.cells #[.int .i64 rad, .slice po l.length pc] 48)
  obtain ⟨b, hb⟩ : ∃ b, b = w.heap.size := ⟨_, rfl⟩
  obtain ⟨wb, hwb⟩ : ∃ wb, wb = w.alloc (.cells #[.int .i64 rad, .slice po l.length pc] 48) := ⟨_, rfl⟩
  rw [← hb, ← hwb] at hcell
  have HCELL := Lib.hid hcell
  have HF0 := Lib.hid (by rw [hwb]; exact (Fr.refl [] w).alloc _ : Fr [] w wb)
  have HB := Lib.hid hb
  have HWB := Lib.hid hwb
  have HPT := Lib.hid (fun (u : World) (hu : Fr [] wb u) => (hrd.fr (HF0.out.trans hu (by simp [Ext])) (by simp) : Rd u 2 po l.length (vecs l)))
  have hc0 : ∀ (u : World), Fr [] wb u → u.cell? ⟨b, 0, none⟩ = some (.int .i64 rad) := fun u hu => cell_blk (hu.blk hcell (by simp)) 0
  have hc1 : ∀ (u : World), Fr [] wb u → u.cell? ⟨b, 1, none⟩ = some (.slice po l.length pc) := fun u hu => cell_blk (hu.blk hcell (by simp)) 1
  have HC0 := Lib.hid hc0
  have HC1 := Lib.hid hc1
  have c0 := hc0 wb (Fr.refl _ _)
  have c1 := hc1 wb (Fr.refl _ _)
  clear hrd hcell hb hwb hc0 hc1
  by_cases h0 : l.length = 0
  case pos =>
    have hne : ((l.length : Int) == 0) = true := by rw [h0]; rfl
    have hv : shB rad l = (decide (1 ≤ rad) && decide (rad ≤ 32768)) := by unfold shB; rw [if_pos h0]
    rw [hv]
    clear hv h0
    by_cases h1 : 1 ≤ rad
    · by_cases h2 : rad ≤ 32768
      · rw [decide_eq_true h1, decide_eq_true h2]
        go_enter Try.func42, Try.ntmps42
        go_wp2_with fail
        rw [← HB.out, ← HWB.out]
        go_wp2_with fail
        go_ret
        exact ⟨rfl, HF0.out⟩
      · rw [decide_eq_false h2, Bool.and_false]
        go_enter Try.func42, Try.ntmps42
        go_wp2_with fail
        rw [← HB.out, ← HWB.out]
        go_wp2_with fail
        go_ret
        exact ⟨rfl, HF0.out⟩
    · rw [decide_eq_false h1, Bool.false_and]
      go_enter Try.func42, Try.ntmps42
      go_wp2_with fail
      rw [← HB.out, ← HWB.out]
      go_wp2_with fail
      go_ret
      exact ⟨rfl, HF0.out⟩
  case neg =>
  have hne : ((l.length : Int) == 0) = false := beq_eq_false_iff_ne.2 (by omega)
  by_cases h1 : rad = 0
  case neg =>
    have hv : shB rad l = false := by unfold shB; rw [if_neg h0]; simp [h1]
    have hn1 : (rad != 0) = true := bne_iff_ne.2 h1
    rw [hv]
    clear hv h1
    go_enter Try.func42, Try.ntmps42
    go_wp2_with fail
    rw [← HB.out, ← HWB.out]
    go_wp2_with fail
    go_ret
    exact ⟨rfl, HF0.out⟩
  case pos =>
  subst h1
  by_cases h3 : l.length < 3
  case pos =>
    have hv : shB 0 l = false := by unfold shB; rw [if_neg h0]; simp; omega
    have h3' : (l.length : Int) < 3 := by omega
    rw [hv]
    clear hv h3
    go_enter Try.func42, Try.ntmps42
    go_wp2_with fail
    rw [← HB.out, ← HWB.out]
    go_wp2_with fail
    go_ret
    exact ⟨rfl, HF0.out⟩
  case neg =>
  by_cases h6 : 6 < l.length
  case pos =>
    have hv : shB 0 l = false := by unfold shB; rw [if_neg h0]; simp; omega
    have h3' : ¬ (l.length : Int) < 3 := by omega
    have h6' : (6 : Int) < (l.length : Int) := by omega
    rw [hv]
    clear hv h3
    go_enter Try.func42, Try.ntmps42
    go_wp2_with fail
    rw [← HB.out, ← HWB.out]
    go_wp2_with fail
    go_ret
    exact ⟨rfl, HF0.out⟩
  case neg =>
  have hv : shB 0 l = (l.all withinB && convB l) := by
    unfold shB; rw [if_neg h0]
    have e1 : decide (3 ≤ l.length) = true := decide_eq_true (by omega)
    have e2 : decide (l.length ≤ 6) = true := decide_eq_true (by omega)
    rw [e1, e2, decide_eq_true rfl]
    simp only [Bool.true_and]
  have HV := Lib.hid hv
  have h3' : ¬ (l.length : Int) < 3 := by omega
  have h6' : ¬ (6 : Int) < (l.length : Int) := by omega
  clear hv
  go_enter Try.func42, Try.ntmps42
  go_wp2_with fail
  rw [← HB.out, ← HWB.out]
  go_wp2_with fail
  clear c0 c1 h3' h6'
  go_loopw [4] (fun iv wr => ∃ i : Nat, i ≤ l.length ∧ iv = .int .i64 (i : Int) ∧ (l.take i).all withinB = true ∧ Fr [] wb wr) (fun iv _ => l.length - (intOf iv).toNat)
  case atStart => exact ⟨0, by omega, rfl, rfl, Fr.refl _ _⟩
  case round =>
    obtain ⟨i, hi, rfl, ht, hf⟩ := hrel
    have c1 := HC1.out _ hf
    have HT := Lib.hid ht
    have HF := Lib.hid hf
    clear ht hf
    by_cases hil : i < l.length
    · obtain ⟨g, off, rfl, hg, k0, k1⟩ := (HPT.out _ HF.out).vec hil
      obtain ⟨p, hp⟩ : ∃ p, p = vx l i := ⟨_, rfl⟩
      rw [← hp] at k0 k1
      have HP := Lib.hid hp
      have hlt : (i : Int) < (l.length : Int) := by omega
      have HF2 := Lib.hid (HF.out.alloc (.cells #[.int .i64 p.1, .int .i64 p.2] 29))
      have HBAD := Lib.hid (fun (hh : withinB p = false) => (by rw [HV.out, within_bad hil (by rw [← HP.out]; exact hh)]; rfl : shB 0 l = false))
      have HGOOD := Lib.hid (fun (hh : withinB p = true) => within_good hil HT.out (by rw [← HP.out]; exact hh))
      clear hp
      by_cases a1 : p.1 < -32768
      · have e : withinB p = false := by rw [Bool.eq_false_iff]; intro h; have := within_bd.1 h; omega
        have HE := Lib.hid (HBAD.out e)
        clear e
        go_wp2_with fail
        go_ret
        exact ⟨congrArg (fun x => Ending.returned (.bool x)) HE.out.symm, HF0.out.trans HF2.out (by simp [Ext])⟩
      · by_cases a2 : 32768 < p.1
        · have e : withinB p = false := by rw [Bool.eq_false_iff]; intro h; have := within_bd.1 h; omega
          have HE := Lib.hid (HBAD.out e)
          clear e
          go_wp2_with fail
          go_ret
          exact ⟨congrArg (fun x => Ending.returned (.bool x)) HE.out.symm, HF0.out.trans HF2.out (by simp [Ext])⟩
        · by_cases a3 : p.2 < -32768
          · have e : withinB p = false := by rw [Bool.eq_false_iff]; intro h; have := within_bd.1 h; omega
            have HE := Lib.hid (HBAD.out e)
            clear e
            go_wp2_with fail
            go_ret
            exact ⟨congrArg (fun x => Ending.returned (.bool x)) HE.out.symm, HF0.out.trans HF2.out (by simp [Ext])⟩
          · by_cases a4 : 32768 < p.2
            · have e : withinB p = false := by rw [Bool.eq_false_iff]; intro h; have := within_bd.1 h; omega
              have HE := Lib.hid (HBAD.out e)
              clear e
              go_wp2_with fail
              go_ret
              exact ⟨congrArg (fun x => Ending.returned (.bool x)) HE.out.symm, HF0.out.trans HF2.out (by simp [Ext])⟩
            · have HE := Lib.hid (HGOOD.out (within_bd.2 ⟨⟨by omega, by omega⟩, ⟨by omega, by omega⟩⟩))
              go_wp2_with fail
              go_roundw
              case rel => exact ⟨i + 1, by omega, by have := HLEN.out; go_num, HE.out, HF2.out⟩
              case measure => have := HLEN.out; simp [intOf]; omega
    · have hall : l.all withinB = true := by have h := HT.out; rw [List.take_of_length_le (by omega)] at h; exact h
      have HV2 := Lib.hid (by rw [HV.out, hall]; rfl : shB 0 l = convB l)
      have hnlt : ¬ (i : Int) < (l.length : Int) := by omega
      clear hall
      go_wp2_with fail
      clear c1
      go_loopw [6] (fun iv wr2 => ∃ j : Nat, j ≤ l.length ∧ iv = .int .i64 (j : Int) ∧ (∀ q, q < j → edgeB l q = true) ∧ Fr [] wb wr2) (fun iv _ => l.length - (intOf iv).toNat)
      case atStart => exact ⟨0, by omega, rfl, fun q hq => by omega, HF.out⟩
      case round =>
        obtain ⟨j, hj, rfl, hall, hf⟩ := hrel
        have HALL := Lib.hid hall
        have HF := Lib.hid hf
        have c1 := HC1.out _ hf
        clear hall hf
        by_cases hjl : j < l.length
        · obtain ⟨k, hk⟩ : ∃ k, k = nx l.length j := ⟨_, rfl⟩
          have hkl : k < l.length := by rw [hk]; exact nx_lt hjl
          have htm : ((j : Int) + 1) % (l.length : Int) = (k : Int) := by rw [hk]; exact nx_mod l.length j
          have HK := Lib.hid hk
          clear hk
          obtain ⟨g, off, e, hg, pi0, pi1⟩ := (HPT.out _ HF.out).vec hjl
          obtain ⟨_, _, e', -, pk0, pk1⟩ := (HPT.out _ HF.out).vec hkl
          subst e
          cases e'
          obtain ⟨v, hv⟩ : ∃ v, v = vx l j := ⟨_, rfl⟩
          obtain ⟨u, hu⟩ : ∃ u, u = vx l k := ⟨_, rfl⟩
          rw [← hv] at pi0 pi1
          rw [← hu] at pk0 pk1
          have HLF := Lib.hid (fun (q : World) (p1 p2 : Int) => (left_any q v u (p1, p2)))
          obtain ⟨va, vb⟩ := v
          obtain ⟨ua, ub⟩ := u
          simp only at pi0 pi1 pk0 pk1 HLF
          obtain ⟨c, hc⟩ : ∃ c, c = crs (va, vb) (ua, ub) (0, 0) := ⟨_, rfl⟩
          have HL0 := Lib.hid (fun (q : World) => (by have h := HLF.out q 0 0; rw [← hc] at h; exact h :
            Calls Try.prog 54 #[.agg #[.int .i64 va, .int .i64 vb], .agg #[.int .i64 ua, .int .i64 ub], .agg #[.int .i64 0, .int .i64 0]] q fun e w' => e = .returned (.int .i64 c) ∧ Fr [] q w'))
          have hjlt : (j : Int) < (l.length : Int) := by omega
          have hklt : (k : Int) < (l.length : Int) := by omega
          have hl6 : (l.length : Int) ≤ 6 := by omega
          have HV' := Lib.hid hv
          have HU := Lib.hid hu
          have HC := Lib.hid hc
          clear hv hu hc hg hi hil hnlt
          go_upto_region 16 with fail
          refine wp_still_tail 11 (by kernel_rfl) (by kernel_rfl) ?_
          simp only [List.take_succ_cons, List.take_zero, List.drop_succ_cons, List.drop_zero]
          repeat still_step
          refine wpStill_nil ?_
          -- S1
          have HE1 := Lib.hid (fun (hcc : c ≤ 0) => (by
            have hbad : edgeB l j = false := by
              unfold edgeB
              rw [← HK.out, ← HV'.out, ← HU.out, ← HC.out, decide_eq_false (by omega)]; rfl
            rw [HV2.out]
            exact conv_bad hjl hbad : shB 0 l = false))
          -- M1
          by_cases hc0 : c ≤ 0
          case pos =>
            have HE := Lib.hid (HE1.out hc0)
            go_wp2_with (go_at_call 54; refine (HL0.out _).mono ?_; rintro e w3 ⟨rfl, f3⟩; have F3 := Lib.hid (HF.out.drew.trans f3 (by simp [Ext])); clear f3)
            go_ret
            exact ⟨congrArg (fun x => Ending.returned (.bool x)) HE.out.symm, HF0.out.trans F3.out (by simp [Ext])⟩
          case neg =>
            have HC0 := Lib.hid hc0
            go_upto_region 18 with (go_at_call 54; refine (HL0.out _).mono ?_; rintro e w3 ⟨rfl, f3⟩; have F3 := Lib.hid (HF.out.drew.trans f3 (by simp [Ext])); clear f3)
            -- M2
            clear hc0 pi0 pi1 pk0 pk1 c1 htm HE1
            go_wp2_with fail
            go_loopw [8] (fun iv wr3 => ∃ m : Nat, m ≤ l.length ∧ iv = .int .i64 (m : Int) ∧ (∀ q, q < m → hitB l j q = true) ∧ Fr [] wb wr3) (fun iv _ => l.length - (intOf iv).toNat)
            case atStart => exact ⟨0, by omega, rfl, fun q hq => by omega, F3.out⟩
            case round =>
              -- M3
              obtain ⟨m, hm, rfl, hallm, hf⟩ := hrel
              have HAM := Lib.hid hallm
              have HFM := Lib.hid hf
              have c1 := HC1.out _ hf
              clear hallm hf
              by_cases hml : m < l.length
              · obtain ⟨_, _, e, hg, pi0, pi1⟩ := (HPT.out _ HFM.out).vec hjl
                cases e
                obtain ⟨_, _, e, -, pk0, pk1⟩ := (HPT.out _ HFM.out).vec hkl
                cases e
                obtain ⟨_, _, e, -, pm0, pm1⟩ := (HPT.out _ HFM.out).vec hml
                cases e
                rw [← HV'.out] at pi0 pi1
                rw [← HU.out] at pk0 pk1
                obtain ⟨y, hy⟩ : ∃ y, y = vx l m := ⟨_, rfl⟩
                rw [← hy] at pm0 pm1
                obtain ⟨y1, y2⟩ := y
                simp only at pi0 pi1 pk0 pk1 pm0 pm1
                have hmlt : (m : Int) < (l.length : Int) := by omega
                have HNX := Lib.hid (fun (hh : hitB l j m = true) => (fun q hq => by
                  by_cases hqm : q = m
                  · rw [hqm]; exact hh
                  · exact HAM.out q (by omega) : ∀ q, q < m + 1 → hitB l j q = true))
                have HHIT := Lib.hid (by unfold hitB; rw [← HK.out, ← HV'.out, ← HU.out, ← hy] : hitB l j m = (m == j || m == k || decide (0 < crs (va, vb) (ua, ub) (y1, y2))))
                clear hy hg
                -- M4
                by_cases hmi : m = j
                case' pos =>
                  have e1 : ((m : Int) != (j : Int)) = false := by simp; omega
                  have HH := Lib.hid (HNX.out (by rw [HHIT.out, hmi]; simp))
                  clear hmi
                  go_upto_region 21 with fail
                  -- N1
                  refine wp_still_tail 24 (by kernel_rfl) (by kernel_rfl) ?_
                  simp only [List.take_succ_cons, List.take_zero, List.drop_succ_cons, List.drop_zero]
                  repeat still_step
                  refine wpStill_nil ?_
                  -- S2
                  go_wp2_with fail
                  go_roundw
                  case rel => exact ⟨m + 1, by omega, by go_num, HH.out, HFM.out.drew⟩
                  case measure => simp [intOf]; omega
                case' neg =>
                  have e1 : ((m : Int) != (j : Int)) = true := by simp; omega
                  have b1 : (m == j) = false := beq_eq_false_iff_ne.2 hmi
                  rw [b1] at HHIT
                  clear hmi b1
                  by_cases hmk : m = k
                  case' pos =>
                    have e2 : ((m : Int) != (k : Int)) = false := by simp; omega
                    have HH := Lib.hid (HNX.out (by rw [HHIT.out, hmk]; simp))
                    clear hmk
                    go_upto_region 21 with fail
                    -- N2
                    refine wp_still_tail 24 (by kernel_rfl) (by kernel_rfl) ?_
                    simp only [List.take_succ_cons, List.take_zero, List.drop_succ_cons, List.drop_zero]
                    repeat still_step
                    refine wpStill_nil ?_
                    -- S3
                    go_wp2_with fail
                    go_roundw
                    case rel => exact ⟨m + 1, by omega, by go_num, HH.out, HFM.out.drew⟩
                    case measure => simp [intOf]; omega
                  case' neg =>
                    have e2 : ((m : Int) != (k : Int)) = true := by simp; omega
                    have b1 : (m == k) = false := beq_eq_false_iff_ne.2 hmk
                    rw [b1] at HHIT
                    clear hmk b1
                    obtain ⟨d, hd⟩ : ∃ d, d = crs (va, vb) (ua, ub) (y1, y2) := ⟨_, rfl⟩
                    have HLM := Lib.hid (fun (q : World) => (by have h := HLF.out q y1 y2; rw [← hd] at h; exact h :
                      Calls Try.prog 54 #[.agg #[.int .i64 va, .int .i64 vb], .agg #[.int .i64 ua, .int .i64 ub], .agg #[.int .i64 y1, .int .i64 y2]] q fun e w' => e = .returned (.int .i64 d) ∧ Fr [] q w'))
                    rw [← hd] at HHIT
                    clear hd
                    by_cases hd0 : d ≤ 0
                    case' pos =>
                      have hz : hitB l j m = false := by rw [HHIT.out]; simp; omega
                      have hbad : edgeB l j = false := by
                        have ha : (List.range l.length).all (hitB l j) = false := by
                          rw [List.all_eq_false]
                          exact ⟨m, List.mem_range.2 hml, by rw [hz]; simp⟩
                        unfold edgeB
                        rw [ha, Bool.and_false]
                      have HE := Lib.hid (by rw [HV2.out]; exact conv_bad hjl hbad : shB 0 l = false)
                      clear hz hbad
                      go_upto_region 21 with fail
                      -- N3
                      refine wp_still_tail 24 (by kernel_rfl) (by kernel_rfl) ?_
                      simp only [List.take_succ_cons, List.take_zero, List.drop_succ_cons, List.drop_zero]
                      repeat still_step
                      refine wpStill_nil ?_
                      -- S4
                      go_wp2_with (go_at_call 54; refine (HLM.out _).mono ?_; rintro e w5 ⟨rfl, f5⟩; have F5 := Lib.hid (HFM.out.drew.trans f5 (by simp [Ext])); clear f5)
                      go_ret
                      exact ⟨congrArg (fun x => Ending.returned (.bool x)) HE.out.symm, HF0.out.trans F5.out (by simp [Ext])⟩
                    case' neg =>
                      have HH := Lib.hid (HNX.out (by rw [HHIT.out]; simp; omega))
                      go_upto_region 21 with fail
                      -- N4
                      refine wp_still_tail 24 (by kernel_rfl) (by kernel_rfl) ?_
                      simp only [List.take_succ_cons, List.take_zero, List.drop_succ_cons, List.drop_zero]
                      repeat still_step
                      refine wpStill_nil ?_
                      -- S5
                      go_wp2_with (go_at_call 54; refine (HLM.out _).mono ?_; rintro e w5 ⟨rfl, f5⟩; have F5 := Lib.hid (HFM.out.drew.trans f5 (by simp [Ext])); clear f5)
                      go_roundw
                      case rel => exact ⟨m + 1, by omega, by go_num, HH.out, F5.out⟩
                      case measure => simp [intOf]; omega
              · have hnlt : ¬ (m : Int) < (l.length : Int) := by omega
                have HE := Lib.hid (by
                  unfold edgeB
                  rw [← HK.out, ← HV'.out, ← HU.out, ← HC.out, decide_eq_true (by have := HC0.out; omega), Bool.true_and, List.all_eq_true]
                  exact fun q hq => HAM.out q (by have := List.mem_range.1 hq; omega) : edgeB l j = true)
                go_wp2_with fail
                go_roundw
                case rel => exact ⟨j + 1, by omega, by go_num, fun q hq => by
                  by_cases hqj : q = j
                  · rw [hqj]; exact HE.out
                  · exact HALL.out q (by omega), HFM.out⟩
                case measure => simp [intOf]; omega
        · have hnlt2 : ¬ (j : Int) < (l.length : Int) := by omega
          have HE := Lib.hid (by
            rw [HV2.out]
            unfold convB
            rw [List.all_eq_true]
            exact fun q hq => HALL.out q (by have := List.mem_range.1 hq; omega) : shB 0 l = true)
          go_wp2_with fail
          go_ret
          exact ⟨congrArg (fun x => Ending.returned (.bool x)) HE.out.symm, HF0.out.trans HF.out (by simp [Ext])⟩
end Go.Proofs.Ytlfomhknfpmhbaa
