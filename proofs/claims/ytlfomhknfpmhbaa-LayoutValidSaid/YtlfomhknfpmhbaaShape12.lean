/- shape.Validate at any shape. -/
import Derived.Test.YtlfomhknfpmhbaaConv12
namespace Go.Proofs.Ytlfomhknfpmhbaa
open Go.RowKit

theorem iscircle_any (u : World) (rad : Int) (po : Option Addr) (n pc : Nat) (hn : n ≠ 0) : Calls Try.prog 45 #[.agg #[.int .i64 rad, .slice po n pc]] u fun e w' => e = .returned (.bool false) ∧ Fr [] u w' := by
  have hne : ((n : Int) == 0) = false := beq_eq_false_iff_ne.2 (by omega)
  go_enter Try.func45, Try.ntmps45
  go_wp2
  go_ret
  exact ⟨rfl, (Fr.refl [] u).alloc _⟩

theorem within_bad {l : List (Int × Int)} {i : Nat} (hi : i < l.length) (h : withinB (vx l i) = false) : l.all withinB = false := by
  have e : vx l i = l[i] := by unfold vx; rw [List.getD_eq_getElem?_getD, List.getElem?_eq_getElem hi]; rfl
  rw [e] at h
  exact not_all_of hi h
theorem within_good {l : List (Int × Int)} {i : Nat} (hi : i < l.length) (ht : (l.take i).all withinB = true) (h : withinB (vx l i) = true) : (l.take (i + 1)).all withinB = true := by
  have e : vx l i = l[i] := by unfold vx; rw [List.getD_eq_getElem?_getD, List.getElem?_eq_getElem hi]; rfl
  rw [e] at h
  exact all_snoc hi ht h

set_option maxRecDepth 100000 in
set_option maxHeartbeats 8000000 in
theorem shape_any (w : World) (rad : Int) (po : Option Addr) (pc : Nat) (l : List (Int × Int)) (hlen : l.length ≤ 1000000) (hrd : Rd w 2 po l.length (vecs l)) :
    Calls Try.prog 25 #[.agg #[.int .i64 rad, .slice po l.length pc]] w fun e w' => e = .returned (.int .i64 (shV rad l)) ∧ Fr [] w w' := by
  by_cases h0 : l.length = 0
  · have h := circle_any w rad po pc
    have e : shV rad l = if rad < 1 ∨ 32768 < rad then 10 else 0 := by
      unfold shV shB
      rw [if_pos h0]
      by_cases h1 : 1 ≤ rad
      · by_cases h2 : rad ≤ 32768
        · rw [decide_eq_true h1, decide_eq_true h2, show (if rad < 1 ∨ 32768 < rad then (10 : Int) else 0) = 0 from if_neg (by omega)]; rfl
        · rw [decide_eq_false h2, show (if rad < 1 ∨ 32768 < rad then (10 : Int) else 0) = 10 from if_pos (.inr (by omega)), Bool.and_false]; rfl
      · rw [decide_eq_false h1, show (if rad < 1 ∨ 32768 < rad then (10 : Int) else 0) = 10 from if_pos (.inl (by omega)), Bool.false_and]; rfl
    rw [e, h0]
    exact h
  have HC := Lib.hid (fun (u : World) => iscircle_any u rad po l.length pc h0)
  have HRD := Lib.hid hrd
  have HLEN := Lib.hid hlen
  clear hrd
  have hcell := alloc_new w (.cells #[.int .i64 rad, .slice po l.length pc] 48)
  obtain ⟨b, hb⟩ : ∃ b, b = w.heap.size := ⟨_, rfl⟩
  rw [← hb] at hcell
  have HCELL := Lib.hid hcell
  have HB := Lib.hid hb
  clear hcell hb
  by_cases h1 : rad = 0
  case neg =>
    have hv : shV rad l = 10 := by unfold shV shB; rw [if_neg h0]; simp [h1]
    have hne : (rad != 0) = true := bne_iff_ne.2 h1
    rw [hv]
    clear hv h1
    go_enter Try.func25, Try.ntmps25
    go_wp2_with fail
    rw [← HB.out]
    refine (HC.out _).mono ?_
    rintro e w1 ⟨rfl, f1⟩
    have F1 := Lib.hid (((Fr.refl [] w).alloc _).trans f1 (by simp [Ext]))
    have c0 : w1.cell? ⟨b, 0, none⟩ = some (.int .i64 rad) := cell_blk (f1.blk HCELL.out (by simp)) 0
    clear f1
    go_wp2_with fail
    go_ret
    exact ⟨rfl, F1.out⟩
  case pos =>
  subst h1
  by_cases h3 : l.length < 3
  case pos =>
    have hv : shV 0 l = 10 := by unfold shV shB; rw [if_neg h0]; simp; omega
    have h3' : (l.length : Int) < 3 := by omega
    rw [hv]
    clear hv h3
    go_enter Try.func25, Try.ntmps25
    go_wp2_with fail
    rw [← HB.out]
    refine (HC.out _).mono ?_
    rintro e w1 ⟨rfl, f1⟩
    have F1 := Lib.hid (((Fr.refl [] w).alloc _).trans f1 (by simp [Ext]))
    have c0 : w1.cell? ⟨b, 0, none⟩ = some (.int .i64 0) := cell_blk (f1.blk HCELL.out (by simp)) 0
    have c1 : w1.cell? ⟨b, 1, none⟩ = some (.slice po l.length pc) := cell_blk (f1.blk HCELL.out (by simp)) 1
    clear f1
    go_wp2_with fail
    go_ret
    exact ⟨rfl, F1.out⟩
  case neg =>
  by_cases h6 : 6 < l.length
  case pos =>
    have hv : shV 0 l = 10 := by unfold shV shB; rw [if_neg h0]; simp; omega
    have h3' : ¬ (l.length : Int) < 3 := by omega
    have h6' : (6 : Int) < (l.length : Int) := by omega
    rw [hv]
    clear hv h3
    go_enter Try.func25, Try.ntmps25
    go_wp2_with fail
    rw [← HB.out]
    refine (HC.out _).mono ?_
    rintro e w1 ⟨rfl, f1⟩
    have F1 := Lib.hid (((Fr.refl [] w).alloc _).trans f1 (by simp [Ext]))
    have c0 : w1.cell? ⟨b, 0, none⟩ = some (.int .i64 0) := cell_blk (f1.blk HCELL.out (by simp)) 0
    have c1 : w1.cell? ⟨b, 1, none⟩ = some (.slice po l.length pc) := cell_blk (f1.blk HCELL.out (by simp)) 1
    clear f1
    go_wp2_with fail
    go_ret
    exact ⟨rfl, F1.out⟩
  case neg =>
  have hv : shV 0 l = if l.all withinB && convB l then 0 else 10 := by
    unfold shV shB; rw [if_neg h0]
    have e1 : decide (3 ≤ l.length) = true := decide_eq_true (by omega)
    have e2 : decide (l.length ≤ 6) = true := decide_eq_true (by omega)
    rw [e1, e2, decide_eq_true rfl]
    simp only [Bool.true_and]
  have HV := Lib.hid hv
  have h3' : ¬ (l.length : Int) < 3 := by omega
  have h6' : ¬ (6 : Int) < (l.length : Int) := by omega
  clear hv
  go_enter Try.func25, Try.ntmps25
  go_wp2_with fail
  rw [← HB.out]
  refine (HC.out _).mono ?_
  rintro e w1 ⟨rfl, f1⟩
  have F1 := Lib.hid (((Fr.refl [] w).alloc _).trans f1 (by simp [Ext]))
  have hcb := f1.blk HCELL.out (by simp)
  have c0 : w1.cell? ⟨b, 0, none⟩ = some (.int .i64 0) := cell_blk hcb 0
  have c1 : w1.cell? ⟨b, 1, none⟩ = some (.slice po l.length pc) := cell_blk hcb 1
  have HCB := Lib.hid hcb
  clear f1 hcb
  go_wp2_with fail
  clear c0 c1 h3' h6'
  go_loopw [33] (fun iv wr => ∃ i : Nat, i ≤ l.length ∧ iv = .int .i64 (i : Int) ∧ (l.take i).all withinB = true ∧ Fr [] w1 wr) (fun iv _ => l.length - (intOf iv).toNat)
  case atStart => exact ⟨0, by omega, rfl, rfl, Fr.refl _ _⟩
  case round =>
    obtain ⟨i, hi, rfl, ht, hf⟩ := hrel
    have HT := Lib.hid ht
    have HF := Lib.hid hf
    clear ht hf
    by_cases hil : i < l.length
    · obtain ⟨g, off, rfl, hg, k0, k1⟩ := (HRD.out.fr (F1.out.trans HF.out (by simp [Ext])) (by simp)).vec hil
      obtain ⟨p, hp⟩ : ∃ p, p = vx l i := ⟨_, rfl⟩
      rw [← hp] at k0 k1
      obtain ⟨t1, ht1⟩ : ∃ t, t = inB (-32768) 32768 p.1 := ⟨_, rfl⟩
      obtain ⟨t2, ht2⟩ : ∃ t, t = inB (-32768) 32768 p.2 := ⟨_, rfl⟩
      have HW1 := Lib.hid (fun (u : World) => (by have h := swithin_any u p.1; rw [← ht1] at h; exact h : Calls Try.prog 46 #[.int .i64 p.1] u fun e w' => e = .returned (.bool t1) ∧ w' = u))
      have HW2 := Lib.hid (fun (u : World) => (by have h := swithin_any u p.2; rw [← ht2] at h; exact h : Calls Try.prog 46 #[.int .i64 p.2] u fun e w' => e = .returned (.bool t2) ∧ w' = u))
      have hw : withinB (vx l i) = (t1 && t2) := by rw [← hp, ht1, ht2]; rfl
      have HW := Lib.hid hw
      have hlt : (i : Int) < (l.length : Int) := by omega
      have HF2 := Lib.hid (HF.out.alloc (.cells #[.int .i64 p.1, .int .i64 p.2] 29))
      clear hp ht1 ht2 hw
      go_wp2_with fail
      refine (HW1.out _).mono ?_
      rintro e w2 ⟨rfl, rfl⟩
      cases t1 with
      | false =>
        go_wp2_with fail
        go_ret
        exact ⟨congrArg (fun x => Ending.returned (.int .i64 x)) (by rw [HV.out, within_bad hil (by rw [HW.out]; rfl)]; rfl), F1.out.trans HF2.out (by simp [Ext])⟩
      | true =>
        go_wp2_with fail
        refine (HW2.out _).mono ?_
        rintro e w2 ⟨rfl, rfl⟩
        cases t2 with
        | false =>
          go_wp2_with fail
          go_ret
          exact ⟨congrArg (fun x => Ending.returned (.int .i64 x)) (by rw [HV.out, within_bad hil (by rw [HW.out]; rfl)]; rfl), F1.out.trans HF2.out (by simp [Ext])⟩
        | true =>
          go_wp2_with fail
          go_roundw
          case rel => exact ⟨i + 1, by omega, by go_num, within_good hil HT.out (by rw [HW.out]; rfl), HF2.out⟩
          case measure => simp [intOf]; omega
    · have hall : l.all withinB = true := by have h := HT.out; rw [List.take_of_length_le (by omega)] at h; exact h
      have hv2 : shV 0 l = if convB l then 0 else 10 := by rw [HV.out, hall]; rfl
      have hnlt : ¬ (i : Int) < (l.length : Int) := by omega
      have c1 : wr.cell? ⟨b, 1, none⟩ = some (.slice po l.length pc) := cell_blk (HF.out.blk HCB.out (by simp)) 1
      obtain ⟨t, ht⟩ : ∃ t, t = convB l := ⟨_, rfl⟩
      have HX := Lib.hid (fun (u : World) (hu : Fr [] w u) => (by have h := convex_any u po pc l HLEN.out (HRD.out.fr hu (by simp)); rw [← ht] at h; exact h : Calls Try.prog 47 #[.slice po l.length pc] u fun e w' => e = .returned (.bool t) ∧ Fr [] u w'))
      rw [← ht] at hv2
      have HV2 := Lib.hid hv2
      clear hall hv2 ht
      go_wp2_with fail
      refine (HX.out _ (F1.out.trans HF.out (by simp [Ext]))).mono ?_
      rintro e w2 ⟨rfl, f2⟩
      have F2 := Lib.hid ((F1.out.trans HF.out (by simp [Ext])).trans f2 (by simp [Ext]))
      clear f2 c1
      cases t with
      | false =>
        go_wp2_with fail
        go_ret
        exact ⟨congrArg (fun x => Ending.returned (.int .i64 x)) (by rw [HV2.out]; rfl), F2.out⟩
      | true =>
        go_wp2_with fail
        go_ret
        exact ⟨congrArg (fun x => Ending.returned (.int .i64 x)) (by rw [HV2.out]; rfl), F2.out⟩
end Go.Proofs.Ytlfomhknfpmhbaa
