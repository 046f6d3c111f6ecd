/- BroadphasePermuted returns true. -/
import Derived.Deep.DeepCutAuto
import Derived.Deep.CutBlock
import Derived.Test.YtoplpmkcfgadlaaBPermP
import Derived.Test.YtoplpmkcfgadlaaBroadL
namespace Go.Proofs.Ytoplpmkcfgadlaa
open Go.RowKit

set_option maxRecDepth 100000 in
set_option maxHeartbeats 16000000 in
theorem bperm_walk (w : World) (lo : Option Addr) (lc : Nat) (l : List Int) (hr : Rd w 1 lo l.length (ints l)) (hb : ∀ x ∈ l, bounded x) (cut : Int) (hcb : bounded cut) :
    Calls Try.prog 7 #[.slice lo l.length lc, .int .i64 cut] w fun e w' => e = .returned (.bool true) ∧ Fr [] w w' := by
  obtain ⟨ib, hib, hb0, hb1, hb2⟩ := info_parts infoBox
  obtain ⟨ip, hip, hp0, hp1, hp2⟩ := info_parts infoPair
  have HBX := Lib.hid (boxes_any w lo lc l hr hb)
  have HAR := Lib.hid (fun (m : Nat) (h : 1 ≤ m) (h2 : m ≤ 100) => around_nat cut m hcb h (by omega))
  clear hr hb hcb
  go_enter Try.func7, Try.ntmps7
  go_wp2_with fail
  refine HBX.out.mono ?_
  rintro e w1 ⟨bs, bo, bc, rfl, h20, -, hfi, hs1, hn1, hf1⟩
  have HOK := Lib.hid (fun b hb => (hfi b hb).1 : ∀ b ∈ bs, b.ok)
  have HS1 := Lib.hid hs1
  have HF1 := Lib.hid hf1
  have hsz1 := hf1.size
  obtain ⟨n, hn⟩ : ∃ n, n = bs.length := ⟨_, rfl⟩
  have HN := Lib.hid hn
  rw [← hn] at h20 HS1 ⊢
  have wn1 : IntKind.i64.wrap ((n : Int) - 1) = (n : Int) - 1 := IntWalk.i64_in _ (by omega)
  have wn2 : IntKind.i64.wrap ((n : Int) + 1) = ((n + 1 : Nat) : Int) := by rw [IntWalk.i64_in _ (by omega)]; omega
  clear hfi hs1 hn1 hf1 HBX hn
  go_wp2_with fail
  go_loopw [7, 8] (fun pv iv wr => ∃ (m : Nat) (ao : Option Addr) (ac : Nat), (pv = .slice ao m ac ∧ iv = .int .i64 ((n : Int) - 1 - (m : Int))) ∧ m ≤ n ∧ Seg wr 23 4 ao m ac ((bs.reverse.take m).flatMap BX.cl) ∧ (∀ q ∈ blk ao, w1.heap.size ≤ q) ∧ Fr [] w1 wr) (fun _ iv _ => ((intOf iv) + 1).toNat)
  case atStart => exact ⟨0, none, 0, ⟨rfl, by rw [show ((n : Int) - 1 - ((0 : Nat) : Int)) = (n : Int) - 1 by omega]⟩, by omega, Seg.nil _ _ _, by simp [blk], Fr.refl _ _⟩
  case round =>
    obtain ⟨m, ao, ac, ⟨rfl, rfl⟩, hm, hs, hna, hf⟩ := hrel
    have HS := Lib.hid hs
    have HNA := Lib.hid hna
    have HF := Lib.hid hf
    clear hs hna hf
    by_cases hmn : m < n
    · obtain ⟨j, hj⟩ : ∃ j : Nat, (j : Int) = (n : Int) - 1 - (m : Int) := ⟨n - 1 - m, by omega⟩
      have hjn : j < n := by omega
      have hjb : j < bs.length := by rw [← HN.out]; exact hjn
      rw [← hj]
      have hge : (0 : Int) ≤ (j : Int) := by omega
      have hjl : (j : Int) < (n : Int) := by omega
      have wj : IntKind.i64.wrap ((j : Int) - 1) = (j : Int) - 1 := IntWalk.i64_in _ (by omega)
      obtain ⟨g, off, hbo, c0, c1, c2, c3⟩ := (by rw [← HN.out]; exact (HS1.out.fr HF.out (by simp)).rd : Rd wr 4 bo bs.length (bs.flatMap BX.cl)).box hjb
      obtain ⟨X, hX⟩ : ∃ X, X = bs[j]! := ⟨_, rfl⟩
      rw [← hX] at c0 c1 c2 c3
      have HTK := Lib.hid (by
        have h1 : m < bs.reverse.length := by rw [List.length_reverse, ← HN.out]; exact hmn
        rw [List.take_succ_eq_append_getElem h1, ← getElem!_pos bs.reverse m h1, rev_get bs (by rw [← HN.out]; exact hmn), show bs.length - 1 - m = j by have := HN.out; omega, ← hX] : bs.reverse.take (m + 1) = bs.reverse.take m ++ [X])
      have HBO := Lib.hid hbo
      have HJ := Lib.hid hj
      clear hX hj
      subst hbo
      go_wp2_with (at_builtin; refine wpList_append_seg rfl _ _ 27 rfl 23 ib _ 4 32 Try.underlying27 hib hb0 hb1 hb2 rfl (by decide) ao m ac ((bs.reverse.take m).flatMap BX.cl) rfl (HS.out.alloc _) ⟨wr.heap.size, 0, none⟩ 1 1 [.int .i64 X.x0, .int .i64 X.y0, .int .i64 X.x1, .int .i64 X.y1] rfl rfl (new_arr wr #[.int .i64 X.x0, .int .i64 X.y0, .int .i64 X.x1, .int .i64 X.y1] _) (by simp [Value.oneCell']) (by unfold maxLen; omega) (by omega) ?_; intro o9 c9 w9 hs9 hf9 hx9; have HS9 := Lib.hid hs9; have HF9 := Lib.hid (((Fr.refl (blk ao) wr).alloc _).trans hf9 (Ext.refl _ _)); have HX9 := Lib.hid (fun q (hq : q ∈ blk o9) => (hx9 q hq).imp id (fun h => Nat.le_trans ((Fr.refl ([] : List Nat) wr).alloc _).size h) : ∀ q ∈ blk o9, q ∈ blk ao ∨ wr.heap.size ≤ q); clear hs9 hf9 hx9)
      go_roundw
      case rel =>
        refine ⟨m + 1, o9, c9, ⟨rfl, by have := HJ.out; rw [show (n : Int) - 1 - ((m + 1 : Nat) : Int) = (j : Int) - 1 by omega]⟩, by omega, by rw [HTK.out, List.flatMap_append]; exact HS9.out, fun q hq => ?_, HF.out.trans HF9.out (fun q hq => .inr (HNA.out q hq))⟩
        rcases HX9.out q hq with h | h
        · exact HNA.out q h
        · have := HF.out.size; omega
      case measure => simp [intOf]
    · have hme : m = n := by omega
      subst hme
      have hge : ¬ (0 : Int) ≤ (m : Int) - 1 - (m : Int) := by omega
      obtain ⟨w2, rfl⟩ : ∃ u : World, u = wr := ⟨_, rfl⟩
      have HBK := Lib.hid (by have h := HS.out; rw [show bs.reverse.take m = bs.reverse by rw [HN.out, ← List.length_reverse]; exact List.take_length] at h; exact h : Seg w2 23 4 ao m ac (bs.reverse.flatMap BX.cl))
      have HS2 := Lib.hid (HS1.out.fr HF.out (by simp))
      have HF2 := Lib.hid (HF1.out.trans HF.out (by simp [Ext]))
      have HPA := Lib.hid (by
        have h := pairs_any w2 bo bc bs (by rw [← HN.out]; exact HS2.out.rd) HS2.out.lt (by rw [← HN.out]; omega) HOK.out
        rw [← HN.out] at h; exact h)
      clear HS HF HS1 HF1 HNA
      go_wp2_with fail
      refine HPA.out.mono ?_
      rintro e w3 ⟨po, pc, rfl, hs3, -, hf3⟩
      have HPS := Lib.hid hs3
      have HBK3 := Lib.hid (HBK.out.fr hf3 (by simp))
      have HS3 := Lib.hid (HS2.out.fr hf3 (by simp))
      have HF3 := Lib.hid (HF2.out.trans hf3 (by simp [Ext]))
      obtain ⟨k, hk, -, hA⟩ := HAR.out (m + 1) (by omega) (by omega)
      have HA := Lib.hid hA
      obtain ⟨P, hP⟩ : ∃ P, P = pairsB bs := ⟨_, rfl⟩
      rw [← hP] at HPS ⊢
      have HP := Lib.hid hP
      have HHS := Lib.hid (fun u (hu : Fr [] w3 u) a b => hasp_any u po pc P a b (HPS.out.fr hu (by simp)).rd)
      clear hs3 hf3 HPA hA HAR HBK HS2 HF2 hP
      go_wp2_with (go_at_call 21; refine (HA.out _).mono ?_; rintro e w' ⟨rfl, rfl⟩)
      go_loopw [11, 12, 13] (fun wv fv iv wr => ∃ (i : Nat) (wo fo : Option Addr) (wc fc : Nat), (wv = .slice wo (upG (pWant bs) m i).length wc ∧ fv = .slice fo (upG (pFew bs k) m i).length fc ∧ iv = .int .i64 (i : Int)) ∧ i ≤ m ∧ PV w3 (upG (pWant bs) m i) (upG (pFew bs k) m i) wo wc fo fc wr) (fun _ _ iv _ => m - (intOf iv).toNat)
      case atStart => exact ⟨0, none, none, 0, 0, ⟨rfl, rfl, rfl⟩, by omega, PV.start w3⟩
      case round =>
        obtain ⟨i, wo, fo, wc, fc, ⟨rfl, rfl, rfl⟩, hi, hpv⟩ := hrel
        have HPV := Lib.hid hpv
        clear hpv
        by_cases him : i < m
        · have hlt : (i : Int) < (m : Int) := by omega
          have wi : IntKind.i64.wrap ((i : Int) + 1) = (i : Int) + 1 := IntWalk.i64_in _ (by omega)
          go_wp2_with fail
          go_loopw [11, 12, 14] (fun wv fv jv wr => ∃ (j : Nat) (wo fo : Option Addr) (wc fc : Nat), (wv = .slice wo (upG (pWant bs) m i ++ rowG (pWant bs) i j).length wc ∧ fv = .slice fo (upG (pFew bs k) m i ++ rowG (pFew bs k) i j).length fc ∧ jv = .int .i64 (j : Int)) ∧ i < j ∧ j ≤ m ∧ PV w3 (upG (pWant bs) m i ++ rowG (pWant bs) i j) (upG (pFew bs k) m i ++ rowG (pFew bs k) i j) wo wc fo fc wr) (fun _ _ jv _ => m - (intOf jv).toNat)
          case atStart => exact ⟨i + 1, wo, fo, wc, fc, ⟨by rw [rowG_zero, List.append_nil], by rw [rowG_zero, List.append_nil], by go_num⟩, by omega, by omega, by rw [rowG_zero, rowG_zero, List.append_nil, List.append_nil]; exact HPV.out⟩
          case round =>
            clear HPV
            obtain ⟨j, wo, fo, wc, fc, ⟨rfl, rfl, rfl⟩, hij, hjm, hpv⟩ := hrel
            obtain ⟨W2, hW2⟩ : ∃ W, W = upG (pWant bs) m i ++ rowG (pWant bs) i j := ⟨_, rfl⟩
            obtain ⟨F2, hF2⟩ : ∃ F, F = upG (pFew bs k) m i ++ rowG (pFew bs k) i j := ⟨_, rfl⟩
            rw [← hW2, ← hF2] at hpv ⊢
            have hlen : ∀ p : Nat → Nat → Bool, (upG p m i ++ rowG p i j).length ≤ 1000 := fun p => by
              have h1 := upG_len p m i
              have h2 := rowG_len p i j
              have h3 : i * m ≤ 20 * 20 := Nat.mul_le_mul (by omega) (by omega)
              rw [List.length_append]; omega
            have hWl : W2.length ≤ 1000 := by rw [hW2]; exact hlen _
            have hFl : F2.length ≤ 1000 := by rw [hF2]; exact hlen _
            have HW2 := Lib.hid hW2
            have HF2 := Lib.hid hF2
            have HPV := Lib.hid hpv
            clear hW2 hF2 hlen hpv
            by_cases hjl : j < m
            · have hlt2 : (j : Int) < (m : Int) := by omega
              have wj : IntKind.i64.wrap ((j : Int) + 1) = (j : Int) + 1 := IntWalk.i64_in _ (by omega)
              obtain ⟨A, hA⟩ : ∃ A, A = m - 1 - j := ⟨_, rfl⟩
              obtain ⟨B, hB⟩ : ∃ B, B = m - 1 - i := ⟨_, rfl⟩
              have wA : IntKind.i64.wrap ((m : Int) - 1 - (j : Int)) = (A : Int) := by rw [IntWalk.i64_in _ (by omega)]; omega
              have wB : IntKind.i64.wrap ((m : Int) - 1 - (i : Int)) = (B : Int) := by rw [IntWalk.i64_in _ (by omega)]; omega
              obtain ⟨t1, ht1⟩ : ∃ t : Bool, t = decide ((A, B) ∈ P) := ⟨_, rfl⟩
              obtain ⟨t2, ht2⟩ : ∃ t : Bool, t = decide ((i, j) ∈ P) := ⟨_, rfl⟩
              have HH1 := Lib.hid (by have h := fun u hu => HHS.out u hu A B; rw [← ht1] at h; exact h)
              have HH2 := Lib.hid (by have h := fun u hu => HHS.out u hu i j; rw [← ht2] at h; exact h)
              have HWS := Lib.hid (by rw [rowG_succ _ i j hij, ← List.append_assoc, ← HW2.out]; unfold pWant; rw [← HN.out, ← hA, ← hB, ← HP.out, ← ht1] : upG (pWant bs) m i ++ rowG (pWant bs) i (j + 1) = W2 ++ if t1 then [(i, j)] else [])
              have HFS := Lib.hid (by rw [rowG_succ _ i j hij, ← List.append_assoc, ← HF2.out]; unfold pFew; rw [← HP.out, ← ht2] : upG (pFew bs k) m i ++ rowG (pFew bs k) i (j + 1) = F2 ++ if (decide (j < k) && t2) then [(i, j)] else [])
              clear hA hB ht1 ht2
              go_upto_if 59 with (go_at_call 22; refine (HH1.out _ HPV.out.fr).mono ?_; rintro e w' ⟨rfl, hw⟩; obtain rfl := hw.symm)
              go_cut [11] (fun wv wx => ∃ (wo' : Option Addr) (wc'' : Nat), wv = .slice wo' (upG (pWant bs) m i ++ rowG (pWant bs) i (j + 1)).length wc'' ∧ PV w3 (upG (pWant bs) m i ++ rowG (pWant bs) i (j + 1)) F2 wo' wc'' fo fc wx)
              case first =>
                cases t1 with
                | false =>
                  go_wp2_with fail
                  go_meet
                  have hs := HWS.out
                  simp only [Bool.false_eq_true, if_false, List.append_nil] at hs
                  exact ⟨wo, wc, by rw [hs], by rw [hs]; exact HPV.out⟩
                | true =>
                  go_wp2_with (at_builtin; refine wpList_append_seg rfl _ _ 31 rfl 39 ip _ 2 16 Try.underlying31 hip hp0 hp1 hp2 rfl (by decide) wo W2.length wc (W2.flatMap encP) rfl (HPV.out.sw.alloc _) ⟨wr.heap.size, 0, none⟩ 1 1 [.int .i64 (i : Int), .int .i64 (j : Int)] rfl rfl (new_arr wr #[.int .i64 (i : Int), .int .i64 (j : Int)] _) (by simp [Value.oneCell']) (by unfold maxLen; omega) (by omega) ?_; intro o9 c9 w9 hs9 hf9 hx9; have HS9 := Lib.hid hs9; have HF9 := Lib.hid (((Fr.refl (blk wo) wr).alloc _).trans hf9 (Ext.refl _ _)); have HX9 := Lib.hid (fun q (hq : q ∈ blk o9) => (hx9 q hq).imp id (fun h => Nat.le_trans ((Fr.refl ([] : List Nat) wr).alloc _).size h) : ∀ q ∈ blk o9, q ∈ blk wo ∨ wr.heap.size ≤ q); clear hs9 hf9 hx9)
                  go_meet
                  have hs := HWS.out
                  simp only [if_true] at hs
                  exact ⟨o9, c9, by rw [hs, List.length_append]; rfl, by rw [hs]; exact HPV.out.push HS9.out HF9.out HX9.out⟩
              case rest =>
                obtain ⟨w5, rfl⟩ : ∃ u : World, u = wc := ⟨_, rfl⟩
                obtain ⟨wo', wc2, rfl, hpv⟩ := hcut
                obtain ⟨W3, hW3⟩ : ∃ W, W = upG (pWant bs) m i ++ rowG (pWant bs) i (j + 1) := ⟨_, rfl⟩
                rw [← hW3] at hpv ⊢
                have HW3 := Lib.hid hW3
                have HPV5 := Lib.hid hpv
                clear hpv hW3 HPV HWS HH1
                by_cases hjk : j < k
                · have hjk2 : (j : Int) < (k : Int) := by omega
                  rw [decide_eq_true hjk, Bool.true_and] at HFS
                  cases t2 with
                  | false =>
                    go_wp2_with (go_at_call 22; refine (HH2.out _ HPV5.out.fr).mono ?_; rintro e w' ⟨rfl, hw⟩; obtain rfl := hw.symm)
                    go_roundw
                    case rel =>
                      have hs := HFS.out
                      simp only [Bool.false_eq_true, if_false, List.append_nil] at hs
                      exact ⟨j + 1, wo', fo, wc2, fc, ⟨by rw [← HW3.out], by rw [hs], by go_num⟩, by omega, by omega, by rw [← HW3.out, hs]; exact HPV5.out⟩
                    case measure => simp [intOf]; omega
                  | true =>
                    go_wp2_with (first | (go_at_call 22; refine (HH2.out _ HPV5.out.fr).mono ?_; rintro e w' ⟨rfl, hw⟩; obtain rfl := hw.symm) | (at_builtin; refine wpList_append_seg rfl _ _ 31 rfl 39 ip _ 2 16 Try.underlying31 hip hp0 hp1 hp2 rfl (by decide) fo F2.length fc (F2.flatMap encP) rfl (HPV5.out.sf.alloc _) ⟨w5.heap.size, 0, none⟩ 1 1 [.int .i64 (i : Int), .int .i64 (j : Int)] rfl rfl (new_arr w5 #[.int .i64 (i : Int), .int .i64 (j : Int)] _) (by simp [Value.oneCell']) (by unfold maxLen; omega) (by omega) ?_; intro o9 c9 w9 hs9 hf9 hx9; have HS9 := Lib.hid hs9; have HF9 := Lib.hid (((Fr.refl (blk fo) w5).alloc _).trans hf9 (Ext.refl _ _)); have HX9 := Lib.hid (fun q (hq : q ∈ blk o9) => (hx9 q hq).imp id (fun h => Nat.le_trans ((Fr.refl ([] : List Nat) w5).alloc _).size h) : ∀ q ∈ blk o9, q ∈ blk fo ∨ w5.heap.size ≤ q); clear hs9 hf9 hx9))
                    go_roundw
                    case rel =>
                      have hs := HFS.out
                      simp only [if_true] at hs
                      exact ⟨j + 1, wo', o9, wc2, c9, ⟨by rw [← HW3.out], by rw [hs, List.length_append]; rfl, by go_num⟩, by omega, by omega, by rw [← HW3.out, hs]; exact (HPV5.out.swap.push HS9.out HF9.out HX9.out).swap⟩
                    case measure => simp [intOf]; omega
                · have hjk2 : ¬ (j : Int) < (k : Int) := by omega
                  rw [decide_eq_false hjk, Bool.false_and] at HFS
                  go_wp2_with fail
                  go_roundw
                  case rel =>
                    have hs := HFS.out
                    simp only [Bool.false_eq_true, if_false, List.append_nil] at hs
                    exact ⟨j + 1, wo', fo, wc2, fc, ⟨by rw [← HW3.out], by rw [hs], by go_num⟩, by omega, by omega, by rw [← HW3.out, hs]; exact HPV5.out⟩
                  case measure => simp [intOf]; omega
            · have hlt2 : ¬ (j : Int) < (m : Int) := by omega
              have hje : j = m := by omega
              have HE1 := Lib.hid (by rw [upG_succ, HW2.out, hje] : upG (pWant bs) m (i + 1) = W2)
              have HE2 := Lib.hid (by rw [upG_succ, HF2.out, hje] : upG (pFew bs k) m (i + 1) = F2)
              clear hje
              go_wp2_with fail
              go_roundw
              case rel => exact ⟨i + 1, wo, fo, wc, fc, ⟨by rw [HE1.out], by rw [HE2.out], by go_num⟩, by omega, by rw [HE1.out, HE2.out]; exact HPV.out⟩
              case measure => simp [intOf]; omega
        · have hlt : ¬ (i : Int) < (m : Int) := by omega
          have hie : i = m := by omega
          have HE1 := Lib.hid (by rw [hie]; have h := want_eq bs; rw [← HN.out] at h; exact h : upG (pWant bs) m i = pairsB bs.reverse)
          have HE2 := Lib.hid (by rw [hie]; have h := few_eq bs (k := k) (by rw [← HN.out]; omega); rw [← HN.out] at h; exact h : upG (pFew bs k) m i = pairsB (bs.take k))
          obtain ⟨W2, hW2⟩ : ∃ W, W = upG (pWant bs) m i := ⟨_, rfl⟩
          obtain ⟨F2, hF2⟩ : ∃ F, F = upG (pFew bs k) m i := ⟨_, rfl⟩
          rw [← hW2] at HPV HE1 ⊢
          rw [← hF2] at HPV HE2 ⊢
          obtain ⟨w5, rfl⟩ : ∃ u : World, u = wr := ⟨_, rfl⟩
          have HF5 := Lib.hid (HF3.out.trans HPV.out.fr (by simp [Ext]))
          have HBK5 := Lib.hid (HBK3.out.fr HPV.out.fr (by simp))
          have HS5 := Lib.hid (HS3.out.fr HPV.out.fr (by simp))
          have hsl : ∀ u : World, (Instr.slice 27 (.slice bo m bc) none (some (.int .i64 (k : Int))) none).run Try.prog u = .ok (.slice bo k bc) u := fun u => run_slice_to (P := Try.prog) 27 23 Try.underlying27 4 (by kernel_rfl) bo m bc k (by have := HS5.out.2.2.1; omega) u
          have HTKK := Lib.hid (fun u (hu : Fr [] w5 u) => (by
            have h := (HS5.out.fr hu (by simp)).take (k := k) (by omega)
            rw [flat_take] at h; exact h : Seg u 23 4 bo k bc ((bs.take k).flatMap BX.cl)))
          have HL1 := Lib.hid (by rw [List.length_reverse, ← HN.out] : bs.reverse.length = m)
          have HL2 := Lib.hid (by rw [List.length_take, ← HN.out]; omega : (bs.take k).length = k)
          have HC1 := Lib.hid (by
            have h := pairs_any w5 ao ac bs.reverse (by rw [HL1.out]; exact HBK5.out.rd) HBK5.out.lt (by rw [HL1.out]; omega) (fun b hb => HOK.out b (List.mem_reverse.1 hb))
            unfold PairsTo at h
            rw [← HE1.out, HL1.out] at h; exact h)
          have HC2 := Lib.hid (fun u (hu : Fr [] w5 u) => (by
            have h := pairs_any u bo bc (bs.take k) (by rw [HL2.out]; exact (HTKK.out u hu).rd) (HTKK.out u hu).lt (by rw [HL2.out]; omega) (fun b hb => HOK.out b (List.mem_of_mem_take hb))
            unfold PairsTo at h
            rw [← HE2.out, HL2.out] at h; exact h : Calls Try.prog 16 #[.slice bo k bc] u fun e w' => ∃ po pc, e = .returned (.slice po F2.length pc) ∧ Seg w' 39 2 po F2.length pc (F2.flatMap encP) ∧ (∀ q ∈ blk po, u.heap.size ≤ q) ∧ Fr [] u w'))
          clear hie hW2 hF2 HHS HE1 HE2
          go_wp2_with (first
            | (go_at_call 13; refine (lives04_any _).mono ?_; rintro e wl ⟨rfl, fl⟩; have HFL := Lib.hid (HF9.out.trans fl (by simp [Ext])); clear fl)
            | (go_at_call 15; refine ((samep_any _ _ _ _ _ F2 F2 HP8.out (HPV.out.sf.fr HG8.out (by simp)).rd).mono ?_); rintro e w9 ⟨he, f9⟩; rw [decide_eq_true rfl] at he; subst he; have HF9 := Lib.hid ((HF5.out.trans HG8.out (by simp [Ext])).trans f9 (by simp [Ext])); clear f9)
            | (go_at_call 16; refine (HC2.out _ HG7.out).mono ?_; rintro e w8 ⟨qo, qc, rfl, hq, -, f8⟩; have HP8 := Lib.hid hq.rd; have HG8 := Lib.hid (HG7.out.trans f8 (by simp [Ext])); clear hq f8)
            | (go_at_call 15; refine ((samep_any _ _ _ _ _ W2 W2 HP6.out (HPV.out.sw.fr HG6.out (by simp)).rd).mono ?_); rintro e w7 ⟨he, f7⟩; rw [decide_eq_true rfl] at he; subst he; have HG7 := Lib.hid (HG6.out.trans f7 (by simp [Ext])); clear f7)
            | (go_at_call 16; refine HC1.out.mono ?_; rintro e w6 ⟨qo, qc, rfl, hq, -, f6⟩; have HP6 := Lib.hid hq.rd; have HG6 := Lib.hid f6; clear hq f6))
          go_ret
          exact ⟨rfl, HFL.out⟩
end Go.Proofs.Ytoplpmkcfgadlaa
