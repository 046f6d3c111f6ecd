/- arenanetref28.Cells: a view of at most twelve cells. -/
import Derived.Test.YtcgndeggemceaaaPut28
import Derived.Test.YtcgndeggemceaaaAround
namespace Go.Proofs.Ytcgndeggemceaaa
open Go.RowKit

def ViewTo (w : World) (e : Ending) (w' : World) : Prop := ∃ V ao ca, e = .returned (.slice ao V.length ca) ∧ IsView V ∧ V.length ≤ 12 ∧ Seg w' 38 2 ao V.length ca (V.flatMap clV) ∧ Fr [] w w' ∧ ∀ k ∈ blk ao, w.heap.size ≤ k

set_option maxRecDepth 100000 in
set_option maxHeartbeats 8000000 in
theorem cells_any (w : World) (lo : Option Addr) (lc : Nat) (l : List Int) (hr : Rd w 1 lo l.length (ints l)) (hb : ∀ x ∈ l, bounded x) :
    Calls Try.prog 10 #[.slice lo l.length lc] w (ViewTo w) := by
  have hlen : l.length ≤ 9223372036854775807 := by have := hr.2.1; unfold maxLen at this; omega
  have HR := Lib.hid hr
  have HB := Lib.hid hb
  clear hr hb
  go_enter Try.func10, Try.ntmps10
  go_wp2_with fail
  go_loopw [3, 4] (fun ov iv wr => ∃ (i : Nat) (V : List (Int × Int)) (oo : Option Addr) (oc : Nat), ov = .slice oo V.length oc ∧ iv = .int .i64 (i : Int) ∧ i ≤ 24 ∧ i % 2 = 0 ∧ 2 * V.length ≤ i ∧ i ≤ l.length ∧ IsView V ∧ Seg wr 38 2 oo V.length oc (V.flatMap clV) ∧ (∀ q ∈ blk oo, w.heap.size ≤ q) ∧ Fr [] w wr) (fun _ iv _ => 26 - (intOf iv).toNat)
  case atStart => exact ⟨0, [], none, 0, rfl, rfl, by omega, rfl, by simp, by omega, ⟨List.Pairwise.nil, by simp, by simp⟩, Seg.nil _ _ _, by simp [blk], Fr.refl _ _⟩
  case round =>
    obtain ⟨i, V, oo, oc, rfl, rfl, hi, hi2, hV, hil, hv, hs, hbk, hf⟩ := hrel
    have HV := Lib.hid hv
    have HS := Lib.hid hs
    have HBO := Lib.hid hbk
    have HF := Lib.hid hf
    clear hv hs hbk hf
    have w1 : IntKind.i64.wrap ((i : Int) + 1) = (i : Int) + 1 := IntWalk.i64_in _ (by omega)
    have w2 : IntKind.i64.wrap ((i : Int) + 2) = (i : Int) + 2 := IntWalk.i64_in _ (by omega)
    by_cases h1 : i + 1 < l.length
    · have hd1 : decide ((i : Int) + 1 < (l.length : Int)) = true := decide_eq_true (by omega)
      by_cases h2 : i < 24
      · have hd2 : decide ((i : Int) < 24) = true := decide_eq_true (by omega)
        obtain ⟨g, off, rfl, hg, hc⟩ := (HR.out.fr HF.out (by simp)).at (by omega)
        have c0 : wr.cell? ⟨g, off + i, none⟩ = some (.int .i64 l[i]) := by rw [hc i (by omega), ints_get, List.getElem?_eq_getElem (by omega)]; rfl
        have c1 : wr.cell? ⟨g, off + (i + 1), none⟩ = some (.int .i64 l[i + 1]) := by rw [hc (i + 1) (by omega), ints_get, List.getElem?_eq_getElem h1]; rfl
        have hb0 : bounded l[i] := HB.out _ (List.getElem_mem _)
        have hb1 : bounded l[i + 1] := HB.out _ (List.getElem_mem _)
        obtain ⟨n, hn, -, hA⟩ := around_nat l[i] 100000 hb0 (by omega) (by omega)
        obtain ⟨x, hx⟩ : ∃ x, x = l[i] := ⟨_, rfl⟩
        obtain ⟨v, hv⟩ : ∃ v, v = l[i + 1] := ⟨_, rfl⟩
        rw [← hx] at c0 hA
        rw [← hv] at c1 hb1
        have HA := Lib.hid hA
        have HBV := Lib.hid hb1
        have hi0 : i < l.length := by omega
        have hi22 : i ≤ 22 := by omega
        clear hc hx hv hA hb0 hb1 h2
        go_upto_region 7 with (go_at_call 18; refine (HA.out _).mono ?_; rintro e w' ⟨rfl, rfl⟩)
        obtain ⟨j, hj⟩ : ∃ j, j = n / 11 % 6 := ⟨_, rfl⟩
        have hj6 : j < 6 := by omega
        have hji : (n : Int) / 11 % 6 = (j : Int) := by omega
        obtain ⟨A6, hA6⟩ : ∃ A6 : List Int, A6 = [127, 128, 300, 70000, 2147483646, 2147483647] := ⟨_, rfl⟩
        have hzb : idxOk (A6.getD j 0) := by
          rw [hA6]
          have : j = 0 ∨ j = 1 ∨ j = 2 ∨ j = 3 ∨ j = 4 ∨ j = 5 := by omega
          rcases this with rfl | rfl | rfl | rfl | rfl | rfl <;> (unfold idxOk; decide)
        have ca : (wr.alloc (.cells #[.int .i64 127, .int .i64 128, .int .i64 300, .int .i64 70000, .int .i64 2147483646, .int .i64 2147483647] 3)).cell? ⟨wr.heap.size, j, none⟩ = some (.int .i64 (A6.getD j 0)) := by
          rw [hA6, cell_blk (alloc_new _ _)]
          have : j = 0 ∨ j = 1 ∨ j = 2 ∨ j = 3 ∨ j = 4 ∨ j = 5 := by omega
          rcases this with rfl | rfl | rfl | rfl | rfl | rfl <;> rfl
        obtain ⟨z, hz⟩ : ∃ z, z = A6.getD j 0 := ⟨_, rfl⟩
        rw [← hz] at ca hzb
        have HZB := Lib.hid hzb
        have HK0 := Lib.hid (by unfold idxOk; omega : idxOk ((n : Int) % 20))
        clear hA6 hz hzb hj A6
        cases h11 : ((n : Int) % 11 == 3)
        case' true =>
          go_upto_region 9 with fail
          obtain ⟨wq, hwq⟩ : ∃ wq, wq = wr.alloc (.cells #[.int .i64 127, .int .i64 128, .int .i64 300, .int .i64 70000, .int .i64 2147483646, .int .i64 2147483647] 3) := ⟨_, rfl⟩
          rw [← hwq]
          have hfq : Fr [] wr wq := by rw [hwq]; exact (Fr.refl _ _).alloc _
          have HKK := HZB
          obtain ⟨kk, hkk⟩ : ∃ kk, kk = z := ⟨_, rfl⟩
          rw [← hkk] at HKK ⊢
          clear hkk hwq ca
        case' false =>
          go_upto_region 9 with fail
          obtain ⟨wq, hwq⟩ : ∃ wq, wq = wr := ⟨_, rfl⟩
          have hfq : Fr [] wr wq := by rw [hwq]; exact Fr.refl _ _
          rw [← hwq]
          have HKK := HK0
          obtain ⟨kk, hkk⟩ : ∃ kk, kk = (n : Int) % 20 := ⟨_, rfl⟩
          rw [← hkk] at HKK ⊢
          clear hkk hwq ca
        all_goals
          have c1q : wq.cell? ⟨g, off + (i + 1), none⟩ = some (.int .i64 v) := by rw [← c1]; exact World.cell?_of_block (a := ⟨g, off + (i + 1), none⟩) (hfq.block g hg (by simp))
          have HFQ := Lib.hid hfq
          clear hfq
          obtain ⟨n2, hn2, -, hA2⟩ := around_nat v 9 HBV.out (by omega) (by omega)
          have HA2 := Lib.hid hA2
          have w4 : IntKind.i64.wrap ((n2 : Int) - 4) = (n2 : Int) - 4 := IntWalk.i64_in _ (by omega)
          clear hA2
          by_cases hn3 : 0 < (n : Int) % 3
          case' pos =>
            go_upto_region 12 with (go_at_call 18; refine (HA2.out _).mono ?_; rintro e w' ⟨rfl, rfl⟩)
            have HVV := Lib.hid (by unfold bd64; omega : bd64 ((n2 : Int) - 4))
            obtain ⟨vv, hvv⟩ : ∃ vv, vv = (n2 : Int) - 4 := ⟨_, rfl⟩
            rw [← hvv] at HVV ⊢
            clear hvv w4
          case' neg =>
            go_upto_region 12 with fail
            have HVV : Hid (bd64 v) := HBV
            obtain ⟨vv, hvv⟩ : ∃ vv, vv = v := ⟨_, rfl⟩
            rw [← hvv] at HVV ⊢
            clear hvv w4
          all_goals
            have hsq := HS.out.fr HFQ.out (by simp)
            have HPUT := Lib.hid (put_any wq oo oc V kk vv hsq.rd (by omega))
            have HPV := Lib.hid (putF_view (c := (kk, vv)) ⟨HKK.out, HVV.out⟩ HV.out).1
            have HPL := Lib.hid (by have h := putF_len (kk, vv) V false; simpa using h : (putF (kk, vv) false V).length ≤ V.length + 1)
            obtain ⟨V2, hV2⟩ : ∃ V2, V2 = putF (kk, vv) false V := ⟨_, rfl⟩
            rw [← hV2] at HPUT HPV HPL
            clear hV2 hsq
            go_wp2_with (go_at_call 29; refine HPUT.out.mono ?_; rintro e w7 ⟨o7, k7, rfl, hs7, hf7, hx7⟩; have HS7 := Lib.hid hs7; have HF7 := Lib.hid ((HF.out.trans HFQ.out (by simp [Ext])).trans hf7 (by simp [Ext])); have HX7 := Lib.hid (fun q hq => (by have := hx7 q hq; have := (HF.out.trans HFQ.out (by simp [Ext])).size; omega : w.heap.size ≤ q)); clear hs7 hf7 hx7)
            go_roundw
            case rel => exact ⟨i + 2, V2, o7, k7, rfl, by go_num, by omega, by omega, by have := HPL.out; omega, by omega, HPV.out, HS7.out, HX7.out, HF7.out⟩
            case measure => simp [intOf]; omega
      · have hd2 : decide ((i : Int) < 24) = false := decide_eq_false (by omega)
        clear h1 h2
        go_wp2_with fail
        go_ret
        exact ⟨V, oo, oc, rfl, HV.out, by omega, HS.out, HF.out, HBO.out⟩
    · have hd1 : decide ((i : Int) + 1 < (l.length : Int)) = false := decide_eq_false (by omega)
      clear h1
      go_wp2_with fail
      go_ret
      exact ⟨V, oo, oc, rfl, HV.out, by omega, HS.out, HF.out, HBO.out⟩
end Go.Proofs.Ytcgndeggemceaaa
