/- arenanetref28: Find, Varint, Zigzag, Equal. -/
import Derived.Test.YtcgndeggemceaaaSnRound
namespace Go.Proofs.Ytcgndeggemceaaa
open Go.RowKit

set_option maxHeartbeats 4000000 in
theorem find_any (w : World) (lo : Option Addr) (lc : Nat) (l : List (Int × Int)) (k : Int) (hr : Rd w 2 lo l.length (l.flatMap clV)) :
    Calls Try.prog 34 #[.slice lo l.length lc, .int .i64 k] w fun e w' => e = .returned (.tuple #[.int .i64 (getv l k), .bool (has l k)]) ∧ w = w' := by
  have hlen : l.length ≤ 9223372036854775807 := by have := hr.2.1; unfold maxLen at this; omega
  have HR := Lib.hid hr
  clear hr
  go_enter Try.func34, Try.ntmps34
  go_wp2_with fail
  go_loopw [6] (fun iv wr => ∃ i : Nat, i ≤ l.length ∧ iv = .int .i64 (i : Int) ∧ wr = w ∧ has l k = has (l.drop i) k ∧ getv l k = getv (l.drop i) k) (fun iv _ => l.length - (intOf iv).toNat)
  case atStart => exact ⟨0, by omega, rfl, rfl, rfl, rfl⟩
  case round =>
    obtain ⟨i, hi, rfl, rfl, h1, h2⟩ := hrel
    have H1 := Lib.hid h1
    have H2 := Lib.hid h2
    clear h1 h2
    by_cases hil : i < l.length
    · have hlt : (i : Int) < (l.length : Int) := by omega
      have wi : IntKind.i64.wrap ((i : Int) + 1) = (i : Int) + 1 := IntWalk.i64_in _ (by omega)
      obtain ⟨g, off, rfl, hg, c0, c1⟩ := HR.out.cel hil
      have hdr : l.drop i = l[i] :: l.drop (i + 1) := List.drop_eq_getElem_cons hil
      obtain ⟨x, hx⟩ : ∃ x, x = l[i] := ⟨_, rfl⟩
      rw [← hx] at c0 c1 hdr
      have HDR := Lib.hid hdr
      clear hx hdr
      by_cases hxk : x.1 = k
      · have hb : (x.1 == k) = true := by simp [hxk]
        have E1 := Lib.hid (by rw [H1.out, HDR.out, has_cons, hb, Bool.true_or] : has l k = true)
        have E2 := Lib.hid (by rw [H2.out, HDR.out, getv, if_pos hxk] : getv l k = x.2)
        clear hxk
        go_wp2_with fail
        refine bodyPost_ret (results_tmp2 rfl _ _ _) rfl ?_
        exact ⟨by rw [E1.out, E2.out]; rfl, by first | rfl | trivial⟩
      · have hb : (x.1 == k) = false := beq_eq_false_iff_ne.2 hxk
        have E1 := Lib.hid (by rw [H1.out, HDR.out, has_cons, hb, Bool.false_or] : has l k = has (l.drop (i + 1)) k)
        have E2 := Lib.hid (by rw [H2.out, HDR.out, getv, if_neg hxk] : getv l k = getv (l.drop (i + 1)) k)
        clear hxk
        go_wp2_with fail
        go_roundw
        case rel => exact ⟨i + 1, by omega, by go_num, by first | rfl | trivial, E1.out, E2.out⟩
        case measure => simp [intOf]; omega
    · have hnlt : ¬ (i : Int) < (l.length : Int) := by omega
      have hdr : l.drop i = [] := List.drop_of_length_le (by omega)
      have E1 := Lib.hid (by rw [H1.out, hdr]; rfl : has l k = false)
      have E2 := Lib.hid (by rw [H2.out, hdr]; rfl : getv l k = 0)
      clear hdr
      go_wp2_with fail
      refine bodyPost_ret (results_tmp2 rfl _ _ _) rfl ?_
      exact ⟨by rw [E1.out, E2.out]; rfl, by first | rfl | trivial⟩

set_option maxRecDepth 100000 in
set_option maxHeartbeats 4000000 in
theorem varint_any (w : World) (n : Nat) (hn : n < 18446744073709551616) : Calls Try.prog 35 #[.int .u64 (n : Int)] w (DiffTo w (varN n)) := by
  obtain ⟨ib, hib, hb0, hb1, hb2⟩ := info_parts infoByte
  have HVL := Lib.hid (varN_len hn)
  go_enter Try.func35, Try.ntmps35
  go_wp2_with fail
  go_loopw [0, 3] (fun nv bv wr => ∃ (d : List Nat) (m : Nat) (oa : Option Addr) (oc : Nat), bv = .slice oa d.length oc ∧ nv = .int .u64 (m : Int) ∧ m < 18446744073709551616 ∧ d ++ varN m = varN n ∧ Seg wr 5 1 oa d.length oc (bts d) ∧ Fr [] w wr ∧ (∀ k ∈ blk oa, w.heap.size ≤ k)) (fun nv _ _ => (intOf nv).toNat)
  case atStart => exact ⟨[], n, none, 0, rfl, rfl, hn, rfl, Seg.nil _ _ _, Fr.refl _ _, by simp [blk]⟩
  case round =>
    obtain ⟨D, m, oa, oc, rfl, rfl, hm, hd, hseg, hf, hx⟩ := hrel
    have hDl : D.length ≤ 10 := by have := congrArg List.length hd; rw [List.length_append] at this; have := HVL.out; omega
    have HD := Lib.hid hd
    have HSG := Lib.hid fun (o : Obj) => hseg.alloc o
    have HF := Lib.hid hf
    have HX := Lib.hid hx
    clear hd hseg hf hx
    by_cases hm1 : 128 ≤ m
    · have hmi : (127 : Int) < (m : Int) := by omega
      obtain ⟨x, hx⟩ : ∃ x, x = m % 128 + 128 := ⟨_, rfl⟩
      have hw1 : IntKind.u64.wrap (128 + (m : Int) % 128) = (x : Int) := by rw [IntWalk.u64_in _ (by omega)]; omega
      have hw2 : (x : Int) % 256 = (x : Int) := by omega
      have HXE := Lib.hid hx
      clear hx
      go_wp2_with (at_builtin; refine wpList_append_seg rfl _ _ 26 rfl 5 ib _ 1 1 Try.underlying26 hib hb0 hb1 hb2 rfl (by decide) oa D.length oc (bts D) rfl (HSG.out _) ⟨_, 0, none⟩ 1 1 [.int .u8 (x : Int)] rfl rfl (fun j u hu => by rw [Addr.add_mid, Nat.zero_add, World.cell?_alloc_new]; simpa using hu) (by simp [Value.oneCell']) (by unfold maxLen; omega) (by omega) ?_; intro ao' cap' w5 hs5 hf5 hx5; have HS5 := Lib.hid hs5; have HF5 := Lib.hid ((HF.out.alloc _).trans hf5 (fun q hq => .inr (HX.out q hq))); have HX5 := Lib.hid (fun q hq => (by have := HF.out.size; rcases hx5 q hq with h | h; exact HX.out q h; (simp at h; omega) : w.heap.size ≤ q)); clear hs5 hf5 hx5)
      go_roundw
      case rel =>
        have hlen : (D ++ [x]).length = D.length + 1 := by simp
        exact ⟨D ++ [x], m / 128, ao', cap', by rw [hlen], by go_num, by omega, by rw [← HD.out, varN_ge hm1, ← HXE.out]; simp, by rw [hlen, bts_append]; exact HS5.out, HF5.out, HX5.out⟩
      case measure => simp [intOf]; omega
    · have hmi : ¬ (127 : Int) < (m : Int) := by omega
      have hm8 : (m : Int) % 256 = (m : Int) := by omega
      go_wp2_with (at_builtin; refine wpList_append_seg rfl _ _ 26 rfl 5 ib _ 1 1 Try.underlying26 hib hb0 hb1 hb2 rfl (by decide) oa D.length oc (bts D) rfl (HSG.out _) ⟨_, 0, none⟩ 1 1 [.int .u8 (m : Int)] rfl rfl (fun j u hu => by rw [Addr.add_mid, Nat.zero_add, World.cell?_alloc_new]; simpa using hu) (by simp [Value.oneCell']) (by unfold maxLen; omega) (by omega) ?_; intro ao' cap' w5 hs5 hf5 hx5; have HS5 := Lib.hid hs5; have HF5 := Lib.hid ((HF.out.alloc _).trans hf5 (fun q hq => .inr (HX.out q hq))); have HX5 := Lib.hid (fun q hq => (by have := HF.out.size; rcases hx5 q hq with h | h; exact HX.out q h; (simp at h; omega) : w.heap.size ≤ q)); clear hs5 hf5 hx5)
      go_ret
      have hlen : (D ++ [m]).length = D.length + 1 := by simp
      have e : varN n = D ++ [m] := by rw [← HD.out, varN_lt (by omega)]
      rw [e]
      exact ⟨ao', cap', by rw [hlen]; rfl, by rw [hlen, bts_append]; exact HS5.out, HF5.out, HX5.out⟩

set_option maxHeartbeats 1000000 in
theorem rzig_any (w : World) (d : Int) (h : bd64 d) : Calls Try.prog 36 #[.int .i64 d] w fun e w' => e = .returned (.int .u64 ((zz d : Nat) : Int)) ∧ w = w' := by
  unfold bd64 at h
  by_cases hd : d < 0
  · have e : ((zz d : Nat) : Int) = 2 * (-(d + 1)) + 1 := by unfold zz; rw [if_pos hd]; omega
    have w1 : IntKind.i64.wrap (d + 1) = d + 1 := IntWalk.i64_in _ (by omega)
    have w2 : IntKind.i64.wrap (-(d + 1)) = -(d + 1) := IntWalk.i64_in _ (by omega)
    have w3 : IntKind.u64.wrap (-(d + 1)) = -(d + 1) := IntWalk.u64_in _ (by omega)
    have w4 : IntKind.u64.wrap (2 * -(d + 1)) = 2 * -(d + 1) := IntWalk.u64_in _ (by omega)
    have w5 : IntKind.u64.wrap (2 * -(d + 1) + 1) = 2 * -(d + 1) + 1 := IntWalk.u64_in _ (by omega)
    have HE := Lib.hid e
    clear e
    go_enter Try.func36, Try.ntmps36
    go_wp2
    go_ret
    exact ⟨by rw [HE.out]; first | rfl | (simp; omega), rfl⟩
  · have e : ((zz d : Nat) : Int) = 2 * d := by unfold zz; rw [if_neg hd]; omega
    have w3 : IntKind.u64.wrap d = d := IntWalk.u64_in _ (by omega)
    have w4 : IntKind.u64.wrap (2 * d) = 2 * d := IntWalk.u64_in _ (by omega)
    have HE := Lib.hid e
    clear e
    go_enter Try.func36, Try.ntmps36
    go_wp2
    go_ret
    exact ⟨by rw [HE.out]; rfl, rfl⟩

set_option maxHeartbeats 2000000 in
theorem requal_any (w : World) (ao bo : Option Addr) (ca cb : Nat) (a b : List (Int × Int)) (ha : Rd w 2 ao a.length (a.flatMap clV)) (hb : Rd w 2 bo b.length (b.flatMap clV)) :
    Calls Try.prog 15 #[.slice ao a.length ca, .slice bo b.length cb] w fun e w' => e = .returned (.bool (decide (a = b))) ∧ Fr [] w w' := by
  have hla : a.length ≤ 9223372036854775807 := by have := ha.2.1; unfold maxLen at this; omega
  have hlb : b.length ≤ 9223372036854775807 := by have := hb.2.1; unfold maxLen at this; omega
  have HA := Lib.hid ha
  have HB := Lib.hid hb
  clear ha hb
  by_cases hl : a.length = b.length
  · have hne : ((a.length : Int) != (b.length : Int)) = false := by rw [hl]; simp
    have HL := Lib.hid hl
    clear hl
    go_enter Try.func15, Try.ntmps15
    go_wp2_with fail
    go_loopw [5] (fun i wr => ∃ k : Nat, k ≤ a.length ∧ i = .int .i64 k ∧ a.take k = b.take k ∧ Fr [] w wr) (fun i _ => a.length - (intOf i).toNat)
    case atStart => exact ⟨0, Nat.zero_le _, rfl, rfl, Fr.refl _ _⟩
    case round =>
      obtain ⟨k, hk, rfl, ht, hf⟩ := hrel
      have HT := Lib.hid ht
      have HF := Lib.hid hf
      by_cases hkn : k < a.length
      · have hkb : k < b.length := by have := HL.out; omega
        obtain ⟨g, off, rfl, g1, c1, c2⟩ := (HA.out.fr hf (by simp)).cel hkn
        obtain ⟨g2, off2, rfl, g3, c3, c4⟩ := (HB.out.fr hf (by simp)).cel hkb
        obtain ⟨x1, hx1⟩ : ∃ x, x = a[k].1 := ⟨_, rfl⟩
        obtain ⟨x2, hx2⟩ : ∃ x, x = a[k].2 := ⟨_, rfl⟩
        obtain ⟨y1, hy1⟩ : ∃ x, x = b[k].1 := ⟨_, rfl⟩
        obtain ⟨y2, hy2⟩ : ∃ x, x = b[k].2 := ⟨_, rfl⟩
        rw [← hx1] at c1
        rw [← hx2] at c2
        rw [← hy1] at c3
        rw [← hy2] at c4
        have HX1 := Lib.hid hx1
        have HX2 := Lib.hid hx2
        have HY1 := Lib.hid hy1
        have HY2 := Lib.hid hy2
        have wi : IntKind.i64.wrap ((k : Int) + 1) = (k : Int) + 1 := IntWalk.i64_in _ (by omega)
        have hki : (k : Int) < (a.length : Int) := by omega
        have hkj : (k : Int) < (b.length : Int) := by omega
        clear ht hf hx1 hx2 hy1 hy2
        by_cases hxy : x1 = y1 ∧ x2 = y2
        · have hb : ∀ u, (binOp .neq 38 (.agg #[.int .i64 x1, .int .i64 x2]) (.agg #[.int .i64 y1, .int .i64 y2])).run Try.prog u = .ok (.bool false) u := fun u => by rw [ne_cell]; simp [hxy.1, hxy.2]
          have HXY := Lib.hid hxy
          clear hxy
          go_wp2_with fail
          go_quiet (fail)
          go_wp2_with fail
          go_roundw
          case rel =>
            have e : a[k] = b[k] := Prod.ext (by rw [← HX1.out, ← HY1.out]; exact HXY.out.1) (by rw [← HX2.out, ← HY2.out]; exact HXY.out.2)
            exact ⟨k + 1, by omega, by go_num, by rw [List.take_succ_eq_append_getElem hkn, List.take_succ_eq_append_getElem hkb, HT.out, e], HF.out.trans ((Fr.refl [] _).drewN _) (by simp [Ext])⟩
          case measure => simp [intOf]; omega
        · have hb : ∀ u, (binOp .neq 38 (.agg #[.int .i64 x1, .int .i64 x2]) (.agg #[.int .i64 y1, .int .i64 y2])).run Try.prog u = .ok (.bool true) u := fun u => by
            rw [ne_cell]
            have : ((x1 == y1) && (x2 == y2)) = false := by
              rw [Bool.eq_false_iff]
              intro h
              simp only [Bool.and_eq_true, beq_iff_eq] at h
              exact hxy h
            rw [this]; rfl
          have HXY := Lib.hid hxy
          clear hxy
          go_wp2_with fail
          go_quiet (fail)
          go_wp2_with fail
          go_ret
          exact ⟨ret_bool (by
            symm
            refine decide_eq_false fun h => HXY.out ?_
            rw [HX1.out, HX2.out, HY1.out, HY2.out]
            simp only [h]
            constructor <;> trivial), HF.out.trans ((Fr.refl [] _).drewN _) (by simp [Ext])⟩
      · have hke : k = a.length := by omega
        have hab : a = b := by
          have := HT.out
          rw [hke, List.take_of_length_le (Nat.le_refl _), HL.out, List.take_of_length_le (Nat.le_refl _)] at this
          exact this
        have HAB := Lib.hid hab
        clear ht hf hke hab
        go_wp2_with fail
        go_ret
        exact ⟨ret_bool (decide_eq_true HAB.out).symm, HF.out⟩
  · have hne : ((a.length : Int) != (b.length : Int)) = true := bne_iff_ne.2 (by omega)
    have HL := Lib.hid hl
    clear hl
    go_enter Try.func15, Try.ntmps15
    go_wp2_with fail
    go_ret
    exact ⟨ret_bool (decide_eq_false fun h => HL.out (by rw [h])).symm, Fr.refl _ _⟩
end Go.Proofs.Ytcgndeggemceaaa
