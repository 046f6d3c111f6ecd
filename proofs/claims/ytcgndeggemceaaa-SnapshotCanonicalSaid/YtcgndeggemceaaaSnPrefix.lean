/- SnapshotPrefix returns true. -/
import Derived.Test.YtcgndeggemceaaaSnRound
namespace Go.Proofs.Ytcgndeggemceaaa
open Go.RowKit

theorem take_bts (D : List Nat) (k : Nat) : (bts D).take (k * 1) = bts (D.take k) := by unfold bts; rw [Nat.mul_one, List.map_take]
theorem bytesB_take {D : List Nat} (h : BytesB D) (k : Nat) : BytesB (D.take k) := fun x hx => h x (List.mem_of_mem_take hx)

set_option maxRecDepth 100000 in
set_option maxHeartbeats 8000000 in
theorem snprefix_walk (w : World) (lo mo : Option Addr) (lc mc : Nat) (l m : List Int) (hl : Rd w 1 lo l.length (ints l)) (hlb : ∀ x ∈ l, bounded x) (hm : Rd w 1 mo m.length (ints m)) (hmb : ∀ x ∈ m, bounded x) (c : Nat) (hc : c < 256) :
    Calls Try.prog 6 #[.slice lo l.length lc, .slice mo m.length mc, .int .u8 (c : Int)] w fun e w' => e = .returned (.bool true) ∧ Fr [] w w' := by
  obtain ⟨ib, hib, hb0, hb1, hb2⟩ := info_parts infoByte
  have HC1 := Lib.hid (cells_any w lo lc l hl hlb)
  have HC2 := Lib.hid (fun u (hu : Fr [] w u) => cells_any u mo mc m (hm.fr hu (by simp)) hmb)
  clear hl hlb hm hmb
  go_enter Try.func6, Try.ntmps6
  go_wp2_with fail
  refine HC1.out.mono ?_
  rintro e w1 ⟨A, ao, ac, rfl, va, la, sa, f1, -⟩
  have F1 := Lib.hid f1
  have VA := Lib.hid va
  have SA1 := Lib.hid sa
  have LA := Lib.hid la
  clear va sa f1 la HC1
  go_wp2_with fail
  refine (HC2.out _ F1.out).mono ?_
  rintro e w2 ⟨B, bo, bc, rfl, vb, lb, sb, f2, -⟩
  have F2 := Lib.hid (F1.out.trans f2 (by simp [Ext]))
  have VB := Lib.hid vb
  have LB := Lib.hid lb
  have SA2 := Lib.hid (SA1.out.fr f2 (by simp))
  have SB2 := Lib.hid sb
  clear vb sb f2 lb HC2 SA1
  go_wp2_with fail
  refine (diff_seg SA2.out SB2.out VA.out VB.out (by have := LA.out; omega) (by have := LB.out; omega)).mono ?_
  rintro e w3 ⟨d0, dc, rfl, sd, f3, -⟩
  have F3 := Lib.hid (F2.out.trans f3 (by simp [Ext]))
  have SA := Lib.hid (fun u (hu : Fr [] w3 u) => (SA2.out.fr f3 (by simp)).fr hu (by simp))
  have HDL := Lib.hid (diffL_len VA.out VB.out (by have := LA.out; omega) (by have := LB.out; omega))
  have HDB := Lib.hid (diffL_bytes A B)
  have HSH := Lib.hid (fun j (hj : j < (diffL A B).length) => apply_short VA.out VB.out (by have := LA.out; omega) (by have := LB.out; omega) hj)
  have HMO := Lib.hid (apply_more VA.out VB.out (by have := LA.out; omega) (by have := LB.out; omega) c)
  obtain ⟨D, hD⟩ : ∃ D, D = diffL A B := ⟨_, rfl⟩
  rw [← hD] at HDL HDB HSH HMO sd ⊢
  have hDl : D.length ≤ 10000 := by have := HDL.out; have := LA.out; have := LB.out; omega
  have SD := Lib.hid (fun u (hu : Fr [] w3 u) => sd.fr hu (by simp))
  have hdc : D.length ≤ dc := sd.2.2.1
  clear sd f3 hD SA2 SB2 F2
  go_wp2_with fail
  go_loopw [9] (fun iv wr => ∃ k : Nat, k ≤ D.length ∧ iv = .int .i64 (k : Int) ∧ Fr [] w3 wr) (fun iv _ => D.length - (intOf iv).toNat)
  case atStart => exact ⟨0, by omega, rfl, Fr.refl _ _⟩
  case round =>
    obtain ⟨k, hk, rfl, hf⟩ := hrel
    have HF := Lib.hid hf
    clear hf
    by_cases hlt : k < D.length
    · have hd : (k : Int) < (D.length : Int) := by omega
      have w1 : IntKind.i64.wrap ((k : Int) + 1) = (k : Int) + 1 := IntWalk.i64_in _ (by omega)
      have hto := run_slice_to (P := Try.prog) 26 5 Try.underlying26 1 (by kernel_rfl) d0 D.length dc k (by omega)
      have hsk := (SD.out _ HF.out).take (Nat.le_of_lt hlt)
      rw [take_bts] at hsk
      have htl : (D.take k).length = k := by rw [List.length_take]; omega
      have HAP := Lib.hid (by
        have h := apply_seg (rest := D.take k) (SA.out _ HF.out) (by rw [htl]; exact hsk) VA.out (by have := LA.out; omega) (bytesB_take HDB.out k) (by rw [htl]; omega)
        rw [htl] at h
        exact h.mono (fun _ _ h => h.bad (HSH.out k hlt)))
      clear hsk htl hlt
      go_wp2_with fail
      refine HAP.out.mono ?_
      rintro e w4 ⟨rfl, f4⟩
      have F4 := Lib.hid (HF.out.trans f4 (by simp [Ext]))
      clear f4 HAP
      go_wp2_with fail
      go_roundw
      case rel => exact ⟨k + 1, by omega, by go_num, F4.out⟩
      case measure => simp [intOf]; omega
    · have hd : ¬ (k : Int) < (D.length : Int) := by omega
      clear hlt
      have hE := fun u : World => (by
        have := Seg.one (w := u.alloc (.cells #[] 5)) u.heap.size #[] 5 1 0 (alloc_new _ _) rfl (by unfold maxLen; omega)
        exact this : Seg (u.alloc (.cells #[] 5)) 5 1 (some ⟨u.heap.size, 0, none⟩) 0 0 [])
      have HE := Lib.hid hE
      have HDD := Lib.hid ((SD.out _ (HF.out.alloc (.cells #[] 5))).rd)
      clear hE
      go_wp2_with (at_builtin; first
        | (refine wpList_append_rd rfl _ _ 26 rfl 5 ib _ 1 1 Try.underlying26 hib hb0 hb1 hb2 rfl (by decide) (some ⟨wr.heap.size, 0, none⟩) 0 0 [] rfl (HE.out _) d0 D.length dc (bts D) rfl HDD.out (bts_one _) (by unfold maxLen; omega) (by omega) ?_; intro o5 k5 w5 hs5 hf5 hx5; have HS5 : Hid (Seg w5 5 1 o5 (D.length) k5 (bts D)) := Lib.hid (by simpa using hs5); have HF5 : Hid (Fr [] wr w5) := Lib.hid (((Fr.refl [] wr).alloc _).trans hf5 (fun q hq => .inr (by simp [blk] at hq; omega))); have HX5 := Lib.hid (fun q hq => (by rcases hx5 q hq with h | h; (simp [blk] at h; omega); (simp at h; omega) : wr.heap.size ≤ q)); clear hs5 hf5 hx5)
        | (refine wpList_append_seg rfl _ _ 26 rfl 5 ib _ 1 1 Try.underlying26 hib hb0 hb1 hb2 rfl (by decide) o5 (D.length) k5 (bts D) rfl (HS5.out.alloc _) ⟨_, 0, none⟩ 1 1 [.int .u8 (c : Int)] rfl rfl (fun j u hu => by rw [Addr.add_mid, Nat.zero_add, World.cell?_alloc_new]; simpa using hu) (by simp [Value.oneCell']) (by unfold maxLen; omega) (by omega) ?_; intro o6 k6 w6 hs6 hf6 hx6; have HS6 := Lib.hid hs6; have HF6 : Hid (Fr [] wr w6) := Lib.hid ((HF5.out.alloc _).trans hf6 (fun q hq => .inr (HX5.out q hq))); clear hs6 hf6 hx6))
      have hln : D.length + 1 = (D ++ [c]).length := by simp
      rw [hln]
      have FW := Lib.hid (HF.out.trans HF6.out (by simp [Ext]))
      have HAP := Lib.hid (by
        have h := apply_seg (rest := D ++ [c]) (SA.out _ FW.out) (by rw [← hln, bts_append]; exact HS6.out) VA.out (by have := LA.out; omega) (HDB.out.app (by intro x hx; simp at hx; omega)) (by rw [← hln]; omega)
        exact h.mono (fun _ _ h => h.bad HMO.out))
      clear hln
      refine HAP.out.mono ?_
      rintro e w7 ⟨rfl, f7⟩
      have F7 := Lib.hid (FW.out.trans f7 (by simp [Ext]))
      clear f7 HAP
      go_wp2_with fail
      refine (lives_any _).mono ?_
      rintro e we ⟨rfl, fe⟩
      go_wp2_with fail
      go_ret
      exact ⟨rfl, F3.out.trans (F7.out.trans fe (by simp [Ext])) (by simp [Ext])⟩
end Go.Proofs.Ytcgndeggemceaaa
