/- RangecoderPrefix returns true. -/
import Derived.Laws.Closers25b
import Derived.Test.YtjehkpfmndfjeaaLaw29c
import Derived.Test.YtjehkpfmndfjeaaSize
namespace Go.Proofs.Ytjehkpfmndfjeaa
open Go.RowKit

theorem enc_long {X Z : List Nat} (hX : Bytes X) (hZ : Bytes Z) (hl : X.length ≤ 4000) : dec (enc X ++ Z ++ [0]) = ([], 8) := by
  rw [List.append_assoc, dec_enc hX (hZ.append (by intro x hx; simp at hx; omega)) hl, if_neg (by simp)]

theorem enc_short {X : List Nat} (hX : Bytes X) (hl : X.length ≤ 4000) {k : Nat} (hk : k < (enc X).length) : (dec ((enc X).take k)).2 ≠ 0 :=
  dec_prefix hX hl (Z := (enc X).drop k) (by intro h; have := congrArg List.length h; simp at this; omega) (List.take_append_drop k _).symm

theorem enc_pos (X : List Nat) : 0 < (enc X).length := by
  have h1 := (enc_size X).1
  have h2 := List.length_pos_iff.2 (digits_ne X.length)
  omega

set_option maxRecDepth 100000 in
set_option maxHeartbeats 4000000 in
theorem prefix_walk (w : World) (bo to : Option Addr) (cb ct : Nat) (b t : List Nat) (cut : Int) (sb : Src w bo cb b) (st : Src w to ct t) (hcut : bounded cut) :
    Calls Try.prog 6 #[.slice bo b.length cb, .int .i64 cut, .slice to t.length ct] w fun e w' => e = .returned (.bool true) ∧ Fr [] w w' := by
  obtain ⟨i0, hi0, hz0, hz1, hz2⟩ := info_parts infoByte
  obtain ⟨X, hX⟩ : ∃ X, X = b.take 60 := ⟨_, rfl⟩
  obtain ⟨T, hT⟩ : ∃ T, T = t.take 8 := ⟨_, rfl⟩
  have xl : X.length ≤ 60 := by rw [hX, List.length_take]; omega
  have tl : T.length ≤ 8 := by rw [hT, List.length_take]; omega
  have XB := Lib.hid (by rw [hX]; exact sb.bytes.take 60 : Bytes X)
  have TB := Lib.hid (by rw [hT]; exact st.bytes.take 8 : Bytes T)
  have HFB := Lib.hid (hX ▸ few_any w bo cb b 60 sb (by omega) : Calls Try.prog 11 #[.slice bo b.length cb, .int .i64 60] w (SliceTo w X))
  have HFT := Lib.hid fun (u : World) (hf : Fr [] w u) => (hT ▸ few_any u to ct t 8 (st.old hf) (by omega) : Calls Try.prog 11 #[.slice to t.length ct, .int .i64 8] u (SliceTo u T))
  obtain ⟨E, hE⟩ : ∃ E, E = enc X := ⟨_, rfl⟩
  have EB := Lib.hid (by rw [hE]; exact enc_bytes X : Bytes E)
  have ep : 0 < E.length := by rw [hE]; exact enc_pos X
  have el : E.length ≤ 6 + 12 * X.length := by rw [hE]; exact (enc_size_300 (by omega)).2.1
  have HEN := Lib.hid (fun (u : World) (ao : Option Addr) (c : Nat) (h : Src u ao c X) => (hE ▸ encode_src h (by omega) : Calls Try.prog 14 #[.slice ao X.length c] u (SliceTo u E)))
  obtain ⟨k, hk, hka, hAR⟩ := around_nat cut E.length hcut (by omega) (by omega)
  have HAR := Lib.hid hAR
  obtain ⟨P, hP⟩ : ∃ P, P = E.take k := ⟨_, rfl⟩
  have pl : P.length = k := by rw [hP, List.length_take]; omega
  obtain ⟨d1, c1, hd1⟩ : ∃ d1 c1, dec P = (d1, c1) := ⟨_, _, rfl⟩
  have hc1 : c1 ≠ 0 := by
    have := enc_short XB.out (k := k) (by omega) (by rw [← hE]; exact hk)
    rw [← hE, ← hP, hd1] at this
    exact this
  have HD1 := Lib.hid hd1
  have HD2 := Lib.hid (by rw [hE]; exact enc_long XB.out TB.out (by omega) : dec (E ++ T ++ [0]) = ([], 8))
  have HP := Lib.hid hP
  have HPL := Lib.hid pl
  have hq : ((E.length : Int) == 0) = false := by simp; intro h; simp [h] at ep
  have hc2 : (c1 != 0) = true := bne_iff_ne.2 hc1
  clear sb st hX hT hE hcut hka hAR hP hd1 hc1 pl
  go_enter Try.func6, Try.ntmps6
  go_wp2_with fail
  refine HFB.out.mono ?_
  rintro e w1 ⟨xa, xc, rfl, sx, f1, n1⟩
  have F1 := Lib.hid f1
  have SX1 := Lib.hid (sx.src XB.out)
  clear sx f1 n1
  go_wp2_with fail
  refine (HEN.out _ _ _ SX1.out).mono ?_
  rintro e w2 ⟨ya, yc, rfl, sy, f2, n2⟩
  have F2 := Lib.hid (F1.out.trans f2 (by simp [Ext]))
  have SY2 := Lib.hid sy
  have hyc : E.length ≤ yc := sy.2.2.1
  clear sy f2 n2 SX1 F1
  go_wp2_with fail
  refine (HAR.out _).mono ?_
  rintro e w3 ⟨rfl, rfl⟩
  have hto := run_slice_to (P := Try.prog) 22 5 Try.underlying22 1 (by kernel_rfl) ya E.length yc k (by omega)
  have HDC := Lib.hid (by
    have h := SY2.out.take (k := k) (by omega)
    rw [bts_take, Nat.mul_one, ← HP.out] at h
    have h2 := decode_src (Seg.src (l := P) (by rw [HPL.out]; exact h) (by rw [HP.out]; exact EB.out.take k)) SY2.out.lt
    rw [HPL.out, HD1.out] at h2
    exact h2 : Calls Try.prog 17 #[.slice ya k yc] w2 (DecRes w2 (d1, c1)))
  go_wp2_with fail
  refine HDC.out.mono ?_
  rintro e w4 ⟨oa, oc, rfl, so, f4, n4⟩
  have F4 := Lib.hid (F2.out.trans f4 (by simp [Ext]))
  have SY4 := Lib.hid (SY2.out.fr f4 (by simp))
  have SN4 := Lib.hid (Seg.nil w4 5 1)
  have HBE := Lib.hid (bts_one E)
  have HBT := Lib.hid (bts_one T)
  have HYN := Lib.hid (fun (h : ya = none) => by have h1 := SY4.out.cell0 (n := 0) ep; obtain ⟨g, off, h2, _⟩ := h1; rw [h2] at h; exact absurd h (by simp) : ya = none → E.length = 0)
  clear so f4 n4 SY2 F2 HDC
  go_wp2_with (at_builtin; refine wpList_append_src rfl _ _ 22 rfl 5 i0 _ 1 1 Try.underlying22 hi0 hz0 hz1 hz2 rfl (by decide) none 0 0 [] rfl SN4.out ya E.length yc (bts E) rfl SY4.out.rd HYN.out HBE.out (by unfold maxLen; omega) (by omega) ?_; intro aa ac w5 hs5 hf5 hx5)
  have F5 := Lib.hid (F4.out.trans hf5 (by simp [blk, Ext]))
  have SA5 := Lib.hid (by simpa using hs5 : Seg w5 5 1 aa E.length ac (bts E))
  have NA5 := Lib.hid (fun k hk => by rcases hx5 k hk with h | h; simp [blk] at h; have := F4.out.size; omega : ∀ k ∈ blk aa, w.heap.size ≤ k)
  clear hs5 hf5 hx5 SY4 SN4 HBE HYN F4
  go_wp2_with fail
  refine (HFT.out _ F5.out).mono ?_
  rintro e w6 ⟨ta, tc, rfl, st, f6, n6⟩
  have F6 := Lib.hid (F5.out.trans f6 (by simp [Ext]))
  have SA6 := Lib.hid (SA5.out.fr f6 (by simp))
  have ST6 := Lib.hid st
  have HTN := Lib.hid (fun (h : ta = none) => by have h1 := (st.src TB.out).nil h; rw [h1.2]; rfl : ta = none → T.length = 0)
  clear st f6 n6 F5 SA5
  go_wp2_with (first | (at_builtin; refine wpList_append_seg rfl _ _ 22 rfl 5 i0 _ 1 1 Try.underlying22 hi0 hz0 hz1 hz2 rfl (by decide) ba (E.length + T.length) bc (bts (E ++ T)) rfl (SB7.out _) ⟨w7.heap.size, 0, none⟩ 1 1 [_] rfl rfl (HN.out _) (by simp [Value.oneCell']) (by unfold maxLen; omega) (by omega) ?_; intro ca cc w8 hs8 hf8 hx8; have F8 := Lib.hid ((F7.out.alloc _).trans hf8 (fun k hk => .inr (NB7.out k hk))); have SC8 := Lib.hid hs8; clear hs8 hf8 hx8) | (at_builtin; refine wpList_append_src rfl _ _ 22 rfl 5 i0 _ 1 1 Try.underlying22 hi0 hz0 hz1 hz2 rfl (by decide) aa E.length ac (bts E) rfl SA6.out ta T.length tc (bts T) rfl ST6.out.rd HTN.out HBT.out (by unfold maxLen; omega) (by omega) ?_; intro ba bc w7 hs7 hf7 hx7; have F7 := Lib.hid (F6.out.trans hf7 (fun k hk => .inr (NA5.out k hk))); have SB7 := Lib.hid (fun (o : Obj) => (by rw [bts_append]; exact hs7 : Seg w7 5 1 ba (E.length + T.length) bc (bts (E ++ T))).alloc o); have NB7 := Lib.hid (fun k hk => by rcases hx7 k hk with h | h; exact NA5.out k h; have := F6.out.size; omega : ∀ k ∈ blk ba, w.heap.size ≤ k); have HN := Lib.hid (fun (v : Value) j u hu => by rw [Addr.add_mid, Nat.zero_add, World.cell?_alloc_new]; simpa using hu : ∀ v j u, [v][j]? = some u → (w7.alloc (.cells #[v] 5)).cell? ((⟨w7.heap.size, 0, none⟩ : Addr).add j) = some u); clear hs7 hf7 hx7 SA6 ST6 HTN F6 NA5 HBT))
  have HDC2 := Lib.hid (by
    have hs := SC8.out
    have hln : E.length + T.length + 1 = (E ++ T ++ [0]).length := by simp; omega
    rw [show bts (E ++ T) ++ [Value.int IntKind.u8 0] = bts (E ++ T ++ [0]) by simp [bts], hln] at hs
    have h2 := decode_src (hs.src ((EB.out.append TB.out).append (by intro x hx; simp at hx; omega))) hs.lt
    rw [HD2.out, ← hln] at h2
    exact h2 : Calls Try.prog 17 #[.slice ca (E.length + T.length + 1) cc] w8 (DecRes w8 ([], 8)))
  clear SB7 NB7 HN F7 SC8
  go_wp2_with fail
  refine HDC2.out.mono ?_
  rintro e w9 ⟨ra, rc, rfl, sr, f9, n9⟩
  have F9 := Lib.hid (F8.out.trans f9 (by simp [Ext]))
  clear sr f9 n9 F8 HDC2
  go_wp2_with fail
  refine (lives_any _).mono ?_
  rintro e w10 ⟨rfl, f10⟩
  go_wp2_with fail
  go_ret
  exact ⟨rfl, F9.out.trans f10 (by simp [Ext])⟩
end Go.Proofs.Ytjehkpfmndfjeaa
