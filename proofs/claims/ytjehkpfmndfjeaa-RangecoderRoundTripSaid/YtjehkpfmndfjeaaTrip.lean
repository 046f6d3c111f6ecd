/- RangecoderRoundTrip returns true. -/
import Derived.Laws.Closers25b
import Derived.Test.YtjehkpfmndfjeaaMessage
namespace Go.Proofs.Ytjehkpfmndfjeaa
open Go.RowKit

theorem enc_small {X : List Nat} (h : X.length ≤ 4000) : (enc X).length ≤ 100000 := by
  obtain ⟨h1, h2⟩ := enc_size X
  have h3 := digits_len X.length 1 (by omega)
  omega

theorem dec_back {X : List Nat} (h : Bytes X) (hl : X.length ≤ 4000) : dec (enc X) = (X, 0) := by
  have := dec_enc (Z := []) h (by intro x hx; simp at hx) hl
  simpa using this

set_option maxRecDepth 100000 in
set_option maxHeartbeats 4000000 in
theorem trip_walk (w : World) (bo lo : Option Addr) (cb lc : Nat) (b : List Nat) (l : List Int) (sb : Src w bo cb b) (hrd : Rd w 1 lo l.length (ints l)) (hb : ∀ x ∈ l, bounded x) :
    Calls Try.prog 4 #[.slice bo b.length cb, .slice lo l.length lc] w fun e w' => e = .returned (.bool true) ∧ Fr [] w w' := by
  obtain ⟨i0, hi0, hz0, hz1, hz2⟩ := info_parts infoByte
  obtain ⟨T, hT⟩ : ∃ T, T = b.take 200 := ⟨_, rfl⟩
  have tl : T.length ≤ 200 := by rw [hT, List.length_take]; omega
  have TB := Lib.hid (by rw [hT]; exact sb.bytes.take 200 : Bytes T)
  have HFT := Lib.hid fun (u : World) (hf : Fr [] w u) => (hT ▸ few_any u bo cb b 200 (sb.old hf) (by omega) : Calls Try.prog 11 #[.slice bo b.length cb, .int .i64 200] u (SliceTo u T))
  have HBT := Lib.hid (bts_one T)
  have HMS := Lib.hid (message_any w lo lc l hrd hb)
  clear sb hrd hb hT
  go_enter Try.func4, Try.ntmps4
  go_wp2_with fail
  refine HMS.out.mono ?_
  rintro e w1 ⟨M, hM, ml, ma, mc, rfl, sm, f1, n1⟩
  have F1 := Lib.hid f1
  have SM1 := Lib.hid sm
  have MB := Lib.hid hM
  have NM := Lib.hid n1
  clear sm f1 n1 hM HMS
  go_wp2_with fail
  refine (HFT.out _ F1.out).mono ?_
  rintro e w2 ⟨ta, tc, rfl, st, f2, n2⟩
  have F2 := Lib.hid (F1.out.trans f2 (by simp [Ext]))
  have SM2 := Lib.hid (SM1.out.fr f2 (by simp))
  have ST2 := Lib.hid st
  have HTN := Lib.hid (fun (h : ta = none) => by have h1 := (st.src TB.out).nil h; rw [h1.2]; rfl : ta = none → T.length = 0)
  clear st f2 n2 F1 SM1
  go_wp2_with (at_builtin; refine wpList_append_src rfl _ _ 22 rfl 5 i0 _ 1 1 Try.underlying22 hi0 hz0 hz1 hz2 rfl (by decide) ma M.length mc (bts M) rfl SM2.out ta T.length tc (bts T) rfl ST2.out.rd HTN.out HBT.out (by unfold maxLen; omega) (by omega) ?_; intro xa xc w3 hs3 hf3 hx3; have F3 := Lib.hid (F2.out.trans hf3 (fun k hk => .inr (NM.out k hk))); have SX3 := Lib.hid (by rw [bts_append]; exact hs3 : Seg w3 5 1 xa (M.length + T.length) xc (bts (M ++ T))); clear hs3 hf3 hx3 SM2 ST2 HTN F2 NM HBT)
  have hln : M.length + T.length = (M ++ T).length := by rw [List.length_append]
  have HLN := Lib.hid hln
  have XB := Lib.hid (MB.out.append TB.out)
  obtain ⟨E, hE⟩ : ∃ E, E = enc (M ++ T) := ⟨_, rfl⟩
  have el : E.length ≤ 100000 := by rw [hE]; exact enc_small (by omega)
  have HEN := Lib.hid (by
    have hs := SX3.out
    rw [hln] at hs ⊢
    rw [hE]
    exact encode_src (hs.src XB.out) (by omega) : Calls Try.prog 14 #[.slice xa (M.length + T.length) xc] w3 (SliceTo w3 E))
  have HDE := Lib.hid (by rw [hE]; exact dec_back XB.out (by omega) : dec E = (M ++ T, 0))
  have EB := Lib.hid (by rw [hE]; exact enc_bytes _ : Bytes E)
  clear hE hln
  refine HEN.out.mono ?_
  rintro e w4 ⟨ya, yc, rfl, sy, f4, n4⟩
  have F4 := Lib.hid (F3.out.trans f4 (by simp [Ext]))
  have SX4 := Lib.hid (SX3.out.fr f4 (by simp))
  have HDC := Lib.hid (by
    have h := decode_src (sy.src EB.out) sy.lt
    rw [HDE.out] at h
    exact h)
  clear sy f4 n4 SX3 F3 HEN
  go_wp2_with fail
  refine HDC.out.mono ?_
  rintro e w5 ⟨za, zc, rfl, sz, f5, n5⟩
  have F5 := Lib.hid (F4.out.trans f5 (by simp [Ext]))
  have HS := Lib.hid (by
    have h := same_any w5 xa za xc zc (M ++ T) (M ++ T) (by have := (SX4.out.fr f5 (by simp)).rd; rw [HLN.out] at this; exact this) sz.rd
    rw [← HLN.out] at h
    exact h : Calls Try.prog 13 #[.slice xa (M.length + T.length) xc, .slice za (M.length + T.length) zc] w5 fun e w' => e = .returned (.bool (decide (M ++ T = M ++ T))) ∧ Fr [] w5 w')
  clear sz f5 n5 SX4 F4 HDC
  rw [← HLN.out]
  go_wp2_with fail
  refine HS.out.mono ?_
  rintro e w6 ⟨rfl, f6⟩
  have hb : decide (M ++ T = M ++ T) = true := by simp
  have F6 := Lib.hid (F5.out.trans f6 (by simp [Ext]))
  clear f6
  go_wp2_with fail
  refine (lives_any _).mono ?_
  rintro e w7 ⟨rfl, f7⟩
  go_wp2_with fail
  go_ret
  exact ⟨rfl, F6.out.trans f7 (by simp [Ext])⟩
end Go.Proofs.Ytjehkpfmndfjeaa
