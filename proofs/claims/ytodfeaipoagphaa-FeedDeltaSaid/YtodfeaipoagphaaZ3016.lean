/- FDelta (merged by merge.py). -/
import Derived.Test.YtodfeaipoagphaaZ3014
import Derived.Test.YtodfeaipoagphaaZ3015
/- FeedDelta returns true. -/
namespace Go.Proofs.Ytodfeaipoagphaa
open Go.RowKit

theorem delta_bytes (t : Nat) (ht : t < 16384) {V : List (Int × Int)} (hV : IsView V) : ∃ P, P = varN t ++ varN t ++ diffL V V ∧ 4 ≤ P.length ∧ P.length ≤ 6 ∧ P.drop (P.length - 2) = [0, 0] := by
  have h1 := varN_len_pos t
  have h2 := varN_len_le 1 t (by omega)
  refine ⟨_, rfl, ?_, ?_, ?_⟩
  · rw [diff_self hV]; simp only [List.length_append, List.length_cons, List.length_nil]; omega
  · rw [diff_self hV]; simp only [List.length_append, List.length_cons, List.length_nil]; omega
  · rw [diff_self hV]
    have e : (varN t ++ varN t ++ [0, 0]).length - 2 = (varN t ++ varN t).length := by rw [List.length_append (bs := [0, 0])]; rfl
    rw [e, List.drop_left]

attribute [local irreducible] wpStill in
set_option maxRecDepth 100000 in
set_option maxHeartbeats 16000000 in
theorem fdelta_walk (w : World) (lo : Option Addr) (lc : Nat) (l : List Int) (hr : Rd w 1 lo l.length (ints l)) (hb : ∀ x ∈ l, bounded x) (tick : Int) (htb : bounded tick) :
    Calls Try.prog 6 #[.slice lo l.length lc, .int .i64 tick] w fun e w' => e = .returned (.bool true) ∧ Fr [] w w' := by
  obtain ⟨t, ht, -, hA1⟩ := around_nat tick 6000 htb (by omega) (by omega)
  have HA1 := Lib.hid hA1
  have HCE := Lib.hid (fun u (hu : Fr [] w u) => cells_any u lo lc l (hr.fr hu (by simp)) hb)
  have HN1 : Hid (Calls Try.prog 9 #[.int .i64 2] w (NewTo 58 w 2)) := Lib.hid (newsender_any w 2 (by omega) (by omega))
  have HG0 : Hid (fnew 2).Good := Lib.hid (fnew_good (by omega) (by omega))
  have wt : IntKind.i64.wrap ((t : Int) + 1) = ((t + 1 : Nat) : Int) := by rw [IntWalk.i64_in _ (by omega)]; omega
  clear hA1 hr hb
  go_enter Try.func6, Try.ntmps6
  go_wp2_with fail
  refine HN1.out.mono ?_
  rintro e w1 hnew
  obtain ⟨p, rfl, hd⟩ := solo_new hnew
  have HD := Lib.hid hd
  clear hd hnew HN1
  go_wp2_with (go_at_call 8; refine (HA1.out _).mono ?_; rintro e w' ⟨rfl, rfl⟩)
  refine (HCE.out w1 HD.out.frame).mono ?_
  rintro e w2 ⟨V, ao, ca, rfl, hv, hvl, hsv, hf2, hnv⟩
  have HV := Lib.hid hv
  have HSV := Lib.hid hsv
  have HD2 := Lib.hid (HD.out.grow (G' := blk ao) hf2 (fun k hk => ⟨.inr (hnv k hk), hsv.lt k hk⟩))
  clear hv hsv hf2 hnv HD HCE
  have HSD := Lib.hid (solo_send HD2.out HG0.out t (by show (0 : Int) ≤ _; omega) (by omega) ao ca V HSV.out HV.out hvl)
  go_wp2_with fail
  refine HSD.out.mono ?_
  rintro e w3 ⟨po, pc, n, rfl, -, -, -, hd, hk, -⟩
  have HD3 := Lib.hid (hd.sub (G' := blk ao) (fun k hk => List.mem_append_right _ hk))
  have HSV3 := Lib.hid (hk.seg HSV.out (fun k hk => hk))
  have HG3 : Hid ((fnew 2).put (t : Int) V).Good := Lib.hid (HG0.out.put (by show (0 : Int) ≤ _; omega) (by omega) HV.out hvl)
  clear hd hk HSD HD2 HSV
  go_wp2_with fail
  refine (solo_ack HD3.out HG3.out (t : Int) (by unfold MV.fits; omega)).mono ?_
  rintro e w4 ⟨rfl, hd, hk⟩
  obtain ⟨s4, hs4⟩ : ∃ s, s = ((fnew 2).put (t : Int) V).ack (t : Int) := ⟨_, rfl⟩
  rw [← hs4] at hd
  have HD4 := Lib.hid hd
  have HSV4 := Lib.hid (hk.seg HSV3.out (fun k hk => hk))
  obtain ⟨ha0, ha1, ha2⟩ := ack_one (show 1 ≤ 2 by omega) t V
  rw [← hs4] at ha0 ha1 ha2
  have HG4 : Hid s4.Good := Lib.hid (by rw [hs4]; exact HG3.out.ack _)
  obtain ⟨P, hP, hp4, hp6, hpd⟩ := delta_bytes (t + 1) (by omega) HV.out
  have HSD := Lib.hid (solo_send HD4.out HG4.out (t + 1) (by rw [ha0]; show (t : Int) + 1 ≤ _; omega) (by omega) ao ca V HSV4.out HV.out hvl)
  unfold SSend at HSD
  rw [ha1, ha2, ← hP] at HSD
  have HPB := Lib.hid (by rw [hP]; exact ((varN_bytes _).app (varN_bytes _)).app (diffL_bytes _ _) : BytesB P)
  have HPD := Lib.hid hpd
  clear hd hk HD3 HSV3 HG3 ha0 ha1 ha2 hs4 hP hpd
  go_wp2_with fail
  refine HSD.out.mono ?_
  rintro e w5 ⟨qo, qc, n, rfl, rfl, hseg, -, hd, hk, -⟩
  have HSV5 := Lib.hid (hk.seg HSV4.out (fun k hk => hk))
  have HF5 := Lib.hid hd.frame
  have HDE := Lib.hid (by have h := decode_any w5 qo qc (enc P) hseg.rd (enc_bytes P) hseg.2.2.1 hseg.2.1 hseg.lt; rw [dec_enc30 HPB.out (by omega)] at h; exact h)
  clear hseg hd hk HSD HD4 HSV4
  go_wp2_with fail
  refine HDE.out.mono ?_
  rintro e w6 ⟨oa, oc, rfl, hsa, f6, -⟩
  have HSA := Lib.hid hsa
  have HSV6 := Lib.hid (HSV5.out.fr f6 (by simp))
  have HF6 := Lib.hid (HF5.out.trans f6 (by simp [Ext]))
  clear hsa f6 HDE HSV5 HF5
  obtain ⟨m, hm⟩ : ∃ m, m = P.length := ⟨_, rfl⟩
  have HM := Lib.hid hm
  have HDI := Lib.hid (diff_seg HSV6.out HSV6.out HV.out HV.out (by omega) (by omega))
  rw [diff_self HV.out] at HDI
  rw [← hm] at hp4 hp6
  have g6 : ¬ (6 : Int) < (m : Int) := by omega
  have g2 : ¬ (m : Int) < 2 := by omega
  go_wp2_with fail
  all_goals (try simp only [← hm])
  refine HDI.out.mono ?_
  rintro e w7 ⟨ro, rc, rfl, hsr, f7, -⟩
  have hsa7 := HSA.out.fr f7 (by simp)
  have HF7 := Lib.hid (HF6.out.trans f7 (by simp [Ext]))
  rw [← hm] at hsa7
  have hcut := hsa7.cutA (lo := m - 2) (hi := m) (mx := oc) (by omega) hsa7.2.2.1 (Nat.le_refl _) (Nat.le_refl _)
  have hsl := run_slice_from (P := Try.prog) 33 5 Try.underlying33 1 (by kernel_rfl) oa m oc (m - 2) (by omega)
  rw [show ((m - 2 : Nat) : Int) = (m : Int) - 2 by omega, show m - (m - 2) = 2 by omega] at hsl
  rw [show m - (m - 2) = 2 by omega] at hcut
  obtain ⟨xo, hxo⟩ : ∃ x, x = cutA oa (m - 2) oc 1 := ⟨_, rfl⟩
  obtain ⟨xc, hxc⟩ : ∃ x, x = oc - (m - 2) := ⟨_, rfl⟩
  rw [← hxo, ← hxc] at hsl hcut
  have e2 : ((bts P).drop ((m - 2) * 1)).take (2 * 1) = bts [0, 0] := by
    unfold bts
    rw [← List.map_drop, ← List.map_take, Nat.mul_one, hm, Nat.mul_one, HPD.out]; rfl
  rw [e2] at hcut
  have k1 := conv_str (c := xc) (l := [0, 0]) (hcut.rd.fr ((Fr.refl [] w7).drew) (by simp))
  have k2 := conv_str (c := rc) (l := [0, 0]) (hsr.rd.fr ((Fr.refl [] w7).drew) (by simp))
  obtain ⟨Z, hZ⟩ : ∃ Z, Z = strN [0, 0] := ⟨_, rfl⟩
  rw [← hZ] at k1 k2
  have wm : IntKind.i64.wrap ((m : Int) - 2) = (m : Int) - 2 := IntWalk.i64_in _ (by omega)
  have hge : decide ((2 : Int) ≤ (m : Int)) = true := decide_eq_true (by omega)
  clear hsa7 hcut hxo hxc e2 hZ hsr f7 hm
  simp only [List.length_cons, List.length_nil, Nat.zero_add, Nat.reduceAdd] at k1 k2
  go_wp2_with fail
  refine wp_still_tail 19 (by kernel_rfl) (by kernel_rfl) ?_
  simp only [List.take_succ_cons, List.take_zero, List.drop_succ_cons, List.drop_zero]
  repeat still_step
  refine wpStill_nil ?_
  go_wp2_with fail
  refine (lives30_any _).mono ?_
  rintro e wL ⟨rfl, fL⟩
  have HL := Lib.hid ((HF7.out.drewN 1).trans fL (by simp [Ext]))
  clear fL
  go_wp2_with fail
  go_ret
  exact ⟨rfl, HL.out⟩
end Go.Proofs.Ytodfeaipoagphaa
