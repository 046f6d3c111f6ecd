/- FJoins (merged by merge.py). -/
import Derived.Test.YtodfeaipoagphaaZ3014
import Derived.Test.YtodfeaipoagphaaZ3015
/- FeedJoins returns true. -/
namespace Go.Proofs.Ytodfeaipoagphaa
open Go.RowKit

set_option maxRecDepth 100000 in
set_option maxHeartbeats 16000000 in
theorem fjoins_walk (w : World) (keep : Int) (hkb : bounded keep) (lo : Option Addr) (lc : Nat) (l : List Int) (hr : Rd w 1 lo l.length (ints l)) (hb : ∀ x ∈ l, bounded x) :
    Calls Try.prog 4 #[.int .i64 keep, .slice lo l.length lc] w fun e w' => e = .returned (.bool true) ∧ Fr [] w w' := by
  obtain ⟨k1, hk1, -, hA1⟩ := around_nat keep 6 hkb (by omega) (by omega)
  have HA1 := Lib.hid hA1
  have HAC := Lib.hid (fun u (hu : Fr [] w u) => acts_any u lo lc l (hr.fr hu (by simp)) hb)
  obtain ⟨K1, hK1⟩ : ∃ K, K = 1 + k1 := ⟨_, rfl⟩
  have wk1 : IntKind.i64.wrap (1 + (k1 : Int)) = (K1 : Int) := by rw [IntWalk.i64_in _ (by omega)]; omega
  have HN1 := Lib.hid (newsender_any w K1 (by omega) (by omega))
  have HN2 := Lib.hid (fun u => (newreceiver_any u 1 (by omega) (by omega) : Calls Try.prog 10 #[.int .i64 1] u (NewTo 59 u 1)))
  have HFX := Lib.hid (fun az => (FX.start (by omega) (by omega) (by omega) (by omega) : FX az 0 (fnew K1) (fnew 1)))
  have HG1 : Hid (fnew 1).Good := Lib.hid (fnew_good (by omega) (by omega))
  clear hA1 hr hb hK1 hk1
  go_enter Try.func4, Try.ntmps4
  go_wp2_with (go_at_call 8; refine (HA1.out _).mono ?_; rintro e w' ⟨rfl, rfl⟩)
  refine HN1.out.mono ?_
  rintro e w2 hnew
  obtain ⟨p, rfl, hd⟩ := solo_new hnew
  have HD := Lib.hid hd
  clear hd hnew HN1 wk1
  go_wp2_with fail
  refine (HAC.out w2 HD.out.frame).mono ?_
  rintro e w3 ⟨az, oo, oc, rfl, haz, hok, hat, hf3, hno, hnv⟩
  have HOK := Lib.hid hok
  have HAT := Lib.hid hat
  have HD3 := Lib.hid (HD.out.grow (G' := actG oo az) hf3 (fun k hk => ⟨by
    rcases List.mem_append.1 hk with x | x
    · exact .inr (hno k x)
    · obtain ⟨a, ha, x⟩ := List.mem_flatMap.1 x
      exact .inr (hnv a ha k x), hat.lt k hk⟩))
  clear hok hat hf3 hno hnv HAC HD
  go_wp2_with fail
  go_loopw [7] (fun iv wr => ∃ (i : Nat) (s : FS), iv = .int .i64 (i : Int) ∧ i ≤ az.length ∧ FX az i s (fnew 1) ∧ (∀ e ∈ s.L, e.acked = false) ∧ ActsAt wr oo oc az ∧ Solo 58 w (actG oo az) p s wr) (fun iv _ => az.length - (intOf iv).toNat)
  case atStart => exact ⟨0, _, rfl, by omega, HFX.out az, by intro e he; simp [fnew] at he, HAT.out, HD3.out⟩
  case round =>
    clear HAT HD3
    obtain ⟨i, s, rfl, hi, hfx, hna, hat, hd⟩ := hrel
    have HX := Lib.hid hfx
    have HNA := Lib.hid hna
    have HAT := Lib.hid hat
    have HD := Lib.hid hd
    clear hfx hat hd hna
    by_cases hil : i < az.length
    · have hlt : (i : Int) < (az.length : Int) := by omega
      have wi : IntKind.i64.wrap ((i : Int) + 1) = (i : Int) + 1 := IntWalk.i64_in _ (by omega)
      obtain ⟨g, off, hoo, c0, c1, -, -⟩ := HAT.out.at hil
      have HCC := Lib.hid (fun u (hu : Kept (actG oo az) wr u) => (by
        obtain ⟨g', off', h1, k0, k1, -, -⟩ := (HAT.out.same hu).at hil
        rw [hoo] at h1; cases h1
        exact ⟨k0, k1⟩ : u.cell? ⟨g, off + i * 4, none⟩ = some (.int .i64 (az[i].t : Int)) ∧ u.cell? ⟨g, off + i * 4 + 1, none⟩ = some (.slice az[i].vo az[i].v.length az[i].vc)))
      have hao := HOK.out.2 _ (List.getElem_mem hil)
      have HSV := Lib.hid (HAT.out.views _ (List.getElem_mem hil))
      have HVG := Lib.hid (fun k (hk : k ∈ blk az[i].vo) => (List.mem_append_right _ (List.mem_flatMap.2 ⟨az[i], List.getElem_mem hil, hk⟩) : k ∈ actG oo az))
      have HS0 := Lib.hid (HX.out.ns i hil (Nat.le_refl _))
      have HX1 := Lib.hid (HX.out.put HOK.out hil)
      have HGS := Lib.hid HX.out.gs
      have HNO := Lib.hid (no_ack HNA.out)
      obtain ⟨a, ha⟩ : ∃ a, a = az[i] := ⟨_, rfl⟩
      rw [← ha] at c0 c1 HCC hao HSV HVG HS0 HX1
      obtain ⟨t, ht⟩ : ∃ t, t = a.t := ⟨_, rfl⟩
      obtain ⟨v, hv⟩ : ∃ v, v = a.v := ⟨_, rfl⟩
      obtain ⟨vo, hvo⟩ : ∃ v, v = a.vo := ⟨_, rfl⟩
      obtain ⟨vc, hvc⟩ : ∃ v, v = a.vc := ⟨_, rfl⟩
      have ht50 : t ≤ 50 := by have := hao.t; omega
      have HIV := Lib.hid hao.v
      have hvl := hao.l
      rw [← hv] at HIV hvl
      rw [← ht] at c0 HS0 HX1 HCC
      rw [← hv] at HX1
      rw [← hv, ← hvo, ← hvc] at c1 HSV HCC
      rw [← hvo] at HVG
      have HOO := Lib.hid hoo
      clear ha ht hv hvo hvc hao HX
      subst hoo
      have HD1 := Lib.hid (HD.out.old (Fr.refl [] wr).drew)
      have HSD := Lib.hid (solo_send HD1.out.1 HGS.out t HS0.out (by omega) vo vc v (HSV.out.fr (Fr.refl [] wr).drew (by simp)) HIV.out hvl)
      go_upto_region 8 with fail
      go_region_held3 (fun u => u.cell? ⟨g, off + i * 4, none⟩ = some (.int .i64 (t : Int)) ∧ u.cell? ⟨g, off + i * 4 + 1, none⟩ = some (.slice vo v.length vc)) (first | exact ⟨c0, c1⟩ | exact cA)
        ((go_at_call 12; refine HSD.out.mono ?_; rintro e w5 ⟨po, pc, n, rfl, hnl, -, hp, hd, hk, hz⟩; have HP := Lib.hid (hp (by omega)); have HNL := Lib.hid hnl; have HK5 := Lib.hid (fun k hk2 => (hk k hk2).trans (HD1.out.2 k hk2) : Kept (actG (some ⟨g, off, none⟩) az) wr w5); have HD5 := Lib.hid hd; have cA := HCC.out w5 HK5.out; clear hnl hp hd hk hz HSD))
      clear c0 c1 cA
      go_wp2_with fail
      refine (HN2.out w5).mono ?_
      rintro e w6 hnew
      obtain ⟨q, rfl, hd, hk⟩ := HD5.out.duo hnew
      have HD6 := Lib.hid hd
      have HP6 := Lib.hid (hk.pkt HP.out (fun k hk2 => List.mem_append_left _ hk2))
      have HK6 := Lib.hid (fun k hk2 => (hk k (List.mem_append_right _ hk2)).trans (HK5.out k hk2) : Kept (actG (some ⟨g, off, none⟩) az) wr w6)
      clear hnew hd hk HK5 HP HD5
      have HRC := Lib.hid (duo_recv HD6.out HG1.out po pc t s.ref n (diffL s.base v) HNL.out HP6.out (by show (0 : Int) ≤ _; omega) s.base v (.inl HNO.out) (apply_diff HGS.out.base.1 HIV.out (by have := HGS.out.base.2; omega) (by omega)) hvl)
      go_wp2_with fail
      refine HRC.out.mono ?_
      rintro e w7 ⟨rfl, hd, hk⟩
      have HD7 := Lib.hid hd
      have HK7 := Lib.hid (fun k hk2 => (hk k (List.mem_append_right _ hk2)).trans (HK6.out k hk2) : Kept (actG (some ⟨g, off, none⟩) az) wr w7)
      clear hd hk HK6 HRC HD6 HP6
      have HG7 : Hid ((fnew 1).put (t : Int) v).Good := Lib.hid (HG1.out.put (by show (0 : Int) ≤ _; omega) (by omega) HIV.out hvl)
      go_wp2_with fail
      refine (duo_view HD7.out HG7.out (t : Int) (by unfold MV.fits; omega)).mono ?_
      rintro e w8 ⟨f8, ⟨hn, -⟩ | ⟨xe, hxe, hxt, bo, bc, rfl, hbs, -⟩⟩
      · rw [put_has HG1.out] at hn; cases hn
      have hxv := put_view HG1.out (by show (0 : Int) ≤ _; omega) (by omega) HIV.out hvl hxe hxt
      rw [hxv] at hbs ⊢
      have HD8 := Lib.hid ((HD7.out.old f8).1)
      have hK8 := (HD7.out.old f8).2
      have HK8 := Lib.hid (fun k hk2 => (hK8 k (List.mem_append_right _ hk2)).trans (HK7.out k hk2) : Kept (actG (some ⟨g, off, none⟩) az) wr w8)
      obtain ⟨c0, c1⟩ := HCC.out w8 HK8.out
      have hsv := Kept.seg HK8.out HSV.out HVG.out
      have HEQ := Lib.hid (by have h := requal_any w8 bo vo bc vc v v hbs.rd hsv.rd; rw [decide_eq_true rfl] at h; exact h)
      have HLA := Lib.hid (fun u (hu : Fr [] w8 u) => (by have h := duo_latest (HD8.out.old hu).1 HG7.out; rw [show ((fnew 1).put (t : Int) v).next - 1 = (t : Int) by show (t : Int) + 1 - 1 = _; omega] at h; exact h : Calls Try.prog 19 #[.pointer (some ⟨q, 0, none⟩)] u fun e w' => e = .returned (.int .i64 (t : Int)) ∧ u = w'))
      have hxx : ((t : Int) != (t : Int)) = false := by simp
      clear f8 hxe hxt hxv hbs hK8 hsv HD7 HK7 hlt
      go_wp2_with (first | (go_at_call 19; refine (HLA.out _ FE.out).mono ?_; rintro e w' ⟨rfl, rfl⟩) | (go_at_call 18; refine HEQ.out.mono ?_; rintro e wE ⟨rfl, fe⟩; have FE := Lib.hid fe; clear fe))
      go_roundw
      case rel =>
        have h9 := HD8.out.old FE.out
        exact ⟨i + 1, _, by go_num, by omega, HX1.out, put_noack HNA.out, HAT.out.same (fun k hk => (h9.2 k (List.mem_append_right _ hk)).trans (HK8.out k hk)), h9.1.solo.sub (fun k hk => List.mem_append_right _ hk)⟩
      case measure => simp [intOf]; omega
    · have hlt : ¬ (i : Int) < (az.length : Int) := by omega
      go_wp2_with fail
      refine (lives30_any _).mono ?_
      rintro e wL ⟨rfl, fL⟩
      have HL := Lib.hid (HD.out.frame.trans fL (by simp [Ext]))
      clear fL
      go_wp2_with fail
      go_ret
      exact ⟨rfl, HL.out⟩
end Go.Proofs.Ytodfeaipoagphaa
