/- FFunction (merged by merge.py). -/
import Derived.Test.YtodfeaipoagphaaZ3014
import Derived.Test.YtodfeaipoagphaaZ3012
/- FeedFunction returns true. -/
namespace Go.Proofs.Ytodfeaipoagphaa
open Go.RowKit

set_option maxRecDepth 100000 in
set_option maxHeartbeats 16000000 in
theorem ffunction_walk (w : World) (keep : Int) (hkb : bounded keep) (lo : Option Addr) (lc : Nat) (l : List Int) (hr : Rd w 1 lo l.length (ints l)) (hb : ∀ x ∈ l, bounded x) :
    Calls Try.prog 5 #[.int .i64 keep, .slice lo l.length lc] w fun e w' => e = .returned (.bool true) ∧ Fr [] w w' := by
  obtain ⟨k1, hk1, -, hA1⟩ := around_nat keep 6 hkb (by omega) (by omega)
  obtain ⟨ic, hic, hz0, hz1, hz2⟩ := info_parts infoCell
  have HA1 := Lib.hid hA1
  have HAC := Lib.hid (fun u (hu : Fr [] w u) => acts_any u lo lc l (hr.fr hu (by simp)) hb)
  obtain ⟨K1, hK1⟩ : ∃ K, K = 1 + k1 := ⟨_, rfl⟩
  have wk1 : IntKind.i64.wrap (1 + (k1 : Int)) = (K1 : Int) := by rw [IntWalk.i64_in _ (by omega)]; omega
  have HN1 := Lib.hid (fun u => newsender_any u K1 (by omega) (by omega))
  have HFX := Lib.hid (fun az => (FX.start (by omega) (by omega) (by omega) (by omega) : FX az 0 (fnew K1) (fnew K1)))
  clear hA1 hr hb hK1 hk1
  go_enter Try.func5, Try.ntmps5
  go_wp2_with (go_at_call 8; refine (HA1.out _).mono ?_; rintro e w' ⟨rfl, rfl⟩)
  refine (HN1.out w).mono ?_
  rintro e w1 ⟨p, F1, rfl, hst, f1, hn1⟩
  have HST := Lib.hid hst
  have HF1 := Lib.hid f1
  have HNW := Lib.hid hn1
  clear hst f1 hn1 wk1
  go_wp2_with fail
  refine (HN1.out w1).mono ?_
  rintro e w2 hnew
  obtain ⟨q, rfl, hd⟩ := duo_new HST.out HNW.out HF1.out hnew
  have HD := Lib.hid hd
  clear hd hnew HST HNW HN1 HF1
  go_wp2_with fail
  refine (HAC.out w2 HD.out.frame).mono ?_
  rintro e w3 ⟨az, oo, oc, rfl, haz, hok, hat, hf3, hno, hnv⟩
  have HOK := Lib.hid hok
  have HAT := Lib.hid hat
  have HD3 := Lib.hid (HD.out.grow (G' := actG oo az) hf3 (fun k hk => ⟨by
    rcases List.mem_append.1 hk with x | x
    · exact .inr (hno k x)
    · obtain ⟨a, ha, x⟩ := List.mem_flatMap.1 x
      exact .inr (hnv a ha k x), hat.lt k hk⟩))
  clear hok hat hf3 hno hnv HAC HD
  go_wp2_with fail
  go_loopw [9] (fun iv wr => ∃ (i : Nat) (s : FS), iv = .int .i64 (i : Int) ∧ i ≤ az.length ∧ FX az i s (fnew K1) ∧ ActsAt wr oo oc az ∧ Duo 58 58 w (actG oo az) p q s s wr) (fun iv _ => az.length - (intOf iv).toNat)
  case atStart => exact ⟨0, _, rfl, by omega, HFX.out az, HAT.out, HD3.out⟩
  case round =>
    clear HAT HD3
    obtain ⟨i, s, rfl, hi, hfx, hat, hd⟩ := hrel
    have HX := Lib.hid hfx
    have HAT := Lib.hid hat
    have HD := Lib.hid hd
    clear hfx hat hd
    by_cases hil : i < az.length
    · have hlt : (i : Int) < (az.length : Int) := by omega
      have wi : IntKind.i64.wrap ((i : Int) + 1) = (i : Int) + 1 := IntWalk.i64_in _ (by omega)
      obtain ⟨g, off, hoo, c0, c1, c2, c3⟩ := HAT.out.at hil
      have hao := HOK.out.2 _ (List.getElem_mem hil)
      have HSV := Lib.hid (HAT.out.views _ (List.getElem_mem hil))
      have HVG := Lib.hid (fun k (hk : k ∈ blk az[i].vo) => (List.mem_append_right _ (List.mem_flatMap.2 ⟨az[i], List.getElem_mem hil, hk⟩) : k ∈ actG oo az))
      have HS0 := Lib.hid (HX.out.ns i hil (Nat.le_refl _))
      have HX1 := Lib.hid (HX.out.put HOK.out hil)
      have HGS := Lib.hid HX.out.gs
      obtain ⟨a, ha⟩ : ∃ a, a = az[i] := ⟨_, rfl⟩
      rw [← ha] at c0 c1 c2 c3 hao HSV HVG HS0 HX1
      obtain ⟨t, ht⟩ : ∃ t, t = a.t := ⟨_, rfl⟩
      obtain ⟨v, hv⟩ : ∃ v, v = a.v := ⟨_, rfl⟩
      obtain ⟨vo, hvo⟩ : ∃ v, v = a.vo := ⟨_, rfl⟩
      obtain ⟨vc, hvc⟩ : ∃ v, v = a.vc := ⟨_, rfl⟩
      obtain ⟨f, hf⟩ : ∃ v, v = a.f := ⟨_, rfl⟩
      obtain ⟨ak, hak⟩ : ∃ v, v = a.k := ⟨_, rfl⟩
      have ht50 : t ≤ 50 := by have := hao.t; omega
      have HIV := Lib.hid hao.v
      have hvl := hao.l
      have hk0 := hao.k0
      have hk1 := hao.k1
      rw [← ht, ← hak] at hk1
      rw [← hak] at hk0
      rw [← hv] at HIV hvl
      rw [← ht] at c0 HS0 HX1
      rw [← hv] at HX1
      rw [← hv, ← hvo, ← hvc] at c1 HSV
      rw [← hvo] at HVG
      rw [← hf] at c2
      rw [← hak] at c3
      have HOO := Lib.hid hoo
      clear ha ht hv hvo hvc hf hak hao HX
      subst hoo
      go_upto_region 11 with fail
      obtain ⟨x, hx⟩ : ∃ x, x = wr.heap.size := ⟨_, rfl⟩
      obtain ⟨w4, hw4⟩ : ∃ u, u = wr.alloc (.cells #[.int .i64 (t : Int), .slice vo v.length vc, .int .i64 f, .int .i64 ak] 32) := ⟨_, rfl⟩
      rw [← hx, ← hw4]
      have HB4 := Lib.hid (blk_alloc hw4 hx)
      have hf4 := fr_alloc hw4
      have HAT4 := Lib.hid (HAT.out.same (fun k hk => hf4.block k (HAT.out.lt k hk) (by simp)))
      have HSV4 := Lib.hid (HSV.out.fr hf4 (by simp))
      have HD4 := Lib.hid (HD.out.grow (G' := x :: actG (some ⟨g, off, none⟩) az) hf4 (fun k hk => by
        rcases List.mem_cons.1 hk with q | q
        · rw [q]; exact ⟨.inr (by rw [hx]; exact Nat.le_refl _), lt_of_blk HB4.out⟩
        · exact ⟨.inl q, Nat.lt_of_lt_of_le (HD.out.gnew k q).2 hf4.size⟩))
      have d1 : w4.cell? ⟨x, 1, none⟩ = some (.slice vo v.length vc) := cell_blk HB4.out 1
      have hx4 : x < w4.heap.size := lt_of_blk HB4.out
      have HO := Lib.hid (Seg.one w4.heap.size #[] 48 2 0 (alloc_new w4 (.cells #[] 48)) rfl (by unfold maxLen; omega))
      have HN := Lib.hid (HSV4.out.alloc (.cells #[] 48)).rd
      clear hx hw4 hf4 c0 c1 c2 c3 hlt
      go_upto_region 12 with (at_builtin; refine wpList_append_rd rfl _ _ 30 rfl 48 ic _ 2 16 Try.underlying30 hic hz0 hz1 hz2 rfl (by decide) (some ⟨w4.heap.size, 0, none⟩) 0 0 [] rfl HO.out vo v.length vc (v.flatMap clV) rfl HN.out (cells_one1 v) (by unfold maxLen; omega) (by omega) ?_; intro o2 k2 w5 hs5 hf5 hx5)
      rw [Nat.zero_add, List.nil_append] at hs5
      have HF5 := Lib.hid (((Fr.refl [] w4).alloc _).trans hf5 (fun k hk => .inr (by simp [blk] at hk; omega)))
      have HX5 := Lib.hid (fun k (hk : k ∈ blk o2) => (by
        rcases hx5 k hk with h | h
        · simp [blk] at h; omega
        · simp at h; omega : w4.heap.size ≤ k))
      have HOS5 := Lib.hid hs5
      clear hs5 hf5 hx5 HO HN d1 hx4
      have HB5 := Lib.hid (HF5.out.blk HB4.out (by simp))
      have HD5 := Lib.hid (HD4.out.grow (G' := blk o2 ++ (x :: actG (some ⟨g, off, none⟩) az)) HF5.out (fun k hk => by
        rcases List.mem_append.1 hk with q | q
        · exact ⟨.inr (HX5.out k q), HOS5.out.lt k q⟩
        · exact ⟨.inl q, Nat.lt_of_lt_of_le (HD4.out.gnew k q).2 HF5.out.size⟩))
      have HAT5 := Lib.hid (HAT4.out.same (fun k hk => HF5.out.block k (HAT4.out.lt k hk) (by simp)))
      have HSV5 := Lib.hid (HSV4.out.fr HF5.out (by simp))
      have HXO := Lib.hid (fun h => by have := HX5.out x h; have := lt_of_blk HB4.out; omega : x ∉ blk o2)
      have HAO := Lib.hid (fun k (hk : k ∈ actG (some ⟨g, off, none⟩) az) h => by have := HX5.out k h; have := HAT4.out.lt k hk; omega : ∀ k ∈ actG (some ⟨g, off, none⟩) az, k ∉ blk o2)
      clear HSV4 HD4 HAT4 HSV HB4 HF5
      have d0 : w5.cell? ⟨x, 0, none⟩ = some (.int .i64 (t : Int)) := cell_blk HB5.out 0
      have d1 : w5.cell? ⟨x, 1, none⟩ = some (.slice vo v.length vc) := cell_blk HB5.out 1
      obtain ⟨B, hB⟩ : ∃ B, B = enc (varN t ++ varN s.ref ++ diffL s.base v) := ⟨_, rfl⟩
      have HBQ := Lib.hid hB
      clear hB
      have HSD := Lib.hid (duo_send HD5.out HGS.out t HS0.out (by omega) vo vc v HSV5.out HIV.out hvl)
      go_wp2_with fail
      refine HSD.out.mono ?_
      rintro e w6 ⟨po, pc, n, rfl, hnl, hp, hd, hk, hz⟩
      rw [← HBQ.out] at hnl
      subst hnl
      have HP := Lib.hid hp
      have HD6 := Lib.hid hd
      have hb6 := (hk x (by simp)).trans HB5.out
      have HAT6 := Lib.hid (HAT5.out.same (fun k hk2 => hk k (List.mem_append_right _ (List.mem_cons_of_mem _ hk2))))
      have HOS6 := Lib.hid (hk.seg HOS5.out (fun k hk2 => List.mem_append_left _ hk2))
      have HB6 := Lib.hid hb6
      clear hp hd hk hz hb6 d0 d1 HSD HD5 HAT5 HOS5
      have d0 : w6.cell? ⟨x, 0, none⟩ = some (.int .i64 (t : Int)) := cell_blk HB6.out 0
      have HSD := Lib.hid (duo_send HD6.out.swap HGS.out t HS0.out (by omega) o2 k2 v HOS6.out HIV.out hvl)
      go_wp2_with fail
      refine HSD.out.mono ?_
      rintro e w7 ⟨ro, rc, n, rfl, hnl, hp, hd, hk, hz⟩
      rw [← HBQ.out] at hnl
      subst hnl
      have hs1 := (hk.pkt HP.out (fun k hk2 => List.mem_append_left _ hk2)).seg
      have hs2 := hp.seg
      rw [← HBQ.out] at hs1 hs2
      have q1 := conv_str (c := pc) hs1.rd
      have q2 := conv_str (c := rc) hs2.rd
      obtain ⟨Z, hZ⟩ : ∃ Z, Z = strN B := ⟨_, rfl⟩
      rw [← hZ] at q1 q2
      have HR7 := Lib.hid hs2
      have HD7 := Lib.hid hd.swap
      have HB7 := Lib.hid ((hk x (by simp)).trans HB6.out)
      have HAT7 := Lib.hid (HAT6.out.same (fun k hk2 => hk k (List.mem_append_right _ (List.mem_append_right _ (List.mem_cons_of_mem _ hk2)))))
      have HOS7 := Lib.hid (hk.seg HOS6.out (fun k hk2 => List.mem_append_right _ (List.mem_append_left _ hk2)))
      have HRB := Lib.hid (hs2.disj HOS7.out (by decide))
      have HAR := Lib.hid (fun k (hk2 : k ∈ x :: actG (some ⟨g, off, none⟩) az) => (by
        rcases List.mem_cons.1 hk2 with z | z
        · rw [z]; exact hs2.ne_type HB7.out (by decide)
        rcases List.mem_append.1 z with z | z
        · exact HAT7.out.seg.disj hs2 (by decide) k z
        · obtain ⟨a, ha, z⟩ := List.mem_flatMap.1 z
          exact (HAT7.out.views a ha).disj hs2 (by decide) k z : k ∉ blk ro))
      clear hp hd hk hz d0 hs1 hs2 hZ HSD HP HAT6 HOS6 HD6 HB6
      go_wp2_with fail
      go_loopw [16] (fun nv u => ∃ (n : Nat) (ys : List Value), nv = .int .i64 (n : Int) ∧ n ≤ v.length ∧ Seg u 48 2 o2 v.length k2 ys ∧ Fr (blk o2) w7 u) (fun nv _ => v.length - (intOf nv).toNat)
      case atStart => exact ⟨0, _, rfl, by omega, HOS7.out, Fr.refl _ _⟩
      case round =>
        obtain ⟨n, ys, rfl, hn, hys, hfu⟩ := hrel
        by_cases hnv : n < v.length
        · have hlt : (n : Int) < (v.length : Int) := by omega
          have wn : IntKind.i64.wrap ((n : Int) + 1) = (n : Int) + 1 := IntWalk.i64_in _ (by omega)
          obtain ⟨g2, off2, cur, rfl, hg2, -, hc2, hz2⟩ := hys.at (by have := hys.2.2.1; omega)
          have e1 := hc2 (n * 2 + 1) (by omega)
          have e2 := hz2 (off2 + n * 2 + 1)
          obtain ⟨vv, hvv⟩ : ∃ vv, ys[n * 2 + 1]? = some vv := ⟨_, List.getElem?_eq_getElem (by rw [hys.1]; omega)⟩
          rw [← Nat.add_assoc, hvv] at e1
          clear hvv
          have HYS := Lib.hid (Nat.add_assoc off2 (n * 2) 1 ▸ hys.store (i := n * 2 + 1) (by omega) (.int .i64 77))
          have HFU := Lib.hid (hfu.setCell (p := ⟨g2, off2 + n * 2 + 1, none⟩) (.inl (by simp [blk])) (.int .i64 77))
          clear hys hfu hc2 hz2 hg2 q1 q2
          go_wp2_with fail
          go_roundw
          case rel => exact ⟨n + 1, _, by go_num, by omega, HYS.out, HFU.out⟩
          case measure => simp [intOf]; omega
        · have hlt : ¬ (n : Int) < (v.length : Int) := by omega
          obtain ⟨w8, rfl⟩ : ∃ u : World, u = wr := ⟨_, rfl⟩
          have HFA := Lib.hid hfu
          clear hys hfu q1 q2
          go_wp2_with fail
          have HR8 := Lib.hid (HR7.out.fr HFA.out HRB.out)
          go_loopw [17] (fun nv u2 => ∃ (n : Nat) (ys : List Value), nv = .int .i64 (n : Int) ∧ n ≤ B.length ∧ Seg u2 5 1 ro B.length rc ys ∧ Fr (blk ro) w8 u2) (fun nv _ => B.length - (intOf nv).toNat)
          case atStart => exact ⟨0, _, rfl, by omega, HR8.out, Fr.refl _ _⟩
          case round =>
            obtain ⟨m, zs, rfl, hm, hzs, hfu⟩ := hrel
            by_cases hmb : m < B.length
            · have hlt2 : (m : Int) < (B.length : Int) := by omega
              have wm : IntKind.i64.wrap ((m : Int) + 1) = (m : Int) + 1 := IntWalk.i64_in _ (by have := hzs.2.1; have := hzs.2.2.1; unfold maxLen at *; omega)
              obtain ⟨g2, off2, cur, rfl, hg2, -, hc2, hz2⟩ := hzs.at (by have := hzs.2.2.1; omega)
              have e1 := hc2 m (by omega)
              have e2 := hz2 (off2 + m)
              obtain ⟨vv, hvv⟩ : ∃ vv, zs[m]? = some vv := ⟨_, List.getElem?_eq_getElem (by rw [hzs.1]; omega)⟩
              rw [hvv] at e1
              have HYS := Lib.hid (hzs.store (i := m) (by omega) (.int .u8 0))
              have HFU := Lib.hid (hfu.setCell (p := ⟨g2, off2 + m, none⟩) (.inl (by simp [blk])) (.int .u8 0))
              clear hzs hfu hc2 hz2 hg2 hvv
              go_wp2_with fail
              go_roundw
              case rel => exact ⟨m + 1, _, by go_num, by omega, HYS.out, HFU.out⟩
              case measure => simp [intOf]; omega
            · have hlt2 : ¬ (m : Int) < (B.length : Int) := by omega
              have HFB := Lib.hid hfu
              clear hzs hfu
              obtain ⟨w9, rfl⟩ : ∃ u : World, u = wr := ⟨_, rfl⟩
              have HD9 := Lib.hid ((HD7.out.own HFA.out (fun k hk => List.mem_append_right _ (List.mem_append_right _ (List.mem_append_left _ hk))) (fun k hk => ⟨.inl hk, Nat.lt_of_lt_of_le (HD7.out.gnew k hk).2 HFA.out.size⟩)).own HFB.out (G' := x :: actG (some ⟨g, off, none⟩) az) (fun k hk => List.mem_append_left _ hk) (fun k hk => ⟨.inl (List.mem_append_right _ (List.mem_append_right _ (List.mem_append_right _ hk))), Nat.lt_of_lt_of_le (HD7.out.gnew k (List.mem_append_right _ (List.mem_append_right _ (List.mem_append_right _ hk)))).2 (Nat.le_trans HFA.out.size HFB.out.size)⟩))
              have HAT9 := Lib.hid (HAT7.out.same (fun k hk => (HFB.out.block k (Nat.lt_of_lt_of_le (HAT7.out.lt k hk) HFA.out.size) (fun h => HAR.out k (List.mem_cons_of_mem _ hk) h)).trans (HFA.out.block k (HAT7.out.lt k hk) (HAO.out k hk))))
              have HB9 := Lib.hid (HFB.out.blk (HFA.out.blk HB7.out HXO.out) (HAR.out x (by simp)))
              have d3 : w9.cell? ⟨x, 3, none⟩ = some (.int .i64 ak) := cell_blk HB9.out 3
              have hkf : MV.fits ak := by unfold MV.fits; omega
              have HKF := Lib.hid hkf
              clear hkf
              by_cases hak0 : 0 ≤ ak
              · go_wp2_with fail
                refine (duo_ack HD9.out HX1.out.gs ak HKF.out).mono ?_
                rintro e wa ⟨rfl, hda, hka⟩
                have HDA := Lib.hid hda
                have HBA := Lib.hid ((hka x (by simp)).trans HB9.out)
                have HATA := Lib.hid (HAT9.out.same (fun k hk2 => hka k (List.mem_cons_of_mem _ hk2)))
                clear hda hka d3
                have d3 : wa.cell? ⟨x, 3, none⟩ = some (.int .i64 ak) := cell_blk HBA.out 3
                go_wp2_with fail
                refine (duo_ack HDA.out.swap HX1.out.gs ak HKF.out).mono ?_
                rintro e wb ⟨rfl, hdb, hkb⟩
                have HDB := Lib.hid (hdb.swap.sub (G' := actG (some ⟨g, off, none⟩) az) (fun k hk2 => List.mem_cons_of_mem _ hk2))
                have HATB := Lib.hid (HATA.out.same (fun k hk2 => hkb k (List.mem_cons_of_mem _ hk2)))
                clear hdb hkb d3
                go_wp2_with fail
                go_roundw
                case rel => exact ⟨i + 1, _, by go_num, by omega, HX1.out.ack ak, HATB.out, HDB.out⟩
                case measure => simp [intOf]; omega
              · go_wp2_with fail
                go_roundw
                case rel => exact ⟨i + 1, _, by go_num, by omega, HX1.out, HAT9.out, HD9.out.sub (fun k hk2 => List.mem_cons_of_mem _ hk2)⟩
                case measure => simp [intOf]; omega
    · have hlt : ¬ (i : Int) < (az.length : Int) := by omega
      go_wp2_with fail
      refine (lives30_any _).mono ?_
      rintro e wL ⟨rfl, fL⟩
      have HL := Lib.hid (HD.out.frame.trans fL (by simp [Ext]))
      clear fL
      go_wp2_with fail
      go_ret
      exact ⟨rfl, HL.out⟩
end Go.Proofs.Ytodfeaipoagphaa
