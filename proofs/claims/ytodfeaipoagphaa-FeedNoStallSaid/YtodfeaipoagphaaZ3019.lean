/- FNoP, FNoStall (merged by merge.py). -/
import Derived.Test.YtodfeaipoagphaaZ3014
/- FeedNoStall, plain: a view that is acknowledged and stored is still kept by the receiver. -/
namespace Go.Proofs.Ytodfeaipoagphaa

def lastk (k : Nat) (l : List Int) : List Int := l.drop (l.length - k)
theorem lastk_put {k : Nat} (hk : 1 ≤ k) (l : List Int) (t : Int) : (lastk k l ++ [t]).drop ((lastk k l).length + 1 - k) = lastk k (l ++ [t]) := by
  unfold lastk
  rw [List.length_drop, List.length_append, List.length_singleton]
  by_cases h : l.length < k
  · have e0 : l.length - k = 0 := by omega
    rw [e0, List.drop_zero, Nat.sub_zero]
  · rw [List.drop_append_of_le_length (by rw [List.length_drop]; omega), List.drop_drop, List.drop_append_of_le_length (by omega)]
    have e1 : l.length - k + (l.length - (l.length - k) + 1 - k) = l.length + 1 - k := by omega
    rw [e1]
theorem lastk_keep {k : Nat} {T st : List Int} (hT : T.Pairwise (· < ·)) (hs : st.Sublist T) {x : Int} (h1 : x ∈ lastk k T) (h2 : x ∈ st) : x ∈ lastk k st := by
  unfold lastk at h1
  have hsp : st.Sublist (T.take (T.length - k) ++ T.drop (T.length - k)) := by rw [List.take_append_drop]; exact hs
  obtain ⟨s1, s2, rfl, ha, hb⟩ := List.sublist_append_iff.1 hsp
  have hlen : (T.drop (T.length - k)).length ≤ k := by rw [List.length_drop]; omega
  have hno : x ∉ s1 := fun h => by
    have hp := hT
    rw [← List.take_append_drop (T.length - k) T, List.pairwise_append] at hp
    have := hp.2.2 x (ha.subset h) x h1
    omega
  have hx2 : x ∈ s2 := (List.mem_append.1 h2).resolve_left hno
  have hl := hb.length_le
  unfold lastk
  rw [List.length_append, List.drop_append_of_le_length (by omega)]
  exact List.mem_append_right _ hx2
def ticks (s : FS) : List Int := s.L.map (·.tick)
theorem ticks_put {s : FS} (hk : 1 ≤ s.keep) {T : List Int} (h : ticks s = lastk s.keep T) (t : Int) (v : List (Int × Int)) : ticks (s.put t v) = lastk s.keep (T ++ [t]) := by
  have hl : s.L.length = (lastk s.keep T).length := by rw [← h]; simp [ticks]
  show ((s.L ++ ([⟨t, v, false⟩] : List FE)).drop (s.L.length + 1 - s.keep)).map (·.tick) = _
  rw [List.map_drop, List.map_append, hl, ← lastk_put hk]
  show (ticks s ++ [t]).drop _ = _
  rw [h]
theorem ticks_ack (s : FS) (t : Int) : ticks (s.ack t) = ticks s := by
  show (s.L.map _).map _ = s.L.map _
  rw [List.map_map]
  refine List.map_congr_left fun e _ => ?_
  show (if e.tick = t then (⟨e.tick, e.view, true⟩ : FE) else e).tick = e.tick
  split <;> rfl
def tk (az : List AC) (i : Nat) : List Int := (az.take i).map fun a => (a.t : Int)
theorem tk_succ {az : List AC} {i : Nat} (hi : i < az.length) : tk az (i + 1) = tk az i ++ [(az[i].t : Int)] := by
  unfold tk
  rw [List.take_succ_eq_append_getElem hi, List.map_append]; rfl
theorem tk_rise {az : List AC} {T : Int} (hok : ActsOk T az) (i : Nat) : (tk az i).Pairwise (· < ·) := by
  unfold tk
  rw [List.pairwise_map]
  exact (hok.1.sublist (List.take_sublist _ _)).imp fun h => by omega

/-- sender and receiver that keep equally many views, and the ticks that the receiver has stored -/
structure NS (az : List AC) (i k : Nat) (s r : FS) (st : List Int) : Prop where
  x : FX az i s r
  ks : s.keep = k
  kr : r.keep = k
  ts : ticks s = lastk k (tk az i)
  tr : ticks r = lastk k st
  sub : st.Sublist (tk az i)
  ack : ∀ e ∈ s.L, e.acked = true → e.tick ∈ st
  len : st.length ≤ i
section
variable {az : List AC} {i k : Nat} {s r : FS} {st : List Int}
theorem NS.start (h0 : 1 ≤ k) (h1 : k ≤ 64) : NS az 0 k (fnew k) (fnew k) [] :=
  ⟨FX.start h0 h1 h0 h1, rfl, rfl, by simp [ticks, fnew, lastk, tk], by simp [ticks, fnew, lastk], by simp [tk], by simp [fnew], by simp⟩
theorem NS.base (h : NS az i k s r st) (hok : ActsOk 50 az) : (s.ref = 0 ∧ s.base = []) ∨ ∃ e ∈ r.L, e.tick + 1 = (s.ref : Int) ∧ s.base = e.view := by
  rcases h.x.base hok with ⟨h0, hno⟩ | hb
  · exfalso
    obtain ⟨e, he, ha, h3, -⟩ := h.x.gs.ref.2.2 h0
    have h1 : e.tick ∈ ticks s := List.mem_map_of_mem he
    rw [h.ts] at h1
    have h2 := lastk_keep (tk_rise hok i) h.sub h1 (h.ack e he ha)
    rw [← h.tr] at h2
    obtain ⟨e', he', h4⟩ := List.mem_map.1 h2
    exact hno e' he' (by rw [← h3]; simpa using h4)
  · exact hb
theorem put_acked {s : FS} {t : Int} {v : List (Int × Int)} {e : FE} (he : e ∈ (s.put t v).L) (ha : e.acked = true) : e ∈ s.L := by
  unfold FS.put at he
  have := List.mem_of_mem_drop he
  rcases List.mem_append.1 this with q | q
  · exact q
  · simp at q; rw [q] at ha; cases ha
theorem NS.put1 (h : NS az i k s r st) (hok : ActsOk 50 az) (hi : i < az.length) : NS az (i + 1) k (s.put (az[i].t : Int) az[i].v) r st :=
  ⟨h.x.put hok hi, h.ks, h.kr, by rw [tk_succ hi, ← h.ks]; exact ticks_put h.x.gs.k0 (by rw [h.ks]; exact h.ts) _ _, h.tr, by rw [tk_succ hi]; exact h.sub.trans (List.sublist_append_left _ _), fun e he ha => h.ack e (put_acked he ha) ha, by have := h.len; omega⟩
theorem NS.put2 (h : NS az i k s r st) (hok : ActsOk 50 az) (hi : i < az.length) : NS az (i + 1) k (s.put (az[i].t : Int) az[i].v) (r.put (az[i].t : Int) az[i].v) (st ++ [(az[i].t : Int)]) :=
  have h1 := h.put1 hok hi
  ⟨h.x.put2 hok hi, h.ks, h.kr, h1.ts, by rw [← h.kr]; exact ticks_put h.x.gr.k0 (by rw [h.kr]; exact h.tr) _ _, by rw [tk_succ hi]; exact h.sub.append (List.Sublist.refl _), fun e he ha => List.mem_append_left _ (h1.ack e he ha), by rw [List.length_append, List.length_singleton]; have := h.len; omega⟩
theorem NS.ackd (h : NS az i k s r st) {t : Int} (ht : t ∈ st) : NS az i k (s.ack t) r st :=
  ⟨h.x.ack t, h.ks, h.kr, by rw [ticks_ack]; exact h.ts, h.tr, h.sub, fun e he ha => by
    unfold FS.ack at he
    obtain ⟨x, hx, rfl⟩ := List.mem_map.1 he
    by_cases hxt : x.tick = t
    · rw [if_pos hxt]; show x.tick ∈ st; rw [hxt]; exact ht
    · rw [if_neg hxt] at ha ⊢; exact h.ack x hx ha, h.len⟩
end
end Go.Proofs.Ytodfeaipoagphaa
/- FeedNoStall returns true. -/
namespace Go.Proofs.Ytodfeaipoagphaa
open Go.RowKit

def NSt (w : World) (az : List AC) (oo : Option Addr) (oc p q K : Nat) (sv iv : Value) (wr : World) : Prop :=
  ∃ (i : Nat) (s r : FS) (st : List Int) (so : Option Addr) (sc : Nat), (iv = .int .i64 (i : Int) ∧ sv = .slice so st.length sc) ∧ i ≤ az.length ∧ NS az i K s r st ∧ ActsAt wr oo oc az ∧ Seg wr 3 1 so st.length sc (ints st) ∧ Duo 58 59 w (blk so ++ actG oo az) p q s r wr

set_option maxRecDepth 100000 in
set_option maxHeartbeats 16000000 in
theorem fnostall_walk (w : World) (keep : Int) (hkb : bounded keep) (lo : Option Addr) (lc : Nat) (l : List Int) (hr : Rd w 1 lo l.length (ints l)) (hb : ∀ x ∈ l, bounded x) :
    Calls Try.prog 3 #[.int .i64 keep, .slice lo l.length lc] w fun e w' => e = .returned (.bool true) ∧ Fr [] w w' := by
  obtain ⟨k1, hk1, -, hA1⟩ := around_nat keep 6 hkb (by omega) (by omega)
  obtain ⟨ii, hii, hz0, hz1, hz2⟩ := info_parts infoInt30
  have HA1 := Lib.hid hA1
  have HAC := Lib.hid (fun u (hu : Fr [] w u) => acts_any u lo lc l (hr.fr hu (by simp)) hb)
  obtain ⟨K1, hK1⟩ : ∃ K, K = 1 + k1 := ⟨_, rfl⟩
  have wk1 : IntKind.i64.wrap (1 + (k1 : Int)) = (K1 : Int) := by rw [IntWalk.i64_in _ (by omega)]; omega
  have HN1 := Lib.hid (fun u => newsender_any u K1 (by omega) (by omega))
  have HN2 := Lib.hid (fun u => newreceiver_any u K1 (by omega) (by omega))
  have HNS := Lib.hid (fun az => (NS.start (by omega) (by omega) : NS az 0 K1 (fnew K1) (fnew K1) []))
  clear hA1 hr hb hK1 hk1
  go_enter Try.func3, Try.ntmps3
  go_wp2_with (go_at_call 8; refine (HA1.out _).mono ?_; rintro e w' ⟨rfl, rfl⟩)
  refine (HN1.out w).mono ?_
  rintro e w1 ⟨p, F1, rfl, hst, f1, hn1⟩
  have HST := Lib.hid hst
  have HF1 := Lib.hid f1
  have HNW := Lib.hid hn1
  clear hst f1 hn1 HN1 wk1
  go_wp2_with fail
  refine (HN2.out w1).mono ?_
  rintro e w2 hnew
  obtain ⟨q, rfl, hd⟩ := duo_new HST.out HNW.out HF1.out hnew
  have HD := Lib.hid hd
  clear hd hnew HST HNW HN2 HF1
  go_wp2_with fail
  refine (HAC.out w2 HD.out.frame).mono ?_
  rintro e w3 ⟨az, oo, oc, rfl, haz, hok, hat, hf3, hno, hnv⟩
  have HOK := Lib.hid hok
  have HAT := Lib.hid hat
  have HD3 := Lib.hid (HD.out.grow (G' := blk none ++ actG oo az) hf3 (fun k hk => ⟨by
    rcases List.mem_append.1 hk with x | x
    · simp [blk] at x
    rcases List.mem_append.1 x with x | x
    · exact .inr (hno k x)
    · obtain ⟨a, ha, x⟩ := List.mem_flatMap.1 x
      exact .inr (hnv a ha k x), hat.lt k (by simpa [blk] using hk)⟩))
  clear hok hat hf3 hno hnv HAC HD
  go_wp2_with fail
  go_loopw [9, 10] (fun sv iv wr => NSt w az oo oc p q K1 sv iv wr) (fun _ iv _ => az.length - (intOf iv).toNat)
  case atStart => exact ⟨0, _, _, [], none, 0, ⟨rfl, rfl⟩, by omega, HNS.out az, HAT.out, Seg.nil _ _ _, HD3.out⟩
  case round =>
    clear HAT HD3
    obtain ⟨i, s, r, st, so, sc, ⟨rfl, rfl⟩, hi, hns, hat, hss, hd⟩ := hrel
    have HX := Lib.hid hns
    have HAT := Lib.hid hat
    have HSS := Lib.hid hss
    have HD := Lib.hid hd
    have hstl := hns.len
    have hst14 : st.length ≤ 14 := by omega
    clear hns hat hss hd hstl
    by_cases hil : i < az.length
    · have hlt : (i : Int) < (az.length : Int) := by omega
      have wi : IntKind.i64.wrap ((i : Int) + 1) = (i : Int) + 1 := IntWalk.i64_in _ (by omega)
      obtain ⟨g, off, hoo, c0, c1, c2, c3⟩ := HAT.out.at hil
      have hao := HOK.out.2 _ (List.getElem_mem hil)
      have HSV := Lib.hid (HAT.out.views _ (List.getElem_mem hil))
      have HVG := Lib.hid (fun k (hk : k ∈ blk az[i].vo) => (List.mem_append_right _ (List.mem_flatMap.2 ⟨az[i], List.getElem_mem hil, hk⟩) : k ∈ actG oo az))
      have HS0 := Lib.hid (HX.out.x.ns i hil (Nat.le_refl _))
      have HR0 := Lib.hid (HX.out.x.nr i hil (Nat.le_refl _))
      have HX1 := Lib.hid (HX.out.put1 HOK.out hil)
      have HX2 := Lib.hid (HX.out.put2 HOK.out hil)
      have HBS := Lib.hid (HX.out.base HOK.out)
      have HGS := Lib.hid HX.out.x.gs
      have HGR := Lib.hid HX.out.x.gr
      obtain ⟨a, ha⟩ : ∃ a, a = az[i] := ⟨_, rfl⟩
      rw [← ha] at c0 c1 c2 c3 hao HSV HVG HS0 HR0 HX1 HX2
      obtain ⟨t, ht⟩ : ∃ t, t = a.t := ⟨_, rfl⟩
      obtain ⟨v, hv⟩ : ∃ v, v = a.v := ⟨_, rfl⟩
      obtain ⟨vo, hvo⟩ : ∃ v, v = a.vo := ⟨_, rfl⟩
      obtain ⟨vc, hvc⟩ : ∃ v, v = a.vc := ⟨_, rfl⟩
      obtain ⟨f, hf⟩ : ∃ v, v = a.f := ⟨_, rfl⟩
      obtain ⟨ak, hak⟩ : ∃ v, v = a.k := ⟨_, rfl⟩
      have ht50 : t ≤ 50 := by have := hao.t; omega
      have HIV := Lib.hid hao.v
      have hvl := hao.l
      have hk0 := hao.k0
      have hk1 := hao.k1
      rw [← ht, ← hak] at hk1
      rw [← hak] at hk0
      rw [← hv] at HIV hvl
      rw [← ht] at c0 HS0 HR0 HX1 HX2
      rw [← hv] at HX1 HX2
      rw [← hv, ← hvo, ← hvc] at c1 HSV
      rw [← hvo] at HVG
      rw [← hf] at c2
      rw [← hak] at c3
      have HOO := Lib.hid hoo
      clear ha ht hv hvo hvc hf hak hao HX
      subst hoo
      go_upto_region 12 with fail
      obtain ⟨x, hx⟩ : ∃ x, x = wr.heap.size := ⟨_, rfl⟩
      obtain ⟨w4, hw4⟩ : ∃ u, u = wr.alloc (.cells #[.int .i64 (t : Int), .slice vo v.length vc, .int .i64 f, .int .i64 ak] 32) := ⟨_, rfl⟩
      rw [← hx, ← hw4]
      have HB4 := Lib.hid (blk_alloc hw4 hx)
      have hf4 := fr_alloc hw4
      have HAT4 := Lib.hid (HAT.out.same (fun k hk => hf4.block k (HAT.out.lt k hk) (by simp)))
      have HSV4 := Lib.hid (HSV.out.fr hf4 (by simp))
      have HD4 := Lib.hid (HD.out.grow (G' := x :: (blk so ++ actG (some ⟨g, off, none⟩) az)) hf4 (fun k hk => by
        rcases List.mem_cons.1 hk with q | q
        · rw [q]; exact ⟨.inr (by rw [hx]; exact Nat.le_refl _), lt_of_blk HB4.out⟩
        · exact ⟨.inl q, Nat.lt_of_lt_of_le (HD.out.gnew k q).2 hf4.size⟩))
      have HSS4 := Lib.hid (HSS.out.fr hf4 (by simp))
      have d0 : w4.cell? ⟨x, 0, none⟩ = some (.int .i64 (t : Int)) := cell_blk HB4.out 0
      have d1 : w4.cell? ⟨x, 1, none⟩ = some (.slice vo v.length vc) := cell_blk HB4.out 1
      have HSD := Lib.hid (duo_send HD4.out HGS.out t HS0.out (by omega) vo vc v HSV4.out HIV.out hvl)
      clear hx hw4 hf4 c0 c1 c2 c3 hlt
      go_wp2_with fail
      refine HSD.out.mono ?_
      rintro e w5 ⟨po, pc, n, rfl, hnl, hp, hd, hk, hz⟩
      have HP := Lib.hid hp
      have HNL := Lib.hid hnl
      have HD5 := Lib.hid hd
      have hb5 := (hk x (by simp)).trans HB4.out
      have HAT5 := Lib.hid (HAT4.out.same (fun k hk2 => hk k (List.mem_cons_of_mem _ (List.mem_append_right _ hk2))))
      have HSV5 := Lib.hid (hk.seg HSV4.out (fun k hk2 => List.mem_cons_of_mem _ (List.mem_append_right _ (HVG.out k hk2))))
      have HSS5 := Lib.hid (hk.seg HSS4.out (fun k hk2 => List.mem_cons_of_mem _ (List.mem_append_left _ hk2)))
      have HGI := Lib.hid (fun k (hk2 : k ∈ x :: (blk so ++ actG (some ⟨g, off, none⟩) az)) => (List.mem_append_right _ hk2 : k ∈ blk po ++ (x :: (blk so ++ actG (some ⟨g, off, none⟩) az))))
      have e2 : w5.cell? ⟨x, 2, none⟩ = some (.int .i64 f) := cell_blk hb5 2
      have HB5 := Lib.hid hb5
      clear hnl hp hd hk hz hb5 d0 d1 HSD
      have HXS := Lib.hid (HSS5.out.ne_type HB5.out (by decide))
      go_upto_if 54 with fail
      go_cut [9] (fun sv wc => ∃ (r' : FS) (st' : List Int) (so' : Option Addr) (sc' : Nat), sv = .slice so' st'.length sc' ∧ NS az (i + 1) K1 (s.put (t : Int) v) r' st' ∧ Duo 58 59 w (x :: (blk so' ++ actG (some ⟨g, off, none⟩) az)) p q (s.put (t : Int) v) r' wc ∧ wc.heap[x]? = some (.cells #[.int .i64 (t : Int), .slice vo v.length vc, .int .i64 f, .int .i64 ak] 32 (0, 0)) ∧ ActsAt wc (some ⟨g, off, none⟩) oc az ∧ Seg wc 3 1 so' st'.length sc' (ints st'))
      case first =>
        by_cases hfp : 0 < f
        · have HRC := Lib.hid (duo_recv HD5.out HGR.out po pc t s.ref n (diffL s.base v) HNL.out HP.out HR0.out s.base v HBS.out (apply_diff HGS.out.base.1 HIV.out (by have := HGS.out.base.2; omega) (by omega)) hvl)
          go_wp2_with fail
          refine HRC.out.mono ?_
          rintro e w6 ⟨rfl, hd6, hk6⟩
          have HD6 := Lib.hid hd6
          have hb6 := (hk6 x (by simp)).trans HB5.out
          have HAT6 := Lib.hid (HAT5.out.same (fun k hk2 => hk6 k (HGI.out k (List.mem_cons_of_mem _ (List.mem_append_right _ hk2)))))
          have HSS6 := Lib.hid (hk6.seg HSS5.out (fun k hk2 => HGI.out k (List.mem_cons_of_mem _ (List.mem_append_left _ hk2))))
          have HB6 := Lib.hid hb6
          have d6 : w6.cell? ⟨x, 0, none⟩ = some (.int .i64 (t : Int)) := cell_blk hb6 0
          have hxx : ((t : Int) != (t : Int)) = false := by simp
          clear hd6 hk6 hb6 HRC e2
          go_wp2_with (at_builtin; refine wpList_append_seg rfl _ _ 22 rfl 3 ii _ 1 8 Try.underlying22 hii hz0 hz1 hz2 rfl (by decide) so st.length sc (ints st) rfl (HSS6.out.alloc _) ⟨w6.heap.size, 0, none⟩ 1 1 [.int .i64 (t : Int)] rfl rfl (new_arr w6 #[.int .i64 (t : Int)] _) (by simp [Value.oneCell']) (by unfold maxLen; omega) (by omega) ?_; intro so' sc' w7 hs7 hf7 hx7)
          have HS7 := Lib.hid hs7
          have HF7 := Lib.hid (((Fr.refl (blk so) w6).alloc _).trans hf7 (Ext.refl _ _))
          have HX7 := Lib.hid (fun k (hk : k ∈ blk so') => (by
            rcases hx7 k hk with h | h
            · exact .inl h
            · exact .inr (Nat.le_trans ((Fr.refl [] w6).alloc _).size h) : k ∈ blk so ∨ w6.heap.size ≤ k))
          clear hs7 hf7 hx7
          go_meet
          refine ⟨_, st ++ [(t : Int)], so', sc', by simp, HX2.out, (HD6.out.own HF7.out (fun k hk => HGI.out k (List.mem_cons_of_mem _ (List.mem_append_left _ hk))) (fun k hk => ?_)), HF7.out.blk HB6.out HXS.out, HAT6.out.fr HF7.out (HAT6.out.seg.disj HSS6.out (by decide)) (fun a ha => (HAT6.out.views a ha).disj HSS6.out (by decide)), by rw [ints_append, List.length_append]; exact HS7.out⟩
          rcases List.mem_cons.1 hk with q | q
          · rw [q]; exact ⟨.inl (HGI.out x (by simp)), Nat.lt_of_lt_of_le (lt_of_blk HB6.out) HF7.out.size⟩
          rcases List.mem_append.1 q with q | q
          · exact ⟨(HX7.out k q).imp (fun h => HGI.out k (List.mem_cons_of_mem _ (List.mem_append_left _ h))) id, HS7.out.lt k q⟩
          · exact ⟨.inl (HGI.out k (List.mem_cons_of_mem _ (List.mem_append_right _ q))), Nat.lt_of_lt_of_le (HAT6.out.lt k q) HF7.out.size⟩
        · go_wp2_with fail
          go_meet
          exact ⟨r, st, so, sc, rfl, HX1.out, HD5.out.sub HGI.out, HB5.out, HAT5.out, HSS5.out⟩
      case rest =>
        obtain ⟨w6, rfl⟩ : ∃ u : World, u = wc := ⟨_, rfl⟩
        obtain ⟨r', st', so', sc', rfl, hfx, hd, hb6, hat, hss⟩ := hcut
        have HFX := Lib.hid hfx
        have HD6 := Lib.hid (hd.sub (G' := blk so' ++ actG (some ⟨g, off, none⟩) az) (fun k hk => List.mem_cons_of_mem _ hk))
        have HAT6 := Lib.hid hat
        have HSS6 := Lib.hid hss
        have d3 : w6.cell? ⟨x, 3, none⟩ = some (.int .i64 ak) := cell_blk hb6 3
        have HAK := Lib.hid (by
          have h := duo_ack HD6.out HFX.out.x.gs ak (by unfold MV.fits; omega)
          exact h)
        have HHN := Lib.hid (hasn_any w6 so' sc' st' ak hss.rd)
        clear hfx hd hb6 hat hss e2
        by_cases hak0 : ak ∈ st'
        · have HHT := Lib.hid (by have h := HHN.out; rw [decide_eq_true hak0] at h; exact h)
          have HAKD := Lib.hid (HFX.out.ackd hak0)
          clear HHN hak0
          go_wp2_with fail
          refine HHT.out.mono ?_
          rintro e w' ⟨rfl, rfl⟩
          go_wp2_with fail
          refine HAK.out.mono ?_
          rintro e w7 ⟨rfl, hd7, hk7⟩
          have HD7 := Lib.hid hd7
          have HAT7 := Lib.hid (HAT6.out.same (fun k hk2 => hk7 k (List.mem_append_right _ hk2)))
          have HSS7 := Lib.hid (hk7.seg HSS6.out (fun k hk2 => List.mem_append_left _ hk2))
          clear hd7 hk7 d3
          go_wp2_with fail
          go_roundw
          case rel => exact ⟨i + 1, _, r', st', so', sc', ⟨by go_num, rfl⟩, by omega, HAKD.out, HAT7.out, HSS7.out, HD7.out⟩
          case measure => simp [intOf]; omega
        · have HHT := Lib.hid (by have h := HHN.out; rw [decide_eq_false hak0] at h; exact h)
          clear HHN hak0
          go_wp2_with fail
          refine HHT.out.mono ?_
          rintro e w' ⟨rfl, rfl⟩
          go_wp2_with fail
          go_roundw
          case rel => exact ⟨i + 1, _, r', st', so', sc', ⟨by go_num, rfl⟩, by omega, HFX.out, HAT6.out, HSS6.out, HD6.out⟩
          case measure => simp [intOf]; omega
    · have hlt : ¬ (i : Int) < (az.length : Int) := by omega
      go_wp2_with fail
      refine (lives30_any _).mono ?_
      rintro e wL ⟨rfl, fL⟩
      have HL := Lib.hid (HD.out.frame.trans fL (by simp [Ext]))
      clear fL
      go_wp2_with fail
      go_ret
      exact ⟨rfl, HL.out⟩
end Go.Proofs.Ytodfeaipoagphaa
