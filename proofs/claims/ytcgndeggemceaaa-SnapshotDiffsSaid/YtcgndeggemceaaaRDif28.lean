/- arenanetref28.Diff (written by genrdif28.py). -/
import Derived.Test.YtcgndeggemceaaaRf28
import Derived.Test.YtcgndeggemceaaaRow
namespace Go.Proofs.Ytcgndeggemceaaa
open Go.RowKit

theorem infoInt : (Try.prog.info? 3).map (fun i => (i.zero, i.size, i.bytes)) = some (some (.int .i64 0), 1, 8) := by kernel_rfl
theorem goneL_snoc (b : List (Int × Int)) (l : List (Int × Int)) (x : Int × Int) : goneL (l ++ [x]) b = goneL l b ++ (if has b x.1 then [] else [x.1]) := by
  unfold goneL
  rw [List.filter_append, List.map_append]
  congr 1
  by_cases h : has b x.1 = true
  · simp [h]
  · simp [h]
theorem chgL_snoc (a : List (Int × Int)) (l : List (Int × Int)) (y : Int × Int) : chgL a (l ++ [y]) = chgL a l ++ (if same a y then [] else [y]) := by
  unfold chgL
  rw [List.filter_append]
  congr 1
  by_cases h : same a y = true
  · simp [h]
  · simp [h]
theorem ints_app (l m : List Int) : ints (l ++ m) = ints l ++ ints m := by simp [ints]

set_option maxRecDepth 100000 in
set_option maxHeartbeats 16000000 in
theorem rdiff_any (w : World) (ao bo : Option Addr) (ca cb : Nat) (a b : List (Int × Int)) (va : IsView a) (vb : IsView b) (la : a.length ≤ 12) (lb : b.length ≤ 12) (sa : Seg w 38 2 ao a.length ca (a.flatMap clV)) (sb : Seg w 38 2 bo b.length cb (b.flatMap clV)) :
    Calls Try.prog 13 #[.slice ao a.length ca, .slice bo b.length cb] w (DiffTo w (diffL a b)) := by
  obtain ⟨ib, hib, hb0, hb1, hb2⟩ := info_parts infoByte
  obtain ⟨ii, hii, hz0, hz1, hz2⟩ := info_parts infoInt
  obtain ⟨ic, hic, hcz0, hcz1, hcz2⟩ := info_parts infoCell
  have VA := Lib.hid va
  have VB := Lib.hid vb
  have RA := Lib.hid (fun u (hu : Fr [] w u) => (sa.fr hu (by simp)).rd)
  have RB := Lib.hid (fun u (hu : Fr [] w u) => (sb.fr hu (by simp)).rd)
  clear va vb sa sb
  go_enter Try.func13, Try.ntmps13
  go_wp2_with fail
  go_loopw [5, 6] (fun gv iv wr => ∃ (i : Nat) (G : List Int) (go : Option Addr) (gc : Nat), gv = .slice go G.length gc ∧ iv = .int .i64 (i : Int) ∧ i ≤ a.length ∧ G = goneL (a.take i) b ∧ Seg wr 3 1 go G.length gc (ints G) ∧ (∀ k ∈ blk go, w.heap.size ≤ k) ∧ Fr [] w wr) (fun _ iv _ => a.length - (intOf iv).toNat)
  case atStart => exact ⟨0, [], none, 0, rfl, rfl, by omega, rfl, Seg.nil _ _ _, by simp [blk], Fr.refl _ _⟩
  case round =>
    obtain ⟨i, G, go, gc, rfl, rfl, hi, hG, hs, hx, hf⟩ := hrel
    have hGl : G.length ≤ 12 := by rw [hG]; have := gone_len (a := a.take i) (b := b); rw [List.length_take] at this; omega
    have HG := Lib.hid hG
    have HS := Lib.hid hs
    have HX := Lib.hid hx
    have HF := Lib.hid hf
    clear hG hs hx hf
    by_cases hil : i < a.length
    · have hlt : (i : Int) < (a.length : Int) := by omega
      have wi : IntKind.i64.wrap ((i : Int) + 1) = (i : Int) + 1 := IntWalk.i64_in _ (by omega)
      obtain ⟨g, off, rfl, hg, c0, c1⟩ := (RA.out _ HF.out).cel hil
      have htk : a.take (i + 1) = a.take i ++ [a[i]] := by rw [List.take_succ_eq_append_getElem hil]
      obtain ⟨x, hx⟩ : ∃ x, x = a[i] := ⟨_, rfl⟩
      rw [← hx] at c0 c1 htk
      have HTK := Lib.hid htk
      have HFI := Lib.hid (find_any wr bo cb b x.1 (RB.out _ HF.out))
      clear hx htk
      cases hh : has b x.1 with
      | true =>
        rw [hh] at HFI
        have HE := Lib.hid (by rw [HTK.out, goneL_snoc, hh, HG.out]; simp : G = goneL (a.take (i + 1)) b)
        clear hh
        go_wp2_with fail
        refine HFI.out.mono ?_
        rintro e w1 ⟨rfl, rfl⟩
        go_wp2_with fail
        go_roundw
        case rel => exact ⟨i + 1, G, go, gc, rfl, by go_num, by omega, HE.out, HS.out, HX.out, HF.out⟩
        case measure => simp [intOf]; omega
      | false =>
        rw [hh] at HFI
        have HE := Lib.hid (by rw [HTK.out, goneL_snoc, hh, HG.out]; simp : G ++ [x.1] = goneL (a.take (i + 1)) b)
        clear hh
        go_wp2_with fail
        refine HFI.out.mono ?_
        rintro e w1 ⟨rfl, rfl⟩
        go_wp2_with (at_builtin; refine wpList_append_seg rfl _ _ 22 rfl 3 ii _ 1 8 Try.underlying22 hii hz0 hz1 hz2 rfl (by decide) go G.length gc (ints G) rfl (HS.out.alloc _) ⟨_, 0, none⟩ 1 1 [.int .i64 x.1] rfl rfl (fun j u hu => by rw [Addr.add_mid, Nat.zero_add, World.cell?_alloc_new]; simpa using hu) (by simp [Value.oneCell']) (by unfold maxLen; omega) (by omega) ?_; intro o5 k5 w5 hs5 hf5 hx5)
        have HS5 : Hid (Seg w5 3 1 o5 (G ++ [x.1]).length k5 (ints (G ++ [x.1]))) := Lib.hid (by rw [List.length_append, ints_app]; exact hs5)
        have HF5 := Lib.hid ((HF.out.alloc _).trans hf5 (fun q hq => .inr (HX.out q hq)))
        have HX5 := Lib.hid (fun q hq => (by have := HF.out.size; rcases hx5 q hq with h | h; exact HX.out q h; (simp at h; omega) : w.heap.size ≤ q))
        clear hs5 hf5 hx5
        go_roundw
        case rel => exact ⟨i + 1, G ++ [x.1], o5, k5, by simp, by go_num, by omega, HE.out, HS5.out, HX5.out, HF5.out⟩
        case measure => simp [intOf]; omega
    · have hnlt : ¬ (i : Int) < (a.length : Int) := by omega
      have hGE : G = goneL a b := by rw [HG.out, List.take_of_length_le (by omega)]
      have HGE := Lib.hid hGE
      obtain ⟨W1, hW1⟩ : ∃ W1, W1 = wr := ⟨_, rfl⟩
      rw [← hW1] at HS HF ⊢
      have HGL := Lib.hid (HS.out.lt)
      have hwg : IntKind.u64.wrap ((G.length : Nat) : Int) = (G.length : Int) := IntWalk.u64_in _ (by omega)
      have hgr := gone_rise (a := a) (b := b) VA.out
      rw [← hGE] at hgr
      have HGR := Lib.hid hgr
      clear hil hGE hW1 hgr
      go_wp2_with fail
      refine (varint_any W1 G.length (by omega)).mono ?_
      rintro e w2 ⟨o0, k0, rfl, hs2, hf2, hx2⟩
      have HF2 := Lib.hid (HF.out.trans hf2 (by simp [Ext]))
      have hxx : ∀ q ∈ blk o0, w.heap.size ≤ q := fun q hq => by have := hx2 q hq; have := HF.out.size; omega
      have hgo : ∀ q ∈ blk go, q ∉ blk o0 := fun q hq hq2 => by have := HGL.out q hq; have := hx2 q hq2; omega
      have HX0 := Lib.hid hxx
      have HG0 := Lib.hid hgo
      have HS2 := Lib.hid hs2
      have HSG := Lib.hid (HS.out.fr hf2 (by simp))
      have HVL := Lib.hid (varN_len (show G.length < 18446744073709551616 by omega))
      obtain ⟨V0, hV0⟩ : ∃ V0, V0 = varN G.length := ⟨_, rfl⟩
      rw [← hV0] at HS2 HVL ⊢
      have HV0 := Lib.hid hV0
      clear hs2 hf2 hx2 hxx hgo hV0 HS HF
      go_wp2_with fail
      obtain ⟨wn, rfl⟩ : ∃ wn : World, wn = wr := ⟨_, rfl⟩
      go_loopw [9, 10, 11] (fun ov lv iv wr => ∃ (j : Nat) (O : List Nat) (prev : Int) (oo : Option Addr) (oc : Nat), ov = .slice oo O.length oc ∧ lv = .int .i64 prev ∧ iv = .int .i64 (j : Int) ∧ j ≤ G.length ∧ O ++ encG prev (G.drop j) = V0 ++ encG (-1) G ∧ -1 ≤ prev ∧ prev ≤ maxI ∧ Rise prev (G.drop j) ∧ O.length ≤ 10 + 10 * j ∧ Seg wr 5 1 oo O.length oc (bts O) ∧ Fr (blk o0) w2 wr ∧ Ext (blk o0) w2 (blk oo)) (fun _ _ iv _ => G.length - (intOf iv).toNat)
      case atStart => exact ⟨0, V0, -1, o0, k0, rfl, rfl, rfl, by omega, rfl, by omega, by unfold maxI; omega, HGR.out, by have := HVL.out; omega, HS2.out, Fr.refl _ _, Ext.refl _ _⟩
      case round =>
        obtain ⟨j, O, prev, oo, oc, rfl, rfl, rfl, hj, hO, hp0, hp1, hri, hOl, hs, hf, hx⟩ := hrel
        have HO := Lib.hid hO
        have HRI := Lib.hid hri
        have HSJ := Lib.hid hs
        have HFJ := Lib.hid hf
        have HXJ := Lib.hid hx
        clear hO hri hs hf hx
        have HFW := Lib.hid (HF2.out.trans HFJ.out (fun q hq => .inr (HX0.out q hq)))
        by_cases hjl : j < G.length
        · have hlt : (j : Int) < (G.length : Int) := by omega
          have wj : IntKind.i64.wrap ((j : Int) + 1) = (j : Int) + 1 := IntWalk.i64_in _ (by omega)
          obtain ⟨g, off, hgo, hg, hc⟩ := (HSG.out.fr HFJ.out HG0.out).rd.at (by omega)
          have c0 := hc j (by omega)
          rw [ints_get, List.getElem?_eq_getElem hjl, Option.map_some] at c0
          have hdr : G.drop j = G[j] :: G.drop (j + 1) := List.drop_eq_getElem_cons hjl
          obtain ⟨k, hk⟩ : ∃ k, k = G[j] := ⟨_, rfl⟩
          rw [← hk] at c0 hdr
          have HKJ := Lib.hid hk
          have hri2 := HRI.out
          rw [hdr] at hri2
          have hkb := hri2.1 k (by simp)
          unfold maxI at hkb hp1
          obtain ⟨gap, hgap⟩ : ∃ gap, gap = (k - prev - 1).toNat := ⟨_, rfl⟩
          have w1' : IntKind.i64.wrap (k - prev) = k - prev := IntWalk.i64_in _ (by omega)
          have w2' : IntKind.i64.wrap (k - prev - 1) = k - prev - 1 := IntWalk.i64_in _ (by omega)
          have w3' : IntKind.u64.wrap (k - prev - 1) = ((gap : Nat) : Int) := by rw [IntWalk.u64_in _ (by omega)]; omega
          have hgl : gap < 18446744073709551616 := by omega
          have HOO := Lib.hid (by rw [← HO.out, hdr, encG, ← hgap, List.append_assoc] : O ++ varN gap ++ encG k (G.drop (j + 1)) = V0 ++ encG (-1) G)
          have HR2 := Lib.hid hri2.tail
          have HK := Lib.hid hkb
          have hvl := varN_len hgl
          have HG00 := HG0
          have HSGG := HSG
          subst hgo
          clear hc hdr hk hri2 hkb hgap hg
          go_wp2_with fail
          refine (varint_any wr gap hgl).mono ?_
          rintro e w5 ⟨vo, vc, rfl, hs5, hf5, -⟩
          have SV := Lib.hid hs5
          have HS5 := Lib.hid (HSJ.out.fr hf5 (by simp))
          have HF5 := Lib.hid (HFJ.out.trans hf5 (by simp [Ext]))
          have d0 : w5.cell? ⟨g, off + j, none⟩ = some (.int .i64 k) := by
            obtain ⟨g', off', he, hg', hc'⟩ := (HSG.out.fr HF5.out HG0.out).rd.at (by omega)
            cases he
            rw [hc' j (by omega), ints_get, List.getElem?_eq_getElem hjl, HKJ.out]; rfl
          clear hs5 hf5
          go_upto_region 14 with (at_builtin; refine wpList_append_rd rfl _ _ 26 rfl 5 ib _ 1 1 Try.underlying26 hib hb0 hb1 hb2 rfl (by decide) oo O.length oc (bts O) rfl (HS5.out) vo (varN gap).length vc (bts (varN gap)) rfl (SV.out.rd) (bts_one _) (by unfold maxLen; omega) (by omega) ?_; intro o6 k6 w6 hs6 hf6 hx6)
          have hln : O.length + (varN gap).length = (O ++ varN gap).length := by rw [List.length_append]
          rw [← bts_append, hln] at hs6
          rw [hln]
          have HS6 := Lib.hid hs6
          have HF6 := Lib.hid (HF5.out.trans hf6 HXJ.out)
          have HX6 := Lib.hid (HXJ.out.trans hx6 HF5.out.size)
          have d1 : w6.cell? ⟨g, off + j, none⟩ = some (.int .i64 k) := by
            obtain ⟨g', off', he, hg', hc'⟩ := (HSG.out.fr HF6.out HG0.out).rd.at (by omega)
            cases he
            rw [hc' j (by omega), ints_get, List.getElem?_eq_getElem hjl, HKJ.out]; rfl
          have hl6 : (O ++ varN gap).length ≤ 10 + 10 * (j + 1) := by rw [List.length_append]; omega
          clear hs6 hf6 hx6 d0 c0 hln
          go_wp2_with fail
          go_roundw
          case rel => exact ⟨j + 1, O ++ varN gap, k, o6, k6, rfl, rfl, by go_num, by omega, HOO.out, by have := HK.out; omega, by have := HK.out; unfold maxI; omega, HR2.out, hl6, HS6.out, HF6.out, HX6.out⟩
          case measure => simp [intOf]; omega
        · have hnl : ¬ (j : Int) < (G.length : Int) := by omega
          have hOE : O = V0 ++ encG (-1) G := by
            have h := HO.out
            rw [List.drop_of_length_le (by omega)] at h
            simpa [encG] using h
          have hPL : O.length ≤ 130 := by omega
          have HOE := Lib.hid hOE
          obtain ⟨W3, hW3⟩ : ∃ W3, W3 = wr := ⟨_, rfl⟩
          rw [← hW3] at HSJ HFW ⊢
          have HOLT := Lib.hid HSJ.out.lt
          have HOW := Lib.hid (fun q hq => (by have h1 := HF2.out.size; have h3 := HXJ.out q hq; have h4 := HX0.out; rcases h3 with h | h; exact h4 q h; omega : w.heap.size ≤ q))
          clear hjl hOE hW3 HO HRI HFJ HXJ hp0 hp1 hOl
          go_wp2_with fail
          obtain ⟨wn2, rfl⟩ : ∃ wn2 : World, wn2 = wr := ⟨_, rfl⟩
          go_loopw [12, 13] (fun sv iv wr => ∃ (i : Nat) (C : List (Int × Int)) (so : Option Addr) (sc : Nat), sv = .slice so C.length sc ∧ iv = .int .i64 (i : Int) ∧ i ≤ b.length ∧ C = chgL a (b.take i) ∧ Seg wr 38 2 so C.length sc (C.flatMap clV) ∧ (∀ k ∈ blk so, W3.heap.size ≤ k) ∧ Fr [] W3 wr) (fun _ iv _ => b.length - (intOf iv).toNat)
          case atStart => exact ⟨0, [], none, 0, rfl, rfl, by omega, rfl, Seg.nil _ _ _, by simp [blk], Fr.refl _ _⟩
          case round =>
            obtain ⟨m, C, so, sc, rfl, rfl, hm, hC, hs, hx, hf⟩ := hrel
            have hCl : C.length ≤ 12 := by rw [hC]; have := chg_len (a := a) (b := b.take m); rw [List.length_take] at this; omega
            have HC := Lib.hid hC
            have HSK := Lib.hid hs
            have HXK := Lib.hid hx
            have HFK := Lib.hid hf
            clear hC hs hx hf
            have HFWK := Lib.hid (HFW.out.trans HFK.out (by simp [Ext]))
            by_cases hml : m < b.length
            · have hlt : (m : Int) < (b.length : Int) := by omega
              have wm : IntKind.i64.wrap ((m : Int) + 1) = (m : Int) + 1 := IntWalk.i64_in _ (by omega)
              obtain ⟨g, off, hbe, hg, c0, c1⟩ := (RB.out _ HFWK.out).cel hml
              have htk : b.take (m + 1) = b.take m ++ [b[m]] := by rw [List.take_succ_eq_append_getElem hml]
              obtain ⟨y, hy⟩ : ∃ y, y = b[m] := ⟨_, rfl⟩
              rw [← hy] at c0 c1 htk
              have HTK := Lib.hid htk
              have HFI := Lib.hid (find_any wr ao ca a y.1 (RA.out _ HFWK.out))
              have HCK := Lib.hid (chgL_snoc a (b.take m) y)
              subst hbe
              clear hy htk
              cases hh : has a y.1
              case' false =>
                rw [hh] at HFI
                have hsm : same a y = false := by unfold same; rw [hh]; rfl
                clear hh
                go_wp2_with fail
                refine HFI.out.mono ?_
                rintro e w1 ⟨rfl, rfl⟩
                go_upto_region 21 with fail
              case' true =>
                rw [hh] at HFI
                obtain ⟨v, hv⟩ : ∃ v, v = getv a y.1 := ⟨_, rfl⟩
                rw [← hv] at HFI
                by_cases hvy : v = y.2
                case' pos =>
                  have hsm : same a y = true := by unfold same; rw [hh, ← hv, hvy]; simp
                  have hne : (v != y.2) = false := by simp [hvy]
                  have HE := Lib.hid (by rw [HTK.out, HCK.out, hsm, ← HC.out]; simp : C = chgL a (b.take (m + 1)))
                  clear hh hv hvy hsm
                  go_wp2_with fail
                  refine HFI.out.mono ?_
                  rintro e w1 ⟨rfl, rfl⟩
                  go_wp2_with fail
                  go_roundw
                  case rel => exact ⟨m + 1, C, so, sc, rfl, by go_num, by omega, HE.out, HSK.out, HXK.out, HFK.out⟩
                  case measure => simp [intOf]; omega
                case' neg =>
                  have hsm : same a y = false := by unfold same; rw [hh, ← hv]; simp [hvy]
                  have hne : (v != y.2) = true := by simp [hvy]
                  clear hh hv hvy
                  go_wp2_with fail
                  refine HFI.out.mono ?_
                  rintro e w1 ⟨rfl, rfl⟩
                  go_upto_region 21 with fail
              all_goals
                have HE := Lib.hid (by rw [HTK.out, HCK.out, hsm, ← HC.out]; simp : C ++ [y] = chgL a (b.take (m + 1)))
                clear hsm
                go_wp2_with (at_builtin; refine wpList_append_seg rfl _ _ 23 rfl 38 ic _ 2 16 Try.underlying23 hic hcz0 hcz1 hcz2 rfl (by decide) so C.length sc (C.flatMap clV) rfl (HSK.out.alloc _) ⟨_, 0, none⟩ 1 1 (clV y) rfl rfl (fun j u hu => by rw [Addr.add_mid, Nat.zero_add, World.cell?_alloc_new]; simpa [clV] using hu) (by simp [clV, Value.oneCell']) (by unfold maxLen; omega) (by omega) ?_; intro o5 k5 w5 hs5 hf5 hx5)
                have HS5 : Hid (Seg w5 38 2 o5 (C ++ [y]).length k5 ((C ++ [y]).flatMap clV)) := Lib.hid (by rw [List.length_append, List.flatMap_append]; simpa using hs5)
                have HF5 := Lib.hid ((HFK.out.alloc _).trans hf5 (fun q hq => .inr (HXK.out q hq)))
                have HX5 := Lib.hid (fun q hq => (by have := HFK.out.size; rcases hx5 q hq with h | h; exact HXK.out q h; (simp at h; omega) : W3.heap.size ≤ q))
                clear hs5 hf5 hx5
                go_roundw
                case rel => exact ⟨m + 1, C ++ [y], o5, k5, by simp, by go_num, by omega, HE.out, HS5.out, HX5.out, HF5.out⟩
                case measure => simp [intOf]; omega
            · have hnm : ¬ (m : Int) < (b.length : Int) := by omega
              have hCE : C = chgL a b := by rw [HC.out, List.take_of_length_le (by omega)]
              have HCE := Lib.hid hCE
              obtain ⟨W4, hW4⟩ : ∃ W4, W4 = wr := ⟨_, rfl⟩
              rw [← hW4] at HSK HFK HFWK ⊢
              have hwc : IntKind.u64.wrap ((C.length : Nat) : Int) = (C.length : Int) := IntWalk.u64_in _ (by omega)
              have hcr := chg_rise (a := a) (b := b) VB.out
              rw [← hCE] at hcr
              have HCR := Lib.hid hcr
              have hcv : ∀ y ∈ C, bd64 y.2 := by rw [hCE]; exact fun y hy => VB.out.val y (List.mem_filter.1 hy).1
              have HCV := Lib.hid hcv
              have HSO := Lib.hid (fun q (hq : q ∈ blk so) => (fun hq2 => by have := HXK.out q hq; have := HOLT.out q hq2; omega : q ∉ blk oo))
              clear hml hCE hW4 hcr hcv HC
              go_wp2_with fail
              refine (varint_any W4 C.length (by omega)).mono ?_
              rintro e w5 ⟨vo, vc, rfl, hs5, hf5, -⟩
              have SV := Lib.hid hs5
              have HS5 := Lib.hid ((HSJ.out.fr HFK.out (by simp)).fr hf5 (by simp))
              have HF5 := Lib.hid (HFWK.out.trans hf5 (by simp [Ext]))
              have HC5 := Lib.hid (HSK.out.fr hf5 (by simp))
              have hvl := varN_len (show C.length < 18446744073709551616 by omega)
              clear hs5 hf5
              go_upto_region 23 with (at_builtin; refine wpList_append_rd rfl _ _ 26 rfl 5 ib _ 1 1 Try.underlying26 hib hb0 hb1 hb2 rfl (by decide) oo O.length oc (bts O) rfl (HS5.out) vo (varN C.length).length vc (bts (varN C.length)) rfl (SV.out.rd) (bts_one _) (by unfold maxLen; omega) (by omega) ?_; intro o6 k6 w6 hs6 hf6 hx6)
              obtain ⟨P2, hP2⟩ : ∃ P2, P2 = O ++ varN C.length := ⟨_, rfl⟩
              have hln : O.length + (varN C.length).length = P2.length := by rw [hP2, List.length_append]
              rw [← bts_append, ← hP2, hln] at hs6
              rw [hln]
              have hP2l : P2.length ≤ 140 := by omega
              have HS6 := Lib.hid hs6
              have HF6 := Lib.hid (HF5.out.trans hf6 (fun q hq => .inr (HOW.out q hq)))
              have HX6 := Lib.hid (fun q hq => (by rcases hx6 q hq with h | h; exact .inl (HOLT.out q h); exact .inr h : q < W3.heap.size ∨ w5.heap.size ≤ q))
              have HC6 := Lib.hid (HC5.out.fr hf6 HSO.out)
              have HCLT := Lib.hid HC5.out.lt
              have HO6 := Lib.hid (fun q hq => (by rcases HX6.out q hq with h | h; exact (fun hq2 => by have := HXK.out q hq2; omega); exact (fun hq2 => by have := HCLT.out q hq2; omega) : q ∉ blk so))
              have HOW6 := Lib.hid (fun q hq => (by have := HF5.out.size; rcases hx6 q hq with h | h; exact HOW.out q h; omega : w.heap.size ≤ q))
              have HFIN := Lib.hid (by rw [hP2, HOE.out, HV0.out, HGE.out, HCE.out]; rfl : P2 ++ encC a (-1) C = diffL a b)
              clear hs6 hf6 hx6 hln hP2 hnm hnl hnlt
              go_wp2_with fail
              obtain ⟨wn3, rfl⟩ : ∃ wn3 : World, wn3 = wr := ⟨_, rfl⟩
              obtain ⟨Oz, rfl⟩ : ∃ z : List Nat, z = O := ⟨_, rfl⟩
              go_loopw [9, 10, 16] (fun ov lv iv wr => ∃ (j : Nat) (O : List Nat) (prev : Int) (oo : Option Addr) (oc : Nat), ov = .slice oo O.length oc ∧ lv = .int .i64 prev ∧ iv = .int .i64 (j : Int) ∧ j ≤ C.length ∧ O ++ encC a prev (C.drop j) = P2 ++ encC a (-1) C ∧ -1 ≤ prev ∧ prev ≤ maxI ∧ Rise prev (keys (C.drop j)) ∧ O.length ≤ 140 + 20 * j ∧ Seg wr 5 1 oo O.length oc (bts O) ∧ Fr (blk o6) w6 wr ∧ Ext (blk o6) w6 (blk oo)) (fun _ _ iv _ => C.length - (intOf iv).toNat)
              case atStart => exact ⟨0, P2, -1, o6, k6, rfl, rfl, rfl, by omega, rfl, by omega, by unfold maxI; omega, HCR.out, by omega, HS6.out, Fr.refl _ _, Ext.refl _ _⟩
              case round =>
                obtain ⟨n, O, prev, oo, oc, rfl, rfl, rfl, hn, hO, hp0, hp1, hri, hOl, hs, hf, hx⟩ := hrel
                have HOn := Lib.hid hO
                have HRI := Lib.hid hri
                have HSn := Lib.hid hs
                have HFn := Lib.hid hf
                have HXn := Lib.hid hx
                clear hO hri hs hf hx
                have HFWn := Lib.hid (HF6.out.trans HFn.out (fun q hq => .inr (HOW6.out q hq)))
                have HCn := Lib.hid (HC6.out.fr HFn.out (fun q hq hq2 => HO6.out q hq2 hq))
                by_cases hnl : n < C.length
                · have hlt : (n : Int) < (C.length : Int) := by omega
                  have wn : IntKind.i64.wrap ((n : Int) + 1) = (n : Int) + 1 := IntWalk.i64_in _ (by omega)
                  obtain ⟨g, off, hse, hg, c0, c1⟩ := HCn.out.rd.cel hnl
                  have hdr : C.drop n = C[n] :: C.drop (n + 1) := List.drop_eq_getElem_cons hnl
                  have hyv := HCV.out C[n] (List.getElem_mem hnl)
                  obtain ⟨y, hy⟩ : ∃ y, y = C[n] := ⟨_, rfl⟩
                  rw [← hy] at c0 c1 hdr hyv
                  have HYN := Lib.hid hy
                  have hri2 := HRI.out
                  rw [hdr] at hri2
                  have hkb := hri2.1 y.1 (by simp [keys])
                  unfold maxI at hkb hp1
                  obtain ⟨gap, hgap⟩ : ∃ gap, gap = (y.1 - prev - 1).toNat := ⟨_, rfl⟩
                  have w1' : IntKind.i64.wrap (y.1 - prev) = y.1 - prev := IntWalk.i64_in _ (by omega)
                  have w2' : IntKind.i64.wrap (y.1 - prev - 1) = y.1 - prev - 1 := IntWalk.i64_in _ (by omega)
                  have w3' : IntKind.u64.wrap (y.1 - prev - 1) = ((gap : Nat) : Int) := by rw [IntWalk.u64_in _ (by omega)]; omega
                  have hgl : gap < 18446744073709551616 := by omega
                  obtain ⟨v, hv⟩ : ∃ v, v = getv a y.1 := ⟨_, rfl⟩
                  have HWV := Lib.hid (by rw [IntKind.wrap_i64]; unfold wrap64; omega : IntKind.i64.wrap (y.2 - v) = wrap64 (y.2 - v))
                  obtain ⟨z, hz⟩ : ∃ z, z = zz (wrap64 (y.2 - v)) := ⟨_, rfl⟩
                  have hzl : z < 18446744073709551616 := by rw [hz]; exact zz_fit _
                  have HOO := Lib.hid (by rw [← HOn.out, hdr, encC_cons, ← hgap, ← hv, ← hz, List.append_assoc, List.append_assoc, List.append_assoc] : O ++ varN gap ++ varN z ++ encC a y.1 (C.drop (n + 1)) = P2 ++ encC a (-1) C)
                  have HR2 := Lib.hid (hri2.tail : Rise y.1 (keys (C.drop (n + 1))))
                  have HK := Lib.hid hkb
                  have hvl1 := varN_len hgl
                  have hvl2 := varN_len hzl
                  have HFI := Lib.hid (find_any wr ao ca a y.1 (RA.out _ HFWn.out))
                  rw [← hv] at HFI
                  have HZ := Lib.hid (fun u => (by have h := rzig_any u (wrap64 (y.2 - v)) (wrap64_bd _); rw [← hz] at h; exact h : Calls Try.prog 36 #[.int .i64 (wrap64 (y.2 - v))] u fun e w' => e = .returned (.int .u64 ((z : Nat) : Int)) ∧ u = w'))
                  have HVW := Lib.hid (fun u (hf : Fr (blk o6) w6 u) => (by
                    obtain ⟨g', off', he, hg', q0, q1⟩ := (HC6.out.fr hf (fun q hq hq2 => HO6.out q hq2 hq)).rd.cel hnl
                    rw [hse] at he
                    cases he
                    rw [← HYN.out] at q0 q1
                    exact ⟨q0, q1⟩ : u.cell? ⟨g, off + n * 2, none⟩ = some (.int .i64 y.1) ∧ u.cell? ⟨g, off + n * 2 + 1, none⟩ = some (.int .i64 y.2)))
                  subst hse
                  clear hdr hy hri2 hkb hgap hv hz hg hyv
                  go_wp2_with fail
                  refine HFI.out.mono ?_
                  rintro e w1 ⟨rfl, rfl⟩
                  go_wp2_with fail
                  refine (varint_any _ gap hgl).mono ?_
                  rintro e w7 ⟨vo1, vc1, rfl, hs7, hf7, -⟩
                  have SV1 := Lib.hid hs7
                  have HS7 := Lib.hid (HSn.out.fr hf7 (by simp))
                  have HF7 := Lib.hid (HFn.out.trans hf7 (by simp [Ext]))
                  clear hs7 hf7
                  go_upto_region 29 with (at_builtin; refine wpList_append_rd rfl _ _ 26 rfl 5 ib _ 1 1 Try.underlying26 hib hb0 hb1 hb2 rfl (by decide) oo O.length oc (bts O) rfl (HS7.out) vo1 (varN gap).length vc1 (bts (varN gap)) rfl (SV1.out.rd) (bts_one _) (by unfold maxLen; omega) (by omega) ?_; intro o8 k8 w8 hs8 hf8 hx8)
                  have hln : O.length + (varN gap).length = (O ++ varN gap).length := by rw [List.length_append]
                  rw [← bts_append, hln] at hs8
                  rw [hln]
                  have hl8 : (O ++ varN gap).length ≤ 150 + 20 * n := by rw [List.length_append]; omega
                  have HS8 := Lib.hid hs8
                  have HF8 := Lib.hid (HF7.out.trans hf8 HXn.out)
                  have HX8 := Lib.hid (HXn.out.trans hx8 HF7.out.size)
                  obtain ⟨d0, d1⟩ := HVW.out _ HF8.out
                  clear hs8 hf8 hx8 c0 c1 hln
                  obtain ⟨O8, hO8⟩ : ∃ O8, O8 = O ++ varN gap := ⟨_, rfl⟩
                  rw [← hO8] at HS8 HOO hl8 ⊢
                  clear hO8
                  go_wp2_with fail
                  refine (HZ.out _).mono ?_
                  rintro e w9 ⟨rfl, rfl⟩
                  go_wp2_with fail
                  refine (varint_any _ z hzl).mono ?_
                  rintro e wa ⟨vo2, vc2, rfl, hsa, hfa, -⟩
                  have SV2 := Lib.hid hsa
                  have HSA := Lib.hid (HS8.out.fr hfa (by simp))
                  have HFA := Lib.hid (HF8.out.trans hfa (by simp [Ext]))
                  clear hsa hfa
                  go_upto_region 30 with (at_builtin; refine wpList_append_rd rfl _ _ 26 rfl 5 ib _ 1 1 Try.underlying26 hib hb0 hb1 hb2 rfl (by decide) o8 O8.length k8 (bts O8) rfl (HSA.out) vo2 (varN z).length vc2 (bts (varN z)) rfl (SV2.out.rd) (bts_one _) (by unfold maxLen; omega) (by omega) ?_; intro ob kb wb hsb hfb hxb)
                  have hln : O8.length + (varN z).length = (O8 ++ varN z).length := by rw [List.length_append]
                  rw [← bts_append, hln] at hsb
                  rw [hln]
                  have hlb : (O8 ++ varN z).length ≤ 140 + 20 * (n + 1) := by rw [List.length_append]; omega
                  have HSB := Lib.hid hsb
                  have HFB := Lib.hid (HFA.out.trans hfb HX8.out)
                  have HXB := Lib.hid (HX8.out.trans hxb HFA.out.size)
                  obtain ⟨e0, e1⟩ := HVW.out _ HFB.out
                  clear hsb hfb hxb d0 d1 hln
                  go_wp2_with fail
                  go_roundw
                  case rel => exact ⟨n + 1, O8 ++ varN z, y.1, ob, kb, rfl, rfl, by go_num, by omega, HOO.out, by have := HK.out; omega, by have := HK.out; unfold maxI; omega, HR2.out, hlb, HSB.out, HFB.out, HXB.out⟩
                  case measure => simp [intOf]; omega
                · have hnn : ¬ (n : Int) < (C.length : Int) := by omega
                  have hOE : O = diffL a b := by
                    have h := HOn.out
                    rw [List.drop_of_length_le (by omega), HFIN.out] at h
                    simpa [encC, withOld, encD] using h
                  have HE := Lib.hid hOE
                  clear hOE hnl
                  go_wp2_with fail
                  go_ret
                  exact ⟨oo, oc, by rw [HE.out]; rfl, by rw [← HE.out]; exact HSn.out, HFWn.out, fun q hq => by have h1 := HF6.out.size; rcases HXn.out q hq with h | h; exact HOW6.out q h; omega⟩
end Go.Proofs.Ytcgndeggemceaaa
