/- SnapshotCanonical returns true. -/
import Derived.Test.YtcgndeggemceaaaSnPrefix
import Derived.Test.YtcgndeggemceaaaFew28
namespace Go.Proofs.Ytcgndeggemceaaa
open Go.RowKit

theorem encC_len (a : List (Int × Int)) : ∀ (l : List (Int × Int)) (prev : Int), l.length ≤ (encC a prev l).length
  | [], _ => by simp
  | y :: l, prev => by
    rw [encC_cons, List.length_append, List.length_append, List.length_cons]
    have := encC_len a l y.1
    have := varN_len_pos (y.1 - prev - 1).toNat
    omega
theorem apply_len {a : List (Int × Int)} (ha : ∀ x ∈ a, bd64 x.2) {b : List Nat} (hb : BytesB b) {x : List (Int × Int)} {r : List Nat} (h : applyR a b = .ok x r) : x.length ≤ a.length + b.length := by
  rw [applyR_parts] at h
  unfold remR at h
  cases h1 : readV b with
  | bad e => rw [h1] at h; cases h
  | ok n r1 =>
    rw [h1] at h
    simp only at h
    have hr1 := readV_ok hb h1
    have hb1 : BytesB r1 := fun y hy => hb y (by rw [hr1.1]; simp [hy])
    cases h2 : remP a n (-1) r1 with
    | bad e => rw [h2] at h; cases h
    | ok G r2 =>
      rw [h2] at h
      simp only at h
      have hr2 := remP_inv a n (-1) r1 G r2 (by omega) hb1 h2
      unfold chgR at h
      cases h3 : readV r2 with
      | bad e => rw [h3] at h; cases h
      | ok n2 r3 =>
        rw [h3] at h
        simp only at h
        have hr3 := readV_ok hr2.2.2.2.2 h3
        have hb3 : BytesB r3 := fun y hy => hr2.2.2.2.2 y (by rw [hr3.1]; simp [hy])
        cases h4 : chgQ a G n2 (-1) r3 with
        | bad e => rw [h4] at h; cases h
        | ok ch r4 =>
          rw [h4] at h
          simp only at h
          have hr4 := chgQ_inv a ha G n2 (-1) r3 ch r4 (by omega) hb3 h4
          cases r4 with
          | cons _ _ => cases h
          | nil =>
            cases h
            have e1 : ch.length ≤ b.length := by
              rw [hr1.1, hr2.1, hr3.1, hr4.1]
              have := encC_len a ch (-1)
              simp only [List.length_append]
              omega
            have e2 : (mv a ch G).length ≤ (mg a ch).length := List.length_filterMap_le _ _
            have e3 := mg_len a ch
            omega
theorem bts_set (D : List Nat) (j c : Nat) : (bts D).set j (.int .u8 (c : Int)) = bts (D.set j c) := by unfold bts; rw [List.map_set]
theorem bytesB_set {D : List Nat} (h : BytesB D) (j : Nat) {c : Nat} (hc : c < 256) : BytesB (D.set j c) := fun x hx => by
  rcases List.mem_or_eq_of_mem_set hx with q | q
  · exact h x q
  · omega
theorem sameB_yes (w : World) (ao bo : Option Addr) (ca cb : Nat) (a : List Nat) (ha : Rd w 1 ao a.length (bts a)) (hb : Rd w 1 bo a.length (bts a)) :
    Calls Try.prog 11 #[.slice ao a.length ca, .slice bo a.length cb] w fun e w' => e = .returned (.bool true) ∧ Fr [] w w' :=
  (sameB_any w ao bo ca cb a a ha hb).mono fun _ _ h => ⟨by rw [h.1]; simp, h.2⟩
theorem diffL_pos (a b : List (Int × Int)) : 0 < (diffL a b).length := by
  unfold diffL
  simp only [List.length_append]
  have := varN_len_pos (goneL a b).length
  omega

attribute [local irreducible] wpStill
set_option maxRecDepth 100000 in
set_option maxHeartbeats 16000000 in
theorem sncanon_walk (w : World) (lo mo : Option Addr) (lc mc : Nat) (l m : List Int) (hl : Rd w 1 lo l.length (ints l)) (hlb : ∀ x ∈ l, bounded x) (hm : Rd w 1 mo m.length (ints m)) (hmb : ∀ x ∈ m, bounded x) (ro : Option Addr) (rc : Nat) (raw : List Nat) (hraw : Src w ro rc raw) (at' : Int) (hat : bounded at') (c : Nat) (hc : c < 256) :
    Calls Try.prog 5 #[.slice lo l.length lc, .slice mo m.length mc, .slice ro raw.length rc, .int .i64 at', .int .u8 (c : Int)] w fun e w' => e = .returned (.bool true) ∧ Fr [] w w' := by
  have HC1 := Lib.hid (cells_any w lo lc l hl hlb)
  have HC2 := Lib.hid (fun u (hu : Fr [] w u) => cells_any u mo mc m (hm.fr hu (by simp)) hmb)
  have HFE := Lib.hid (fun u (hu : Fr [] w u) => few_any u ro rc raw 60 (hraw.old hu) (by omega))
  have HRB := Lib.hid (hraw.bytes.take 60)
  have HRL := Lib.hid (by rw [List.length_take]; omega : (raw.take 60).length ≤ 60)
  have HAT := Lib.hid hat
  clear hl hlb hm hmb hraw hat
  go_enter Try.func5, Try.ntmps5
  go_wp2_with fail
  refine HC1.out.mono ?_
  rintro e w1 ⟨A, ao, ac, rfl, va, la, sa, f1, -⟩
  have F1 := Lib.hid f1
  have VA := Lib.hid va
  have SA1 := Lib.hid sa
  have LA := Lib.hid la
  clear va sa f1 la HC1
  go_wp2_with fail
  refine (HC2.out _ F1.out).mono ?_
  rintro e w2 ⟨B, bo, bc, rfl, vb, lb, sb, f2, -⟩
  have F2 := Lib.hid (F1.out.trans f2 (by simp [Ext]))
  have VB := Lib.hid vb
  have LB := Lib.hid lb
  have SA2 := Lib.hid (SA1.out.fr f2 (by simp))
  have SB2 := Lib.hid sb
  clear vb sb f2 lb HC2 SA1
  go_wp2_with fail
  refine (diff_seg SA2.out SB2.out VA.out VB.out (by have := LA.out; omega) (by have := LB.out; omega)).mono ?_
  rintro e w3 ⟨d0, dc, rfl, sd, f3, hdn⟩
  have F23 := Lib.hid f3
  have HDL := Lib.hid (diffL_len VA.out VB.out (by have := LA.out; omega) (by have := LB.out; omega))
  have HDB := Lib.hid (diffL_bytes A B)
  have hDp := diffL_pos A B
  obtain ⟨D, hD⟩ : ∃ D, D = diffL A B := ⟨_, rfl⟩
  rw [← hD] at HDL HDB hDp sd ⊢
  have hDl : D.length ≤ 10000 := by have := HDL.out; have := LA.out; have := LB.out; omega
  obtain ⟨g, off, cur, rfl, hg, hfit, hcc, hff⟩ := sd.at (by have := sd.2.2.1; omega)
  obtain ⟨j, hj, -, hA⟩ := around_nat at' D.length HAT.out (by omega) (by omega)
  have cj : ∃ z, w3.cell? ⟨g, off + j, none⟩ = some z := by
    refine ⟨.int .u8 ((D[j] : Nat) : Int), ?_⟩
    rw [hcc j (by omega), bts_get, List.getElem?_eq_getElem hj]; rfl
  obtain ⟨z, cj⟩ := cj
  have fj := hff (off + j)
  have hz0 : ((D.length : Int) == 0) = false := beq_eq_false_iff_ne.2 (by omega)
  have HA := Lib.hid hA
  have HSD := Lib.hid sd
  have hgn : w2.heap.size ≤ g := hdn g (by simp [blk])
  have HGN := Lib.hid hgn
  clear hD hg hfit hcc hff hA sd hdn hgn f3
  go_upto_region 6 with (go_at_call 18; refine (HA.out _).mono ?_; rintro e w' ⟨rfl, rfl⟩)
  obtain ⟨w4, hw4⟩ : ∃ w4, w4 = w3.setCell ⟨g, off + j, none⟩ (.int .u8 (c : Int)) := ⟨_, rfl⟩
  rw [← hw4]
  have hF24 : Fr [] w2 w4 := by rw [hw4]; exact F23.out.setCell (.inr HGN.out) _
  obtain ⟨D', hD'⟩ : ∃ D', D' = D.set j c := ⟨_, rfl⟩
  have hDl' : D.length = D'.length := by rw [hD', List.length_set]
  have hsd4 : Seg w4 5 1 (some ⟨g, off, none⟩) D'.length dc (bts D') := by
    rw [hw4, ← hDl', hD', ← bts_set]
    exact HSD.out.store (by omega) _
  have HD4 := Lib.hid hsd4
  have HDB' := Lib.hid (by rw [hD']; exact bytesB_set HDB.out j hc : BytesB D')
  have F4 := Lib.hid (F2.out.trans hF24 (by simp [Ext]))
  have F24 := Lib.hid hF24
  rw [hDl'] at hDl ⊢
  clear hw4 hF24 hD' hsd4 cj fj hDl' hz0 hDp hj
  go_upto_region 6 with fail
  go_wp2_with fail
  refine (HFE.out _ F4.out).mono ?_
  rintro e w5 ⟨fo, fc, rfl, sf, f5, -⟩
  obtain ⟨R, hR⟩ : ∃ R, R = raw.take 60 := ⟨_, rfl⟩
  rw [← hR] at HRB HRL sf ⊢
  have F5 := Lib.hid (F4.out.trans f5 (by simp [Ext]))
  have F25 := Lib.hid (F24.out.trans f5 (by simp [Ext]))
  have SF := Lib.hid sf
  have HD5 := Lib.hid (HD4.out.fr f5 (by simp))
  clear sf f5 hR HFE F4 HD4
  go_upto_region 7 with fail
  obtain ⟨ab, hab⟩ : ∃ ab, ab = w5.heap.size := ⟨_, rfl⟩
  obtain ⟨w6, hw6⟩ : ∃ w6, w6 = w5.alloc (.cells #[.slice fo R.length fc, .slice (some ⟨g, off, none⟩) D'.length dc] 26) := ⟨_, rfl⟩
  rw [← hab, ← hw6]
  have hb6 : w6.heap[ab]? = some (.cells #[.slice fo R.length fc, .slice (some ⟨g, off, none⟩) D'.length dc] 26 (0, 0)) := by rw [hw6, hab]; exact alloc_new _ _
  have hf6 : Fr [] w5 w6 := by rw [hw6]; exact (Fr.refl _ _).alloc _
  have hsel : ∀ i : Nat, i < 2 → ∃ (xo : Option Addr) (xc : Nat) (X : List Nat), (∀ u, Fr [] w6 u → u.cell? ⟨ab, i, none⟩ = some (.slice xo X.length xc)) ∧ (∀ u, Fr [] w6 u → Seg u 5 1 xo X.length xc (bts X)) ∧ BytesB X ∧ X.length ≤ 10000 := fun i hi => by
    have : i = 0 ∨ i = 1 := by omega
    rcases this with rfl | rfl
    · exact ⟨fo, fc, R, fun u hu => cell_blk (hu.blk hb6 (by simp)) 0, fun u hu => (SF.out.fr hf6 (by simp)).fr hu (by simp), HRB.out, by have := HRL.out; omega⟩
    · exact ⟨some ⟨g, off, none⟩, dc, D', fun u hu => cell_blk (hu.blk hb6 (by simp)) 1, fun u hu => (HD5.out.fr hf6 (by simp)).fr hu (by simp), HDB'.out, hDl⟩
  have HSEL := Lib.hid hsel
  have F6 := Lib.hid (F5.out.trans hf6 (by simp [Ext]))
  have SA := Lib.hid (fun u (hu : Fr [] w6 u) => ((SA2.out.fr F25.out (by simp)).fr hf6 (by simp)).fr hu (by simp))
  clear hab hw6 hb6 hf6 hsel SF HD5 HRB HRL hDl HDB HDL
  go_wp2_with fail
  go_loopw [14] (fun iv wr => ∃ i : Nat, i ≤ 2 ∧ iv = .int .i64 (i : Int) ∧ Fr [] w6 wr) (fun iv _ => 2 - (intOf iv).toNat)
  case atStart => exact ⟨0, by omega, rfl, Fr.refl _ _⟩
  case round =>
    obtain ⟨i, hi, rfl, hf⟩ := hrel
    have HF := Lib.hid hf
    clear hf
    by_cases hi2 : i < 2
    · have hd : (i : Int) < 2 := by omega
      have wi : IntKind.i64.wrap ((i : Int) + 1) = (i : Int) + 1 := IntWalk.i64_in _ (by omega)
      obtain ⟨xo, xc, X, hxc, hxs, hxb, hxl⟩ := HSEL.out i hi2
      have HXC := Lib.hid hxc
      have HXS := Lib.hid hxs
      have HXB := Lib.hid hxb
      have cx := hxc _ HF.out
      have HAP := Lib.hid (apply_seg (SA.out _ HF.out) (HXS.out _ HF.out) VA.out (by have := LA.out; omega) hxb (by omega))
      clear hxc hxs hxb
      go_wp2_with fail
      refine HAP.out.mono ?_
      rintro e w4' ⟨f4, ⟨x, hx, rfl⟩ | ⟨Lr, vo, vc, hx, rfl, sv, -⟩⟩
      · have hx78 := apply_bad hx
        have HF4 := Lib.hid (HF.out.trans f4 (by simp [Ext]))
        have e1 : ((x : Int) != 0) = true := by simp; omega
        have e2 : (((x : Int) != 7) && ((x : Int) != 8)) = false := by rcases hx78 with rfl | rfl <;> rfl
        clear f4 hx HAP cx
        rcases hx78 with rfl | rfl
        all_goals
          go_wp2_with fail
          go_roundw
          case rel => exact ⟨i + 1, by omega, by go_num, HF4.out⟩
          case measure => simp [intOf]; omega
      · have hcn := apply_canon VA.out HXB.out hx
        have hll := apply_len VA.out.val HXB.out hx
        have HLL := Lib.hid (by have := LA.out; omega : Lr.length ≤ 11000)
        have VL := Lib.hid hcn.2
        have HDX := Lib.hid hcn.1
        have HF4 := Lib.hid (HF.out.trans f4 (by simp [Ext]))
        have SX := Lib.hid sv
        clear f4 hx HAP cx hcn hll sv
        go_upto_region 14 with fail
        have HF5 := Lib.hid (HF4.out.drew)
        refine wp_region_held_drew (S := (fun u => u.cell? ⟨ab, i, none⟩ = some (.slice xo X.length xc))) (by kernel_rfl) (HXC.out _ HF5.out) (fun hHeld => ?_)
        refine wpAnyH_takeL (i := 0) (v := _) rfl (by kernel_rfl) (by kernel_rfl) (by kernel_rfl) (fun _ _ _ h => h) (Or.inl ⟨by rfl, (by intro w' hSw; (try dsimp only at hSw); skip; go_simp; try with_reducible rfl)⟩) (by assumption) ?_
        try simp only [Act.put, List.setIfInBounds_toArray, List.set_cons_zero, List.set_cons_succ]
        refine wpAnyH_takeL (i := 1) (v := _) rfl (by kernel_rfl) (by kernel_rfl) (by kernel_rfl) (fun _ _ _ h => h) (Or.inl ⟨by rfl, (by intro w' hSw; (try dsimp only at hSw); skip; go_simp; try with_reducible rfl)⟩) (by assumption) ?_
        try simp only [Act.put, List.setIfInBounds_toArray, List.set_cons_zero, List.set_cons_succ]
        refine wpAnyH_takeL (i := 3) (v := _) rfl (by kernel_rfl) (by kernel_rfl) (by kernel_rfl) (fun _ _ _ h => h) (Or.inl ⟨by rfl, (by intro w' hSw; (try dsimp only at hSw); skip; go_simp; try with_reducible rfl)⟩) (by assumption) ?_
        try simp only [Act.put, List.setIfInBounds_toArray, List.set_cons_zero, List.set_cons_succ]
        refine wpAnyH_takeL (i := 4) (v := _) rfl (by kernel_rfl) (by kernel_rfl) (by kernel_rfl) (fun _ _ _ h => h) (Or.inl ⟨by rfl, (by intro w' hSw; (try dsimp only at hSw); skip; go_simp; try with_reducible rfl)⟩) (by assumption) ?_
        try simp only [Act.put, List.setIfInBounds_toArray, List.set_cons_zero, List.set_cons_succ]
        refine wpAnyH_takeL (i := 5) (v := _) rfl (by kernel_rfl) (by kernel_rfl) (by kernel_rfl) (fun _ _ _ h => h) (Or.inl ⟨by rfl, (by intro w' hSw; (try dsimp only at hSw); skip; go_simp; try with_reducible rfl)⟩) (by assumption) ?_
        try simp only [Act.put, List.setIfInBounds_toArray, List.set_cons_zero, List.set_cons_succ]
        refine wpAnyH_takeL (i := 6) (v := _) rfl (by kernel_rfl) (by kernel_rfl) (by kernel_rfl) (fun _ _ _ h => h) (Or.inl ⟨by rfl, (by intro w' hSw; (try dsimp only at hSw); skip; go_simp; try with_reducible rfl)⟩) (by assumption) ?_
        try simp only [Act.put, List.setIfInBounds_toArray, List.set_cons_zero, List.set_cons_succ]
        refine wpAnyH_ready (rs := [2]) (by kernel_rfl) (by simp) ?_
        refine AllReadyH.consL (i := 2) rfl (fun K hK => ?_) AllReadyH.nil
        go_simp
        refine (diff_any _ ao vo ac vc A Lr VA.out VL.out (by have := LA.out; omega) (by have := HLL.out; omega) (SA.out _ HF5.out).rd SX.out.drew.rd (SA.out _ HF5.out).lt SX.out.drew.lt).mono ?_; rintro e w7 ⟨q0, qc, rfl, sq, f7, -⟩; rw [HDX.out] at sq ⊢; have SQ := Lib.hid sq; have HF7 := Lib.hid (HF5.out.trans f7 (by simp [Ext])); have SX7 := Lib.hid (SX.out.drew.fr f7 (by simp)); clear sq f7
        refine hK.out _ _ (HXC.out _ HF7.out) (fun hHeld => ?_)
        clear hK K
        try simp only [Act.put, List.setIfInBounds_toArray, List.set_cons_zero, List.set_cons_succ]
        refine wpAnyH_ready (rs := [7]) (by kernel_rfl) (by simp) ?_
        refine AllReadyH.consL (i := 7) rfl (fun K hK => ?_) AllReadyH.nil
        go_simp
        refine (sameB_yes w7 q0 xo qc xc X SQ.out.rd (HXS.out _ HF7.out).rd).mono ?_; rintro e w8 ⟨rfl, f8⟩; have HF8 := Lib.hid (HF7.out.trans f8 (by simp [Ext])); have SX8 := Lib.hid (SX7.out.fr f8 (by simp)); clear f8
        refine hK.out _ _ (HXC.out _ HF8.out) (fun hHeld => ?_)
        clear hK K
        try simp only [Act.put, List.setIfInBounds_toArray, List.set_cons_zero, List.set_cons_succ]
        refine wpAnyH_takeL (i := 8) (v := _) rfl (by kernel_rfl) (by kernel_rfl) (by kernel_rfl) (fun _ _ _ h => h) (Or.inl ⟨by rfl, (by intro w' hSw; (try dsimp only at hSw); skip; go_simp; try with_reducible rfl)⟩) (by assumption) ?_
        try simp only [Act.put, List.setIfInBounds_toArray, List.set_cons_zero, List.set_cons_succ]
        refine wpAnyH_done (by kernel_rfl) ?_ _
        clear hHeld
        go_wp2_with fail
        obtain ⟨wn, rfl⟩ : ∃ wn : World, wn = wr := ⟨_, rfl⟩
        go_loopw [17] (fun kv wr => ∃ k : Nat, k ≤ Lr.length ∧ kv = .int .i64 (k : Int) ∧ Fr [] w8 wr) (fun kv _ => Lr.length - (intOf kv).toNat)
        case atStart => exact ⟨0, by omega, rfl, Fr.refl _ _⟩
        case round =>
          obtain ⟨k, hk, rfl, hf⟩ := hrel
          have HFK := Lib.hid hf
          clear hf
          by_cases hkl : k < Lr.length
          · have hd2 : (k : Int) < (Lr.length : Int) := by omega
            have wk : IntKind.i64.wrap ((k : Int) + 1) = (k : Int) + 1 := IntWalk.i64_in _ (by have := HLL.out; omega)
            have wk2 : IntKind.i64.wrap ((k : Int) - 1) = (k : Int) - 1 := IntWalk.i64_in _ (by have := HLL.out; omega)
            have hrd := (SX8.out.fr HFK.out (by simp)).rd
            have hx0 := VL.out.idx _ (List.getElem_mem hkl)
            unfold idxOk at hx0
            obtain ⟨g2, off2, rfl, hg2, c0, c1⟩ := hrd.cel hkl
            by_cases hk0 : k = 0
            · obtain ⟨x, hx⟩ : ∃ x, x = Lr[k].1 := ⟨_, rfl⟩
              rw [← hx] at c0 hx0
              have q1 : decide (x < 0) = false := decide_eq_false (by omega)
              have q2 : decide (x > 2147483647) = false := decide_eq_false (by omega)
              have q3 : decide (0 < k) = false := decide_eq_false (by omega)
              clear hx hk0 c1 hrd
              go_upto_region 19 with fail
              refine wp_still_tail 31 (by kernel_rfl) (by kernel_rfl) ?_
              simp only [List.take_succ_cons, List.take_zero, List.drop_succ_cons, List.drop_zero]
              repeat still_step
              refine wpStill_nil ?_
              go_wp2_with fail
              go_roundw
              case rel => exact ⟨k + 1, by omega, by go_num, HFK.out.drew⟩
              case measure => simp [intOf]; omega
            · obtain ⟨k', hk'⟩ : ∃ k', k = k' + 1 := ⟨k - 1, by omega⟩
              have wk3 : IntKind.i64.wrap ((k : Int) - 1) = (k' : Int) := by rw [wk2]; omega
              have hkl' : k' < Lr.length := by omega
              obtain ⟨g3, off3, he, hg3, c3, c4⟩ := hrd.cel hkl'
              cases he
              have hsr := List.pairwise_iff_getElem.1 VL.out.srt k' k hkl' hkl (by omega)
              obtain ⟨x, hx⟩ : ∃ x, x = Lr[k].1 := ⟨_, rfl⟩
              obtain ⟨y, hy⟩ : ∃ y, y = Lr[k'].1 := ⟨_, rfl⟩
              rw [← hx] at c0 hx0 hsr
              rw [← hy] at c3 hsr
              have q1 : decide (x < 0) = false := decide_eq_false (by omega)
              have q2 : decide (x > 2147483647) = false := decide_eq_false (by omega)
              have q3 : decide (0 < k) = true := decide_eq_true (by omega)
              have q4 : decide (x ≤ y) = false := decide_eq_false (by omega)
              have HK' := Lib.hid hk'
              clear hx hy hk0 c1 c4 hrd hsr wk2 hk'
              go_upto_region 19 with fail
              refine wp_still_tail 31 (by kernel_rfl) (by kernel_rfl) ?_
              simp only [List.take_succ_cons, List.take_zero, List.drop_succ_cons, List.drop_zero]
              repeat still_step
              refine wpStill_nil ?_
              go_wp2_with fail
              go_roundw
              case rel => exact ⟨k + 1, by omega, by go_num, HFK.out.drew⟩
              case measure => simp [intOf]; omega
          · have hd2 : ¬ (k : Int) < (Lr.length : Int) := by omega
            go_wp2_with fail
            go_roundw
            case rel => exact ⟨i + 1, by omega, by go_num, HF8.out.trans HFK.out (by simp [Ext])⟩
            case measure => simp [intOf]; omega
    · have hd : ¬ (i : Int) < 2 := by omega
      go_wp2_with fail
      refine (lives_any _).mono ?_
      rintro e we ⟨rfl, fe⟩
      go_wp2_with fail
      go_ret
      exact ⟨rfl, F6.out.trans (HF.out.trans fe (by simp [Ext])) (by simp [Ext])⟩
end Go.Proofs.Ytcgndeggemceaaa
