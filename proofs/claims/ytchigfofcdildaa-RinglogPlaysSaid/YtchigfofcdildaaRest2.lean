/- RinglogRestores returns true. -/
import Derived.Test.YtchigfofcdildaaTab
import Derived.Deep.RegionHeld3
import Derived.Deep.DeepCutAuto
import Derived.IntWalk
namespace Go.Proofs.Ytchigfofcdildaa
open Go.RowKit

theorem infoRow : (Try.prog.info? 36).map (fun i => (i.zero, i.size, i.bytes)) = some (some (.slice none 0 0), 1, 24) := by kernel_rfl

def actsZ (aa : Option Addr) (ca : Nat) (acts : List (Int × Int × Int)) : World → Prop := fun w => Seg w 40 3 aa acts.length ca (trips acts)
theorem actsZ_still (aa : Option Addr) (ca : Nat) (acts : List (Int × Int × Int)) : Still (actsZ aa ca acts) (blk aa) := fun _ _ h hk => Seg.same h hk

def rows (tabs : List (Nat × List Int)) : List (List Int) := tabs.map (·.2)
theorem rows_length (tabs : List (Nat × List Int)) : (rows tabs).length = tabs.length := by simp [rows]
theorem rows_append (a b : List (Nat × List Int)) : rows (a ++ b) = rows a ++ rows b := by simp [rows]

theorem set6 (S : Sp) (i v : Int) : (S.set i v).keep = S.keep ∧ (S.set i v).L = S.L ∧ (S.set i v).cells.length = S.cells.length := by
  unfold Sp.set; split <;> simp

def RestInv (W : World) (p r k : Nat) (aa : Option Addr) (ca : Nat) (acts : List (Int × Int × Int)) (i : Nat) (v : Value) (w : World) : Prop :=
  ∃ sb c tabs cur, v = .slice sb tabs.length c ∧ tabs.length ≤ i ∧ cur.length = 6 ∧ (∀ x ∈ tabs, x.2.length = 6) ∧
    TabSt (actsZ aa ca acts) (blk aa) W p r { keep := k, cells := cur, L := Lk k (rows tabs) } i i sb c tabs w

/-- what the end of RinglogRestores needs to know of the ring -/
theorem rest_end (k : Nat) (ts : List (List Int)) (cur : List Int) (q : Nat) (hk : 1 ≤ k) (hq : q < min k ts.length) :
    ∃ S1 S2 : Sp, ∃ t : Nat, ((t : Int) = ts.length - 1 - q) ∧ t < ts.length ∧ S1.cells = ts.getD t [] ∧ Sp.rewind { keep := k, cells := cur, L := Lk k ts } t = (0, S1) ∧ S1.newest = t ∧ S1.rewind t = (0, S1) ∧ S1.rewind (t + 1) = (6, S1) ∧ S1.push (t + 1) = (0, S2) ∧ 0 < S1.L.length := by
  have hl := Lk_len k ts
  have hR := Lk_row k ts
  obtain ⟨i, hi⟩ : ∃ i, i = min k ts.length - 1 - q := ⟨_, rfl⟩
  have hil : i < (Lk k ts).length := by omega
  have hR1 := hR.take (i + 1)
  have hl1 : ((Lk k ts).take (i + 1)).length = i + 1 := by rw [List.length_take]; omega
  have et : ((ts.length - 1 - q : Nat) : Int) = ((ts.length - k : Nat) : Int) + i := by omega
  have et1 : ((ts.length - 1 - q : Nat) : Int) + 1 = ((ts.length - k : Nat) : Int) + ((Lk k ts).take (i + 1)).length := by rw [hl1]; omega
  refine ⟨_, _, ts.length - 1 - q, by omega, by omega, ?_, by rw [et]; exact hR.rewind i hil, ?_, ?_, by rw [et1]; exact hR1.over (by omega), by rw [et1]; exact hR1.push (by omega), by simp only; omega⟩
  · simp only
    rw [Lk_get, show ts.length - k + i = ts.length - 1 - q by omega]
  · rw [hR1.newest (by omega), hl1]; omega
  · rw [et, hR1.rewind i (by omega)]
    simp [List.take_take]

set_option maxRecDepth 100000 in
set_option maxHeartbeats 4000000 in
theorem rest_walk (keep back : Int) (ao : Option Addr) (cap : Nat) (l : List Int) (w : World) (h1 : bounded keep) (h2 : bounded back) (hrd : Rd w 1 ao l.length (ints l)) (hb : ∀ x ∈ l, bounded x) :
    Calls Try.prog 7 #[.int .i64 keep, .slice ao l.length cap, .int .i64 back] w fun e w' => e = .returned (.bool true) ∧ Below w.heap.size w w' := by
  obtain ⟨k, hk⟩ := Int.eq_ofNat_of_zero_le (show 0 ≤ 1 + around keep 13 by have := around_lt keep (m := 13) (by omega); omega)
  have bk := around_lt keep (m := 13) (by omega)
  have k1 : 1 ≤ k := by omega
  have k2 : k ≤ 13 := by omega
  have HK := Lib.hid fun w => (hk ▸ keeps_any keep w h1.1 h1.2 : Calls Try.prog 9 #[.int .i64 keep] w fun e w' => e = .returned (.int .i64 k) ∧ w = w')
  have HRD := Lib.hid hrd
  have HB := Lib.hid hb
  have HB2 := Lib.hid h2
  obtain ⟨i0, hi0, hz0, hz1, hz2⟩ := info_parts infoRow
  clear hk bk h1 h2 hrd hb
  go_enter Try.func7, Try.ntmps7
  go_wp2_with fail
  refine (HK.out _).mono ?_
  rintro e w1 ⟨rfl, rfl⟩
  go_wp2_with fail
  refine (made_any w k (by omega) (by omega)).mono ?_
  rintro e w2 ⟨p, r, rfl, o2⟩
  go_wp2_with fail
  refine (acts_any w2 ao cap l (HRD.out.fr o2.frame (by simp)) HB.out).mono ?_
  rintro e w3 ⟨aa, ca, acts, rfl, hal, hok, hsa, hfa, hna⟩
  have o3 : RestInv w p r k aa ca acts 0 (.slice none 0 0) w3 := by
    obtain ⟨F, ho, hf, he⟩ := o2
    have hsz := hf.size
    have hL : ({ keep := k, cells := cells6, L := [] } : Sp) = { keep := k, cells := cells6, L := Lk k (rows []) } := by simp [Lk, rows]
    rw [hL] at ho
    refine ⟨none, 0, [], cells6, rfl, Nat.le_refl _, rfl, by simp, ⟨F, IsObj.mono (ho.fr hfa (by simp)) (by simp) (by simp), hf.trans hfa (by simp [Ext]), he, fun x hx hg => ?_, fun x hx => ?_⟩, by simpa [tabVals] using Seg.nil _ _ _, by simp [Tabs], hsa, by simp [blk]⟩
    · simp [blk, heads] at hg
      have a := ho.lt x hx
      have b := hna x (by simpa [blk] using hg)
      omega
    · have hx' : x ∈ blk aa := by simpa [blk, heads] using hx
      have a := hna x hx'
      have b := hsa.lt x hx'
      exact ⟨by omega, b⟩
  have OK := Lib.hid hok
  have O3 := Lib.hid o3
  clear hok hsa hfa hna o2 o3
  go_wp2_with fail
  go_loopw [10, 12] (fun v i wr => ∃ i' : Nat, i' ≤ acts.length ∧ i = .int .i64 i' ∧ RestInv w p r k aa ca acts i' v wr) (fun _ i _ => acts.length - (intOf i).toNat)
  case atStart => exact ⟨0, Nat.zero_le _, rfl, O3.out⟩
  case round =>
    clear O3
    obtain ⟨i, hi, rfl, sb, c, tabs, cur, rfl, h3, h4, h5, h6⟩ := hrel
    have H4 := Lib.hid h4
    have H5 := Lib.hid h5
    have H6 := Lib.hid h6
    have HZ := Lib.hid (actsZ_still aa ca acts)
    clear h4 h5 h6
    have i40 : i ≤ 40 := by omega
    by_cases hin : i < acts.length
    · have hcx : ∃ g off d a v, aa = some ⟨g, off, none⟩ ∧ actOk (d, a, v) ∧ wr.cell? ⟨g, off + i * 3, none⟩ = some (.int .i64 d) ∧ wr.cell? ⟨g, off + i * 3 + 1, none⟩ = some (.int .i64 a) ∧ wr.cell? ⟨g, off + i * 3 + 2, none⟩ = some (.int .i64 v) := by
        obtain ⟨_, _, _, hh, _⟩ := H6.out
        have hh2 : Seg wr 40 3 aa acts.length ca (trips acts) := hh
        obtain ⟨g, off, cur, ha, _⟩ := hh2.at (by have := hh2.2.2.1; omega)
        subst ha
        obtain ⟨c0, c1, c2⟩ := hh2.trip hin
        exact ⟨g, off, _, _, _, rfl, OK.out _ (List.getElem_mem hin), c0, c1, c2⟩
      obtain ⟨g, off, d, a, v, rfl, hx, c0, c1, c2⟩ := hcx
      obtain ⟨x1, x2, x3, x4, x5, x6, x7⟩ := hx
      simp only at x1 x2 x3 x4 x5 x6 x7
      by_cases hd : d < 2
      · clear x5
        go_wp2_with fail
        refine wp_still_tail 11 (by kernel_rfl) (by kernel_rfl) ?_
        simp only [List.take_succ_cons, List.take_zero, List.drop_succ_cons, List.drop_zero]
        repeat still_step
        refine wpStill_nil ?_
        have H6' := Lib.hid (H6.out.fr HZ.out (Fr.refl [] wr).drew)
        go_wp2_with fail
        refine (tab_set HZ.out H6'.out a v (by omega) rfl).mono ?_
        rintro e w5 ⟨rfl, hm⟩
        have HM := Lib.hid hm
        clear hm c0 c1 c2 H6'
        go_wp2_with fail
        go_roundw
        case rel =>
          obtain ⟨s1, s2, s3⟩ := set6 { keep := k, cells := cur, L := Lk k (rows tabs) } a v
          refine ⟨i + 1, by omega, by go_num, sb, c, tabs, (Sp.set { keep := k, cells := cur, L := Lk k (rows tabs) } a v).cells, rfl, by omega, by rw [s3]; exact H4.out, H5.out, ?_⟩
          have := HM.out.mono (n2 := ((i + 1 : Nat) : Int)) (T2 := ((i + 1 : Nat) : Int)) (by omega) (by omega)
          rw [show Sp.set { keep := k, cells := cur, L := Lk k (rows tabs) } a v = { keep := k, cells := (Sp.set { keep := k, cells := cur, L := Lk k (rows tabs) } a v).cells, L := Lk k (rows tabs) } by
            rw [Sp.mk.injEq]; exact ⟨s1, rfl, s2⟩] at this
          exact this
        case measure => simp [intOf]; omega
      · clear x5 c1 c2
        go_wp2_with fail
        refine (tab_cells HZ.out H6.out (l := cur) rfl (by rw [H4.out]; omega)).mono ?_
        rintro e w5 ⟨rfl, hm⟩
        have HM := Lib.hid hm
        have hs5 := hm.2.1
        have hcl := H4.out
        rw [hcl]
        have HS := Lib.hid fun (o : Obj) => hs5.alloc o
        have HF := Lib.hid fun (o : Obj) => (Fr.refl [] w5).alloc o
        have HN := Lib.hid (fun (x : Value) j u hu => by
          rw [Addr.add_mid, Nat.zero_add, World.cell?_alloc_new]; simpa using hu : ∀ x j u, [x][j]? = some u → (w5.alloc (.cells #[x] 36)).cell? ((⟨w5.heap.size, 0, none⟩ : Addr).add j) = some u)
        clear hm hs5 c0 hcl
        go_wp2_with (at_builtin; refine wpList_append_seg rfl _ _ 52 rfl 36 i0 _ 1 24 Try.underlying52 hi0 hz0 hz1 hz2 rfl (by decide) sb tabs.length c (tabVals tabs) rfl (HS.out _) ⟨w5.heap.size, 0, none⟩ 1 1 [_] rfl rfl (HN.out _) (by simp [Value.oneCell']) (by unfold maxLen; omega) (by omega) ?_; intro ao' cap' w6 hs6 hfr6 hext6)
        have H7 := Lib.hid (HM.out.add HZ.out (HF.out _) (by rw [H4.out]; exact hs6) hfr6 hext6)
        have HP := Lib.hid (by have := Lk_push k (rows tabs) cur k1; rwa [rows_length] at this : Sp.push { keep := k, cells := cur, L := Lk k (rows tabs) } (tabs.length : Int) = (0, { keep := k, cells := cur, L := Lk k (rows tabs ++ [cur]) }))
        clear hs6 hfr6 hext6
        refine (tab_push HZ.out H7.out (tabs.length : Int) (by omega) (by omega) (fun _ => by omega) HP.out).mono ?_
        rintro e w7 ⟨rfl, hm⟩
        have H8 := Lib.hid hm
        clear hm
        go_wp2_with fail
        go_roundw
        case rel =>
          refine ⟨i + 1, by omega, by go_num, ao', cap', tabs ++ [(wr.heap.size, cur)], cur, by simp, by simp; omega, H4.out, fun x hx => ?_, ?_⟩
          · rcases List.mem_append.1 hx with hx | hx
            · exact H5.out x hx
            · simp only [List.mem_singleton] at hx; subst hx; exact H4.out
          · have := H8.out.mono (n2 := ((i + 1 : Nat) : Int)) (T2 := ((i + 1 : Nat) : Int)) (by omega) (by omega)
            rw [rows_append]
            exact this
        case measure => simp [intOf]; omega
    · have hlr := rows_length tabs
      rcases Nat.eq_zero_or_pos tabs.length with hz | hz
      · have hzb : ((tabs.length : Int) == 0) = true := beq_iff_eq.2 (by omega)
        have HW := Lib.hid (by
          unfold Sp.rewind
          rw [if_pos (.inl (by simp only [Lk_len]; omega))] : Sp.rewind { keep := k, cells := cur, L := Lk k (rows tabs) } 0 = (24, { keep := k, cells := cur, L := Lk k (rows tabs) }))
        go_wp2_with fail
        refine (tab_rewind HZ.out H6.out 0 (by omega) HW.out).mono ?_
        rintro e w7 ⟨rfl, hm⟩
        have H8 := Lib.hid hm
        clear hm
        go_wp2_with fail
        refine (lives_any _).mono ?_
        rintro e w9 ⟨rfl, f9⟩
        go_wp2_with fail
        go_ret
        exact ⟨rfl, (H8.out.frame.trans f9 (by simp [Ext])).nil⟩
      · have hzb : ((tabs.length : Int) == 0) = false := beq_eq_false_iff_ne.2 (by omega)
        obtain ⟨M, hM⟩ : ∃ M, M = min k tabs.length := ⟨_, rfl⟩
        obtain ⟨q, hq⟩ := Int.eq_ofNat_of_zero_le (around_lt back (m := (M : Int)) (by omega)).1
        have hqM : q < M := by have := (around_lt back (m := (M : Int)) (by omega)).2; omega
        have HA := Lib.hid fun (x : Int) (hx : x = M) w => (by subst hx; exact hq ▸ around_any back M w HB2.out.1 HB2.out.2 (by omega) (by omega) : Calls Try.prog 10 #[.int .i64 back, .int .i64 x] w fun e w' => e = .returned (.int .i64 q) ∧ w = w')
        obtain ⟨S1, S2, t, ht1, ht2, e1, e2, e3, e4, e5, e6, e7⟩ := rest_end k (rows tabs) cur q k1 (by omega)
        rw [hlr] at ht1 ht2
        have hrt : (rows tabs).getD t [] = (tabs[t]).2 := by simp [rows, List.getD_eq_getElem?_getD, ht2]
        rw [hrt] at e1
        have HE1 := Lib.hid e1
        have HE2 := Lib.hid e2
        have HE3 := Lib.hid e3
        have HE4 := Lib.hid e4
        have HE5 := Lib.hid e5
        have HE6 := Lib.hid e6
        have HE7 := Lib.hid e7
        have HM := Lib.hid hM
        clear e1 e2 e3 e4 e5 e6 e7 hM hq hrt hlr
        have hq2 : q < tabs.length := by omega
        rcases Nat.lt_or_ge tabs.length k with hc | hc
        all_goals
          go_wp2_with fail
          refine (HA.out _ (by have := HM.out; omega) _).mono ?_
          rintro e w7 ⟨rfl, rfl⟩
          clear HK HRD HB HB2 HA
          go_wp2_with fail
          obtain ⟨sg, so, rfl⟩ := H6.out.some hz
          rw [← ht1]
          have HT := Lib.hid ht1
          clear ht1 hzb
          obtain ⟨X, hX⟩ : ∃ X, X = tabs[t].2 := ⟨_, rfl⟩
          have hX6 : X.length = 6 := by rw [hX]; exact H5.out _ (List.getElem_mem ht2)
          rw [← hX] at HE1
          obtain ⟨tb, htb⟩ : ∃ tb, tb = tabs[t].1 := ⟨_, rfl⟩
          have HX := Lib.hid hX
          have HX6 := Lib.hid hX6
          have HTB := Lib.hid htb
          have H6' := Lib.hid (H6.out.fr HZ.out (Fr.refl [] wr).drew)
          clear hX hX6 htb
          go_cut [102] (fun c102 wc => c102 = .bool false ∧ TabSt (actsZ aa ca acts) (blk aa) w p r S1 i i (some ⟨sg, so, none⟩) c tabs wc)
          case first =>
            have c0 := H6'.out.cell rfl ht2
            rw [← HTB.out, ← HX.out] at c0
            go_region_held3 (fun w' => w'.cell? ⟨sg, so + t, none⟩ = some (.slice (some ⟨tb, 0, none⟩) X.length X.length)) (first | exact c0 | exact cA | exact cB | exact cC | exact cD)
              (first
              | (go_at_call 16; refine (tab_rewind HZ.out H6'.out t (by omega) HE2.out).mono ?_; rintro e wA ⟨rfl, hA⟩; have HA := Lib.hid hA; have cA := hA.cell rfl ht2; rw [← HTB.out, ← HX.out] at cA; clear hA)
              | (go_at_call 22; refine (tab_cells HZ.out HA.out (l := X) HE1.out (by rw [HX6.out]; omega)).mono ?_; rintro e wB ⟨rfl, hB⟩; have HB := Lib.hid hB; have cB := hB.cell rfl ht2; rw [← HTB.out, ← HX.out] at cB; clear hB)
              | (go_at_call 26; refine (same_yes _ _ _ X.length X.length X (HB.out.pendRd (by rw [HX6.out]; unfold maxLen; omega)) (by have := HB.out.rowRd ht2 (by rw [← HX.out, HX6.out]; unfold maxLen; omega); rwa [← HTB.out, ← HX.out] at this)).mono ?_; rintro e wC ⟨rfl, kC, rfl⟩; have hC := HB.out.fr (HZ.out.pend _ _) ((Fr.refl [] _).drewN kC); have HC := Lib.hid hC; have cC := hC.cell rfl ht2; rw [← HTB.out, ← HX.out] at cC; clear hC)
              | (go_at_call 15; refine (tab_newest (HZ.out.pend _ _) HC.out HE3.out).mono ?_; rintro e wD ⟨rfl, hD⟩; have HD := Lib.hid hD; have cD := hD.cell rfl ht2; rw [← HTB.out, ← HX.out] at cD; clear hD))
            all_goals
              go_wp2_with fail
              go_meet
              exact ⟨rfl, HD.out.drop⟩
          case rest =>
            obtain ⟨rfl, hcut⟩ := hcut
            have HC0 := Lib.hid (hcut.fr HZ.out (Fr.refl [] wc).drew)
            clear hcut
            go_wp2_with fail
            have b1 : (i : Int) ≤ 1000000 := by omega
            have b2 : (i : Int) ≤ 1000000000 := by omega
            have b3 : S1.L.length = 0 → (t : Int) + 1 ≤ (i : Int) + 1 := fun h => absurd HE7.out (by omega)
            have x1 : X.length ≤ 1099511627776 := by rw [HX6.out]; omega
            have x2 : X.length ≤ maxLen := by rw [HX6.out]; unfold maxLen; omega
            have B3 := Lib.hid b3
            clear b3
            have c0 := HC0.out.cell rfl ht2
            have hw1 : IntKind.i64.wrap ((t : Int) + 1) = (t : Int) + 1 := IntWalk.i64_in _ (by omega)
            rw [← HTB.out, ← HX.out] at c0
            go_region_held3 (fun w' => w'.cell? ⟨sg, so + t, none⟩ = some (.slice (some ⟨tb, 0, none⟩) X.length X.length)) (first | exact c0 | exact cA | exact cB | exact cC | exact cD | exact cE | exact cF)
              (first
              | (go_at_call 19; refine (lives_any _).mono ?_; rintro e wF ⟨rfl, hF⟩; have hF2 := HE.out.fr (HZ.out.pend _ _) hF; have HF := Lib.hid hF2; have cF := hF2.cell rfl ht2; rw [← HTB.out, ← HX.out] at cF; clear hF hF2)
              | (go_at_call 12; refine (tab_push (HZ.out.pend _ _) HD.out ((t : Int) + 1) b1 b2 B3.out HE6.out).mono ?_; rintro e wE ⟨rfl, hE⟩; have HE := Lib.hid hE; have cE := hE.cell rfl ht2; rw [← HTB.out, ← HX.out] at cE; clear hE)
              | (go_at_call 16; refine (tab_rewind (HZ.out.pend _ _) HC.out ((t : Int) + 1) b1 HE5.out).mono ?_; rintro e wD ⟨rfl, hD⟩; have HD := Lib.hid hD; have cD := hD.cell rfl ht2; rw [← HTB.out, ← HX.out] at cD; clear hD)
              | (go_at_call 26; refine (same_yes _ _ _ X.length X.length X (HB.out.pendRd x2) (by have := HB.out.rowRd ht2 (by rw [← HX.out]; exact x2); rwa [← HTB.out, ← HX.out] at this)).mono ?_; rintro e wC ⟨rfl, kC, rfl⟩; have hC := HB.out.fr (HZ.out.pend _ _) ((Fr.refl [] _).drewN kC); have HC := Lib.hid hC; have cC := hC.cell rfl ht2; rw [← HTB.out, ← HX.out] at cC; clear hC)
              | (go_at_call 22; refine (tab_cells HZ.out HA.out (l := X) HE1.out x1).mono ?_; rintro e wB ⟨rfl, hB⟩; have HB := Lib.hid hB; have cB := hB.cell rfl ht2; rw [← HTB.out, ← HX.out] at cB; clear hB)
              | (go_at_call 16; refine (tab_rewind HZ.out HC0.out t b1 HE4.out).mono ?_; rintro e wA ⟨rfl, hA⟩; have HA := Lib.hid hA; have cA := hA.cell rfl ht2; rw [← HTB.out, ← HX.out] at cA; clear hA))
            all_goals
              go_wp2_with fail
              go_ret
              exact ⟨rfl, HF.out.frame.nil⟩
end Go.Proofs.Ytchigfofcdildaa
