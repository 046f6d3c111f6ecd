/- RinglogPlays returns true. -/
import Derived.Test.YtchigfofcdildaaPlays
namespace Go.Proofs.Ytchigfofcdildaa
open Go.RowKit

theorem actAt {w : World} {aa : Option Addr} {ca : Nat} {acts : List (Int × Int × Int)} (h : actsZ aa ca acts w) (hok : ∀ x ∈ acts, actOk x) {i : Nat} (hin : i < acts.length) :
    ∃ g off x, aa = some ⟨g, off, none⟩ ∧ actOk x ∧ w.cell? ⟨g, off + i * 3, none⟩ = some (.int .i64 x.1) ∧ w.cell? ⟨g, off + i * 3 + 1, none⟩ = some (.int .i64 x.2.1) ∧ w.cell? ⟨g, off + i * 3 + 2, none⟩ = some (.int .i64 x.2.2) := by
  obtain ⟨g, off, d, a, v, h1, h2, h3, h4, h5, h6⟩ := acts_cell h hok hin
  exact ⟨g, off, (d, a, v), h1, h3, h4, h5, h6⟩

theorem pl_start {w w2 w3 w4 : World} {p r k : Nat} {aa : Option Addr} {ca : Nat} {acts : List (Int × Int × Int)} (k1 : 1 ≤ k) (k2 : k ≤ 13) (o2 : Own w p r { keep := k, cells := cells6, L := [] } 0 (-1) w2) (hr : RowNew w2 w2.heap.size cells6 w3)
    (hs : actsZ aa ca acts w4) (hf : Fr [] (w3.alloc (.cells #[.int .i64 k, .slice (some ⟨w2.heap.size, 0, none⟩) 6 6, .slice none 0 0] 45)) w4) (hn : ∀ b ∈ blk aa, w3.heap.size + 1 ≤ b) :
    PlInv w p r w3.heap.size aa ca acts 0 w4 := by
  obtain ⟨F, ho, hfw, he⟩ := o2
  obtain ⟨hrow, hf3⟩ := hr
  have h24 : Fr [] w2 w4 := (hf3.alloc _).trans hf (by simp [Ext])
  have s1 := hfw.size
  have s2 := hf3.size
  have s3 := hf.size
  rw [World.size_alloc] at s3
  have hb2 := lt_of_blk hrow
  have hrow4 : w4.heap[w2.heap.size]? = some (row cells6) := hf.blk (alloc_old hrow) (by simp)
  have hq4 := hf.blk (alloc_new w3 (.cells #[.int .i64 k, .slice (some ⟨w2.heap.size, 0, none⟩) 6 6, .slice none 0 0] 45)) (by simp)
  have hrd := rd_new hrow4 (by simp [cells6, maxLen])
  refine ⟨{ keep := k, cells := cells6, L := [] }, [w2.heap.size], _, _, _, ⟨F, IsObj.mono (ho.fr h24 (by simp)) (by simp) (by simp), hfw.trans h24 (by simp [Ext]), he, fun x hx hg => ?_, fun x hx => ?_⟩, hq4, ⟨some ⟨w2.heap.size, 0, none⟩, 6, none, 0, [], rfl, rfl, ⟨by simp only; omega, by simp only; omega⟩, by simp, fun _ => ⟨rfl, rfl⟩, hrd, by simp [blk], by simp [entL], by simp, by simp [maxLen], ⟨by simp [prs, entV], by simp, .inl (by simp)⟩, by simp [blk], by simp⟩, hs, fun hm => ?_⟩
  · have hx2 := ho.lt x hx
    simp only [List.mem_cons, List.mem_append, List.not_mem_nil, or_false] at hg
    rcases hg with rfl | hg | rfl
    · omega
    · have := hn x hg; omega
    · omega
  · simp only [List.mem_cons, List.mem_append, List.not_mem_nil, or_false] at hx
    rcases hx with rfl | hx | rfl
    · exact ⟨by omega, by omega⟩
    · exact ⟨by have := hn x hx; omega, Seg.lt hs x hx⟩
    · exact ⟨by omega, by omega⟩
  · simp only [List.mem_cons, List.mem_append, List.not_mem_nil, or_false] at hm
    rcases hm with hm | hm
    · have := hn _ hm; omega
    · omega

/-- the tick at hand -/
def atTick (S : Sp) (f : Int) : Int := if S.newest < 0 then f else S.newest

set_option maxRecDepth 100000 in
set_option maxHeartbeats 8000000 in
theorem plays_walk (keep first : Int) (ao : Option Addr) (cap : Nat) (l : List Int) (w : World) (h1 : bounded keep) (h2 : bounded first) (hrd : Rd w 1 ao l.length (ints l)) (hb : ∀ x ∈ l, bounded x) :
    Calls Try.prog 6 #[.int .i64 keep, .slice ao l.length cap, .int .i64 first] w fun e w' => e = .returned (.bool true) ∧ Below w.heap.size w w' := by
  obtain ⟨k, hk⟩ := Int.eq_ofNat_of_zero_le (show 0 ≤ 1 + around keep 13 by have := around_lt keep (m := 13) (by omega); omega)
  have bk := around_lt keep (m := 13) (by omega)
  have k1 : 1 ≤ k := by omega
  have k2 : k ≤ 13 := by omega
  have HK := Lib.hid fun w => (hk ▸ keeps_any keep w h1.1 h1.2 : Calls Try.prog 9 #[.int .i64 keep] w fun e w' => e = .returned (.int .i64 k) ∧ w = w')
  have HRD := Lib.hid hrd
  have HB := Lib.hid hb
  have HB2 := Lib.hid h2
  clear hk bk h1 h2 hrd hb
  go_enter Try.func6, Try.ntmps6
  go_wp2_with fail
  refine (HK.out _).mono ?_
  rintro e w1 ⟨rfl, rfl⟩
  go_wp2_with fail
  refine (made_any w k (by omega) (by omega)).mono ?_
  rintro e w2 ⟨p, r, rfl, o2⟩
  have O2 := Lib.hid o2
  clear o2
  go_wp2_with fail
  obtain ⟨F2, hF2, hfw2, _⟩ := O2.out
  refine (obj_cells hF2 (by simp [cells6])).mono ?_
  rintro e w3 ⟨rfl, hrow⟩
  have HRW := Lib.hid hrow
  have HF3 := Lib.hid (hfw2.trans hrow.2 (by simp [Ext]))
  clear hrow hF2 hfw2
  go_wp2_with fail
  refine (acts_any _ ao cap l (HRD.out.fr (HF3.out.alloc _) (by simp)) HB.out).mono ?_
  rintro e w4 ⟨aa, ca, acts, rfl, hal, hok, hsa, hfa, hna⟩
  have O4 := Lib.hid (pl_start k1 k2 O2.out HRW.out hsa hfa (by simpa using hna))
  have OK := Lib.hid hok
  obtain ⟨f, hf⟩ := Int.eq_ofNat_of_zero_le (around_lt first (m := 100) (by omega)).1
  have hf100 : f < 100 := by have := (around_lt first (m := 100) (by omega)).2; omega
  have HA := Lib.hid fun w => (hf ▸ around_any first 100 w HB2.out.1 HB2.out.2 (by omega) (by omega) : Calls Try.prog 10 #[.int .i64 first, .int .i64 100] w fun e w' => e = .returned (.int .i64 f) ∧ w = w')
  clear hok hsa hfa hna hf O2 HRW HF3 HRD HB HB2 HK
  obtain ⟨q, hq⟩ : ∃ q, q = w3.heap.size := ⟨_, rfl⟩
  rw [← hq] at O4
  go_wp2_with fail
  rw [← hq]
  clear hq
  go_loopw [12] (fun i wr => ∃ i' : Nat, i' ≤ acts.length ∧ i = .int .i64 i' ∧ PlInv w p r q aa ca acts i' wr) (fun i _ => acts.length - (intOf i).toNat)
  case atStart => exact ⟨0, Nat.zero_le _, rfl, O4.out⟩
  case round =>
    clear O4
    obtain ⟨i, hi, rfl, S, G, a, b, c, g1, g2, g3, g4, g5⟩ := hrel
    have i40 : i ≤ 40 := by omega
    by_cases hin : i < acts.length
    · obtain ⟨g, off, x, rfl, hx, c0, c1, c2⟩ := actAt g4 OK.out hin
      obtain ⟨x1, x2, x3, x4, x5, x6, x7⟩ := hx
      have P0 := Lib.hid (PlInv.start g1 g2 g3 g4 g5 x)
      clear g1 g2 g3 g4 g5
      obtain ⟨A, hA⟩ : ∃ A, A = wr.heap.size := ⟨_, rfl⟩
      go_wp2_with fail
      refine (P0.out.call (S2 := S) (n2 := i) (T2 := 200 + i) fun F hF => (obj_newest hF).mono fun e w' ⟨h1, k, h2⟩ => ⟨h1, h2 ▸ hF.toFr ((Fr.refl _ _).drewN k)⟩).mono ?_
      rintro e w5 ⟨rfl, hp⟩
      rw [← hA] at hp ⊢
      have P5 := Lib.hid hp
      clear hp P0 c0 c1 c2 hA
      have HT := P5.out.ticks
      obtain ⟨t1, t2, t3, t4⟩ := HT
      have HT3 := Lib.hid t3
      have HT4 := Lib.hid t4
      clear t3 t4
      go_upto_if 51 with fail
      go_cut [14] (fun s14 wc => s14 = .int .i64 (atTick S f) ∧ wc = w5)
      case first =>
        by_cases hneg : S.newest < 0
        · have e := Lib.hid (by unfold atTick; exact if_pos hneg : atTick S f = f)
          go_wp2_with fail
          refine (HA.out _).mono ?_
          rintro e w6 ⟨rfl, rfl⟩
          go_wp2_with fail
          go_meet
          exact ⟨by rw [e.out], rfl⟩
        · have e := Lib.hid (by unfold atTick; exact if_neg hneg : atTick S f = S.newest)
          go_wp2_with fail
          go_meet
          exact ⟨by rw [e.out], rfl⟩
      case rest =>
        obtain ⟨rfl, rfl⟩ := hcut
        obtain ⟨tk, htk⟩ : ∃ tk, tk = atTick S f := ⟨_, rfl⟩
        have hk1 : 0 ≤ tk := by rw [htk]; unfold atTick; split <;> omega
        have hk2 : tk ≤ 200 + i := by rw [htk]; unfold atTick; split <;> omega
        have hk3 : S.L.length = 0 → tk ≤ 99 := fun h => by
          have : S.newest = -1 := by unfold Sp.newest; rw [dif_neg (by omega)]
          rw [htk, atTick, if_pos (by omega)]; omega
        rw [← htk]
        have HK3 := Lib.hid hk3
        clear hk3 htk
        have hqA : q ≠ A := fun h => P5.out.qn (by simp [h])
        have B1 := Lib.hid t1
        obtain ⟨d0, d1, d2⟩ := P5.out.ac
        obtain ⟨e0, e1, e2⟩ := P5.out.qc
        rcases (show x.1 < 2 ∨ x.1 = 2 ∨ x.1 = 3 by omega) with hd | hd | hd
        case' inl =>
          go_wp2_with fail
          refine (refset_any P5.out.ref P5.out.gl _ _).mono ?_
          rintro e w6 ht
          obtain ⟨v2, G2, he, hp⟩ := P5.out.refd ht
          try simp only at he
          subst he
          obtain ⟨yk, yca, yn, ycc, yla, ym, ylc, rfl⟩ := hp.ref.agg
          obtain ⟨m0, m1, m2⟩ := hp.ac
          obtain ⟨n0, n1, n2⟩ := hp.qc
          obtain ⟨o0, o1, o2⟩ := hp.qf
          have P6 := Lib.hid hp
          clear hp ht d0 d1 d2 e0 e1 e2
          go_wp2_with fail
          refine (P6.out.put.call fun F hF => obj_set hF _ _ (by omega)).mono ?_
          rintro e w8 ⟨rfl, hp⟩
          have HM := Lib.hid (hp.mid (i := i) (by omega) (by omega))
          clear hp P6 P5 m0 m1 m2 n0 n1 n2 o0 o1 o2
          go_wp2_with fail
        case' inr.inl =>
          have hdb : (x.1 == 2) = true := by rw [hd]; rfl
          obtain ⟨code, S9, hps⟩ : ∃ code S9, S.push (tk + x.2.1) = (code, S9) := ⟨_, _, rfl⟩
          have HPS := Lib.hid hps
          clear hps
          have HD := Lib.hid hd
          clear hd
          go_wp2_with fail
          refine (refpush_any P5.out.ref P5.out.gl _ B1.out (by omega) HPS.out).mono ?_
          rintro e w6 ht
          obtain ⟨v2, G2, he, hp⟩ := P5.out.refd ht
          try simp only at he
          subst he
          obtain ⟨yk, yca, yn, ycc, yla, ym, ylc, rfl⟩ := hp.ref.agg
          obtain ⟨m0, m1, m2⟩ := hp.ac
          obtain ⟨n0, n1, n2⟩ := hp.qc
          obtain ⟨o0, o1, o2⟩ := hp.qf
          have hql := hp.ql
          have hAl := lt_of_blk hp.ab
          have P6 := Lib.hid hp
          clear hp ht d0 d1 d2 e0 e1 e2
          go_wp2_with fail
          refine ((P6.out.put.fr ((Fr.refl _ _).alloc _)).call fun F hF => by have := obj_push hF (tk + x.2.1) (by omega) (by omega) (fun h => by have := HK3.out h; omega); rwa [HPS.out] at this).mono ?_
          rintro e w8 ⟨rfl, hp⟩
          have HM := Lib.hid (hp.mid (i := i) (by omega) (by omega))
          clear hp P6 P5 m0 m1 m2 n0 n1 n2 o0 o1 o2
          go_wp2_with fail
        case' inr.inr =>
          have hdb : (x.1 == 2) = false := by rw [hd]; rfl
          have hdc : (x.1 == 3) = true := by rw [hd]; rfl
          obtain ⟨code, S9, hps⟩ : ∃ code S9, S.rewind (tk + x.2.1) = (code, S9) := ⟨_, _, rfl⟩
          have HPS := Lib.hid hps
          clear hps
          have HD := Lib.hid hd
          clear hd
          go_wp2_with fail
          refine (refrewind_any P5.out.ref P5.out.gl _ HT3.out (by omega) (fun h0 h1 h2 => HT4.out _ h0 (by omega) (by omega)) HPS.out).mono ?_
          rintro e w6 ht
          obtain ⟨v2, G2, he, hp⟩ := P5.out.refd ht
          try simp only at he
          subst he
          obtain ⟨yk, yca, yn, ycc, yla, ym, ylc, rfl⟩ := hp.ref.agg
          obtain ⟨m0, m1, m2⟩ := hp.ac
          obtain ⟨n0, n1, n2⟩ := hp.qc
          obtain ⟨o0, o1, o2⟩ := hp.qf
          have hql := hp.ql
          have hAl := lt_of_blk hp.ab
          have P6 := Lib.hid hp
          clear hp ht d0 d1 d2 e0 e1 e2
          go_wp2_with fail
          refine ((P6.out.put.fr ((Fr.refl _ _).alloc _)).call fun F hF => by have := obj_rewind hF (tk + x.2.1) (by omega); rwa [HPS.out] at this).mono ?_
          rintro e w8 ⟨rfl, hp⟩
          have HM := Lib.hid (hp.mid (i := i) (by omega) (by omega))
          clear hp P6 P5 m0 m1 m2 n0 n1 n2 o0 o1 o2
          go_wp2_with fail
        all_goals
          obtain ⟨S3, G3, a3, b3, c3, hp⟩ := HM.out
          clear HM
          obtain ⟨k3, ca3, n3, cc3, la3, m3, lc3, hv⟩ := hp.ref.agg
          simp only [Value.agg.injEq, Array.mk.injEq, List.cons.injEq, and_true] at hv
          obtain ⟨rfl, rfl, rfl⟩ := hv
          obtain ⟨rfl, _⟩ := hp.rowRd
          have hl6 : S3.cells.length ≤ 1099511627776 := by rw [hp.ref.six]; omega
          have P9 := Lib.hid (hp.fr ((Fr.refl _ _).drew))
          clear hp
          have cO := P9.out.qc
          go_region_held3 (fun w' => w'.cell? ⟨q, 0, none⟩ = some (.int .i64 k3) ∧ w'.cell? ⟨q, 1, none⟩ = some (.slice ca3 S3.cells.length cc3) ∧ w'.cell? ⟨q, 2, none⟩ = some (.slice la3 m3 lc3)) (first | exact cO | exact cA | exact cB | exact cC | exact cD | exact cE | exact cF)
            (first
            | (go_at_call 28; refine (refnewest_any HE9.out.ref).mono ?_; rintro e wF ⟨rfl, o, rfl⟩; have hF := HE9.out.fr ((Fr.refl _ _).alloc o); have HF9 := Lib.hid hF; have cF := hF.qc; clear hF)
            | (go_at_call 15; refine (pl_newest HD9.out).mono ?_; rintro e wE ⟨rfl, hE⟩; have HE9 := Lib.hid hE; have cE := hE.qc; clear hE)
            | (go_at_call 27; refine (refoldest_any HC9.out.ref).mono ?_; rintro e wD ⟨rfl, o, rfl⟩; have hD := HC9.out.fr ((Fr.refl _ _).alloc o); have HD9 := Lib.hid hD; have cD := hD.qc; clear hD)
            | (go_at_call 14; refine (pl_oldest HB9.out).mono ?_; rintro e wC ⟨rfl, hC⟩; have HC9 := Lib.hid hC; have cC := hC.qc; clear hC)
            | (go_at_call 26; refine (same_yes _ _ _ S3.cells.length cc3 S3.cells HR.out HA9.out.rowRd.2).mono ?_; rintro e wB ⟨rfl, hkB⟩; have hB := HA9.out.fr (drewFr hkB); have HB9 := Lib.hid hB; have cB := hB.qc; clear hB hkB)
            | (go_at_call 22; refine (pl_cells P9.out hl6).mono ?_; rintro e wA ⟨rfl, hA, hr⟩; have HA9 := Lib.hid hA; have HR := Lib.hid hr; have cA := hA.qc; clear hA hr))
          all_goals
            go_wp2_with fail
            go_roundw
            case rel => first | exact ⟨i + 1, by omega, by go_num, HF9.out.next (by omega) (by omega)⟩ | ((repeat apply Exists.intro); exact ⟨⟨i + 1, by omega, by go_num, HF9.out.next (by omega) (by omega)⟩, rfl⟩)
            case measure => simp [intOf]; omega
    · have HO := Lib.hid g1
      clear g1 g2 g3 g4 g5
      go_wp2_with fail
      refine (lives_any _).mono ?_
      rintro e w9 ⟨rfl, f9⟩
      go_wp2_with fail
      go_ret
      exact ⟨rfl, (HO.out.frame.trans f9 (by simp [Ext])).nil⟩
end Go.Proofs.Ytchigfofcdildaa
