/- RangecoderLength returns true. -/
import Derived.Laws.Closers25b
import Derived.Deep.DeepCutAuto
import Derived.Test.YtjehkpfmndfjeaaLaw29c
import Derived.Test.YtjehkpfmndfjeaaSize
import Derived.Test.YtjehkpfmndfjeaaLenP
namespace Go.Proofs.Ytjehkpfmndfjeaa
open Go.RowKit

def NatBelow (m : Nat) (w0 : World) (s : Value) (wc : World) : Prop := ∃ k : Nat, s = .int .i64 (k : Int) ∧ k < m ∧ wc = w0

/-- digits with surplus ones so far -/
def Sur (w : World) (t : Nat) (bv iv : Value) (wr : World) : Prop := ∃ (L : List Nat) (i : Nat) (oa : Option Addr) (oc : Nat), bv = .slice oa L.length oc ∧ iv = .int .i64 (i : Int) ∧ L.length + i = t ∧ i ≤ 3 ∧ 0 < L.length ∧ Bytes L ∧ (∀ x ∈ L, 128 ≤ x) ∧
  Seg wr 5 1 oa L.length oc (bts L) ∧ Fr [] w wr ∧ ∀ k ∈ blk oa, w.heap.size ≤ k

set_option maxRecDepth 100000 in
set_option maxHeartbeats 4000000 in
theorem length_walk (w : World) (n sur cut : Int) (hn : bounded n) (hs : bounded sur) (hc : bounded cut) :
    Calls Try.prog 7 #[.int .i64 n, .int .i64 sur, .int .i64 cut] w fun e w' => e = .returned (.bool true) ∧ Fr [] w w' := by
  obtain ⟨i0, hi0, hz0, hz1, hz2⟩ := info_parts infoByte
  have hn' := hn
  obtain ⟨k1, hk1, -, hA1⟩ := around_nat n 34359738368 hn (by omega) (by omega)
  have HA1 := Lib.hid hA1
  have hh : bounded (n.tdiv 2) := by
    unfold bounded at hn ⊢
    rcases Int.le_total 0 n with h | h
    · rw [Int.tdiv_eq_ediv_of_nonneg h]; omega
    · have h2 : n.tdiv 2 = -((-n).tdiv 2) := by rw [Int.neg_tdiv, Int.neg_neg]
      rw [h2, Int.tdiv_eq_ediv_of_nonneg (by omega)]; omega
  obtain ⟨k2, hk2, -, hA2⟩ := around_nat (n.tdiv 2) 8000 hh (by omega) (by omega)
  have HA2 := Lib.hid hA2
  have hh1 := hh.1
  have hh2 := hh.2
  have HSU := Lib.hid hs
  have HCU := Lib.hid hc
  clear hA1 hA2 hs hc hn' hh hn
  go_enter Try.func7, Try.ntmps7
  go_wp2_with fail
  refine (HA1.out _).mono ?_
  rintro e w1 ⟨rfl, rfl⟩
  go_upto_if 21 with fail
  go_cut [7] (fun s wc => NatBelow 34359738368 w s wc)
  case first =>
    cases hb : (n.tmod 2 == 0)
    · go_wp2_with fail
      go_meet
      exact ⟨k1, rfl, hk1, rfl⟩
    · go_wp2_with fail
      refine (HA2.out _).mono ?_
      rintro e w2 ⟨rfl, rfl⟩
      go_wp2_with fail
      go_meet
      exact ⟨k2, rfl, by omega, rfl⟩
  case rest =>
    obtain ⟨k, rfl, hk, hwc⟩ := hcut
    have F0 := Lib.hid (by rw [hwc]; exact Fr.refl [] w : Fr [] w wc)
    clear HA1 HA2 hk1 hk2 hh1 hh2 hwc
    obtain ⟨D, hD⟩ : ∃ D, D = digits k := ⟨_, rfl⟩
    have HLN := Lib.hid (hD ▸ reflen_any wc k (by omega) : Calls Try.prog 20 #[.int .i64 k] wc (SliceTo wc D))
    have DB := Lib.hid (by rw [hD]; exact digits_bytes k : Bytes D)
    have dp : 0 < D.length := by rw [hD]; exact List.length_pos_iff.2 (digits_ne k)
    have dl : D.length ≤ 5 := by rw [hD]; exact digits_len k 4 (by omega)
    obtain ⟨d1, e1, hd1⟩ : ∃ d1 e1, dec D = (d1, e1) := ⟨_, _, rfl⟩
    have HE1 := Lib.hid (by have := dec_digits k (by omega); rw [← hD, hd1] at this; exact this : e1 = if k = 0 then 0 else if 4000 < k then 2 else 8)
    have HD1 := Lib.hid hd1
    have HDG := Lib.hid hD
    clear hD hd1
    go_wp2_with fail
    refine HLN.out.mono ?_
    rintro e w2 ⟨da, dc, rfl, sd, f2, n2⟩
    have F2 := Lib.hid (F0.out.trans f2 (by simp [Ext]))
    have SD2 := Lib.hid sd
    have N2 := Lib.hid (fun k hk => by have := n2 k hk; have := F0.out.size; omega : ∀ k ∈ blk da, w.heap.size ≤ k)
    have HDC := Lib.hid (by have h := decode_src (sd.src DB.out) sd.lt; rw [HD1.out] at h; exact h)
    clear sd f2 n2 F0 HLN
    go_wp2_with fail
    refine HDC.out.mono ?_
    rintro e w3 ⟨oa, oc, rfl, so, f3, n3⟩
    have F3 := Lib.hid (F2.out.trans f3 (by simp [Ext]))
    have SD3 := Lib.hid (SD2.out.fr f3 (by simp))
    clear so f3 n3 F2 SD2 HDC
    go_upto_if 33 with fail
    go_cut [11] (fun s wc' => s = .int .i64 e1 ∧ wc' = w3)
    case first =>
      by_cases h0 : k = 0
      · have h := HE1.out
        rw [if_pos h0] at h
        have HH := Lib.hid h
        have hb : ((k : Int) == 0) = true := by simp [h0]
        clear h h0
        go_wp2_with fail
        go_meet
        exact ⟨by rw [HH.out], rfl⟩
      · have hb : ((k : Int) == 0) = false := by simp; omega
        by_cases h4 : 4000 < k
        · have h := HE1.out
          rw [if_neg h0, if_pos h4] at h
          have HH := Lib.hid h
          clear h h0
          go_wp2_with fail
          go_meet
          exact ⟨by rw [HH.out], rfl⟩
        · have h := HE1.out
          rw [if_neg h0, if_neg h4] at h
          have HH := Lib.hid h
          clear h h0
          go_wp2_with fail
          go_meet
          exact ⟨by rw [HH.out], rfl⟩
    case rest =>
      obtain ⟨rfl, rfl⟩ := hcut
      have hb1 : (e1 != e1) = false := by simp
      obtain ⟨j, hj, -, hAR⟩ := around_nat cut D.length HCU.out dp (by omega)
      have HAR := Lib.hid hAR
      have hdc : D.length ≤ dc := SD3.out.2.2.1
      have hto := run_slice_to (P := Try.prog) 22 5 Try.underlying22 1 (by kernel_rfl) da D.length dc j (by omega)
      have HDC := Lib.hid (by
        have h := SD3.out.take (k := j) (by omega)
        have hl : (D.take j).length = j := by rw [List.length_take]; omega
        rw [bts_take, Nat.mul_one] at h
        have h2 := decode_src (Seg.src (l := D.take j) (by rw [hl]; exact h) (DB.out.take j)) SD3.out.lt
        rw [hl, show D.take j = (digits k).take j by rw [HDG.out], dec_cut k j (by rw [← HDG.out]; exact hj)] at h2
        exact h2 : Calls Try.prog 17 #[.slice da j dc] wc (DecRes wc ([], 7)))
      clear hAR HE1 HCU
      go_wp2_with fail
      refine (HAR.out _).mono ?_
      rintro e w4 ⟨rfl, rfl⟩
      go_wp2_with fail
      refine HDC.out.mono ?_
      rintro e w5 ⟨pa, pc, rfl, sp, f5, n5⟩
      have F5 := Lib.hid (F3.out.trans f5 (by simp [Ext]))
      have SD5 := Lib.hid (SD3.out.fr f5 (by simp))
      clear sp f5 n5 HDC F3 SD3 hto
      obtain ⟨I, d, hI, hd, hIb⟩ := digits_split k
      obtain ⟨m, hm⟩ : ∃ m, m = I.length := ⟨_, rfl⟩
      have hDI : D = I ++ [d] := by rw [HDG.out]; exact hI
      have hlm : (D.length : Int) - 1 = (m : Int) := by rw [hDI, hm]; simp
      have hml : m < D.length := by omega
      obtain ⟨g, off, hda, cz⟩ := SD5.out.cell0 hml
      have hDm : D[m] = d := by simp [hDI, hm]
      rw [hDm] at cz
      subst hda
      have fz : w5.frozen? ⟨g, off + m, none⟩ = false := by
        obtain ⟨g', off', cur, ha, hg, _, _, hf⟩ := SD5.out.at (by omega)
        cases ha; exact hf _
      have HSTO := Lib.hid (SD5.out.store (i := m) (by omega) (.int .u8 ((d : Int) + 128)))
      have HF6 := Lib.hid ((Fr.refl (blk (some ⟨g, off, none⟩)) w5).setCell (p := ⟨g, off + m, none⟩) (.inl (by simp [blk])) (.int .u8 ((d : Int) + 128)))
      have HDI := Lib.hid hDI
      have HM := Lib.hid hm
      have HIB := Lib.hid hIb
      have hmi : (m : Int) < (D.length : Int) := by omega
      clear hI hIb hm hDI hDm
      obtain ⟨s, hs4, -, hA4⟩ := around_nat sur 4 HSU.out (by omega) (by omega)
      have HA4 := Lib.hid hA4
      clear hA4 HSU
      go_wp2_with fail
      refine (HA4.out _).mono ?_
      rintro e w6 ⟨rfl, rfl⟩
      have HST := Lib.hid (by
        have hlD : (I ++ [d + 128]).length = D.length := by rw [HDI.out]; simp
        refine ⟨I ++ [d + 128], s, some ⟨g, off, none⟩, dc, by rw [hlD], rfl, by rw [hlD], by omega, by rw [hlD]; omega, ?_, ?_, ?_, F5.out.trans HF6.out (fun k hk => .inr (N2.out k hk)), N2.out⟩
        · intro x hx
          rcases List.mem_append.1 hx with h | h
          · exact (HIB.out x h).2
          · simp at h; omega
        · intro x hx
          rcases List.mem_append.1 hx with h | h
          · exact (HIB.out x h).1
          · simp at h; omega
        · rw [hlD]
          have h := HSTO.out
          rw [show (bts D).set m (.int .u8 ((d : Int) + 128)) = bts (I ++ [d + 128]) by rw [HDI.out, HM.out]; simp [bts]] at h
          exact h : Sur w (D.length + s) (.slice (some ⟨g, off, none⟩) D.length dc) (.int .i64 (s : Int)) (w5.setCell ⟨g, off + m, none⟩ (.int .u8 ((d : Int) + 128))))
      clear HSTO HF6 cz fz hlm
      go_wp2_with fail
      go_loopw [8, 14] (fun bv iv wr => Sur w (D.length + s) bv iv wr) (fun _ iv _ => (intOf iv).toNat)
      case atStart => exact HST.out
      case round =>
        clear HST
        obtain ⟨L, i, la, lc, rfl, rfl, hLi, hi3, hL0, hLb, hLh, hLs, hLf, hLn⟩ := hrel
        have LB := Lib.hid hLb
        have LH := Lib.hid hLh
        have SL := Lib.hid fun (o : Obj) => hLs.alloc o
        have FL := Lib.hid hLf
        have NL := Lib.hid hLn
        have HN := Lib.hid (fun (v : Value) j u hu => by
          rw [Addr.add_mid, Nat.zero_add, World.cell?_alloc_new]; simpa using hu : ∀ v j u, [v][j]? = some u → (wr.alloc (.cells #[v] 5)).cell? ((⟨wr.heap.size, 0, none⟩ : Addr).add j) = some u)
        have HLI := Lib.hid hLi
        have hlm9 : L.length ≤ 9 := by omega
        clear hLb hLh hLs hLf hLn hLi
        by_cases hi0' : 0 < i
        · go_wp2_with (at_builtin; refine wpList_append_seg rfl _ _ 22 rfl 5 i0 _ 1 1 Try.underlying22 hi0 hz0 hz1 hz2 rfl (by decide) la L.length lc (bts L) rfl (SL.out _) ⟨_, 0, none⟩ 1 1 [_] rfl rfl (HN.out _) (by simp [Value.oneCell']) (by unfold maxLen; omega) (by omega) ?_; intro ao' cap' w8 hs8 hf8 hx8; have HS8 := Lib.hid hs8; have HF8 := Lib.hid hf8; have HX8 := Lib.hid hx8; clear hs8 hf8 hx8)
          go_roundw
          case rel =>
            refine ⟨L ++ [128], i - 1, ao', cap', by rw [List.length_append]; rfl, by go_num, by rw [List.length_append]; have := HLI.out; simp; omega, by omega, by simp, LB.out.append (by intro x hx; simp at hx; omega), ?_, by rw [bts_append, List.length_append]; exact HS8.out, (FL.out.alloc _).trans HF8.out (fun k hk => .inr (NL.out k hk)), ?_⟩
            · intro x hx
              rcases List.mem_append.1 hx with h | h
              · exact LH.out x h
              · simp at h; omega
            · intro k hk
              rcases HX8.out k hk with h | h
              · exact NL.out k h
              · have := FL.out.size
                simp at h; omega
          case measure => simp [intOf]; omega
        · obtain ⟨c, hc⟩ : ∃ c : Int, c = if L.length < 5 then 8 else 7 := ⟨_, rfl⟩
          have HC := Lib.hid hc
          clear hc
          go_wp2_with (at_builtin; refine wpList_append_seg rfl _ _ 22 rfl 5 i0 _ 1 1 Try.underlying22 hi0 hz0 hz1 hz2 rfl (by decide) la L.length lc (bts L) rfl (SL.out _) ⟨_, 0, none⟩ 1 1 [_] rfl rfl (HN.out _) (by simp [Value.oneCell']) (by unfold maxLen; omega) (by omega) ?_; intro ao' cap' w8 hs8 hf8 hx8; have HS8 := Lib.hid hs8; have HF8 := Lib.hid hf8; have HX8 := Lib.hid hx8; clear hs8 hf8 hx8)
          have F8 := Lib.hid ((FL.out.alloc _).trans HF8.out (fun k hk => .inr (NL.out k hk)))
          have HDC2 := Lib.hid (by
            have hs := HS8.out
            have hln : L.length + 1 = (L ++ [0]).length := by simp
            rw [show bts L ++ [Value.int IntKind.u8 0] = bts (L ++ [0]) by simp [bts], hln] at hs
            have h2 := decode_src (hs.src (LB.out.append (by intro x hx; simp at hx; omega))) hs.lt
            rw [dec_surplus L LH.out hL0, ← hln, ← HC.out] at h2
            exact h2 : Calls Try.prog 17 #[.slice ao' (L.length + 1) cap'] w8 (DecRes w8 ([], c)))
          clear HS8 HF8 HX8 SL HN
          go_wp2_with fail
          refine HDC2.out.mono ?_
          rintro e w9 ⟨ra, rc, rfl, sr, f9, n9⟩
          have F9 := Lib.hid (F8.out.trans f9 (by simp [Ext]))
          clear sr f9 n9 F8 HDC2
          by_cases h5 : L.length < 5
          · have hcc : c = 8 := by rw [HC.out, if_pos h5]
            subst hcc
            go_wp2_with fail
            refine (lives_any _).mono ?_
            rintro e w10 ⟨rfl, f10⟩
            go_wp2_with fail
            go_ret
            exact ⟨rfl, F9.out.trans f10 (by simp [Ext])⟩
          · have hcc : c = 7 := by rw [HC.out, if_neg h5]
            subst hcc
            go_wp2_with fail
            refine (lives_any _).mono ?_
            rintro e w10 ⟨rfl, f10⟩
            go_wp2_with fail
            go_ret
            exact ⟨rfl, F9.out.trans f10 (by simp [Ext])⟩
end Go.Proofs.Ytjehkpfmndfjeaa
