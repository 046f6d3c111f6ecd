/- CellmemChanged returns true. -/
import Derived.Test.YtoolojpjopodgaaUndo9
namespace Go.Proofs.Ytoolojpjopodgaa
open Go.RowKit

def ksL (zs : List (Int × Int)) (i : Nat) : List Int := (zs.take i).map fun z => around z.1 6
theorem ksL_succ (zs : List (Int × Int)) (i : Nat) (hi : i < zs.length) : ksL zs (i + 1) = ksL zs i ++ [around zs[i].1 6] := by
  unfold ksL; rw [List.take_succ_eq_append_getElem hi, List.map_append]; rfl

theorem MemS.app_len (s : MemS) (o : OpS) : (s.app o).2.2.cells.length = s.cells.length := by
  unfold MemS.app
  split
  · unfold MemS.undoC; simp only; split
    · exact unwind_length _ _
    · rfl
  · split
    · unfold MemS.discC; simp only; split <;> rfl
    · split
      · rfl
      · exact s.len_set _ _
theorem builtS_len (cells l : List Int) : (builtS cells l).cells.length = 6 := by
  unfold builtS runOps
  suffices h : ∀ (ops : List OpS) (s : MemS), (ops.foldl (fun s o => (s.app o).2.2) s).cells.length = s.cells.length by rw [h]; exact sixL_len cells
  intro ops
  induction ops with
  | nil => intro s; rfl
  | cons o ops ih => intro s; rw [List.foldl_cons, ih, MemS.app_len]

theorem setsS_spec (S : MemS) (h6 : S.cells.length = 6) (zs : List (Int × Int)) (i : Nat) (hi : i ≤ zs.length) :
    (setsS S zs i).cells.length = 6 ∧ (setsS S zs i).base = S.base ∧ (∃ t, (setsS S zs i).log = S.log ++ t ∧ t.map (·.1) = ksL zs i) ∧ ∀ j : Nat, (j : Int) ∉ ksL zs i → (setsS S zs i).cells[j]? = S.cells[j]? := by
  induction i with
  | zero => exact ⟨h6, rfl, ⟨[], by simp [setsS], rfl⟩, fun j _ => rfl⟩
  | succ i ih =>
    obtain ⟨h1, h2, ⟨t, h3, h4⟩, h5⟩ := ih (by omega)
    have hb := around_lt zs[i].1 (m := 6) (by omega)
    obtain ⟨k, hk⟩ := Int.eq_ofNat_of_zero_le hb.1
    rw [setsS_succ S zs i (by omega), ksL_succ zs i (by omega), hk, (setsS S zs i).set_in k _ (by omega)]
    refine ⟨by simpa using h1, h2, ⟨t ++ [((k : Int), (setsS S zs i).cells[k]'(by omega))], by simp [h3], by simp [h4]⟩, fun j hj => ?_⟩
    simp only [List.mem_append, List.mem_singleton, not_or] at hj
    rw [List.getElem?_set, if_neg (by omega), h5 j hj.1]

theorem setsS_mem (S : MemS) (h6 : S.cells.length = 6) (zs : List (Int × Int)) (i : Nat) (hi : i ≤ zs.length) (hok : (setsS S zs i).ok) (x : Int) : x ∈ (setsS S zs i).chg S.mark ↔ x ∈ ksL zs i := by
  obtain ⟨h1, h2, ⟨t, h3, h4⟩, h5⟩ := setsS_spec S h6 zs i hi
  rw [MemS.chg_mem hok, h2, h3, show (S.mark - S.base).toNat = S.log.length by unfold MemS.mark; omega, List.drop_left, h4]

def KsInv (W : World) (p : Nat) (S : MemS) (zs : List (Int × Int)) (bx : Nat) (sv iv : Value) (wr : World) : Prop :=
  ∃ (i : Nat) (oa : Option Addr) (oc : Nat), i ≤ zs.length ∧ i ≤ 20 ∧ iv = .int .i64 (i : Int) ∧ sv = .slice oa (ksL zs i).length oc ∧ OwnG (memX p (setsS S zs i) (30 + i)) W (blk oa ++ [bx]) wr ∧ wr.heap[bx]? = some (row S.cells) ∧
    Seg wr 3 1 oa (ksL zs i).length oc (ints (ksL zs i)) ∧ bx ∉ blk oa

set_option maxRecDepth 100000 in
set_option maxHeartbeats 8000000 in
theorem chg_walk (w : World) (ao bo po : Option Addr) (ac bc pc : Nat) (cells l : List Int) (zs : List (Int × Int)) (hc : Rd w 1 ao cells.length (ints cells)) (hl : Rd w 1 bo l.length (ints l)) (hb : ∀ x ∈ l, bounded x) (hz : Srcp w po zs) :
    Calls Try.prog 7 #[.slice ao cells.length ac, .slice bo l.length bc, .slice po zs.length pc] w fun e w' => e = .returned (.bool true) ∧ Fr [] w w' := by
  obtain ⟨ii, hii, hii0, hii1, hii2⟩ := info_parts infoIntC
  have HBU := Lib.hid (built_any (G := []) (Fr.refl [] w) (by simp) ao bo ac bc cells l hc hl hb)
  have HZ := Lib.hid hz
  have hlen : zs.length ≤ 9223372036854775807 := by have := hz.rd.2.1; unfold maxLen at this; omega
  clear hc hl hb hz
  go_enter Try.func7, Try.ntmps7
  go_wp2_with fail
  refine HBU.out.mono ?_
  rintro e w1 ⟨p, rfl, h1, -⟩
  have hg := h1.good
  have h6 := builtS_len cells l
  obtain ⟨S, hS⟩ : ∃ S, S = builtS cells l := ⟨_, rfl⟩
  rw [← hS] at h1 hg h6
  obtain ⟨P, hP⟩ : ∃ P, S.mark = P := ⟨_, rfl⟩
  have H6 := Lib.hid h6
  have H1 := Lib.hid h1
  have HPM := Lib.hid hP
  clear h1 hg hS h6 hP HBU
  go_wp2_with fail
  refine (m_cells H1.out rfl).mono ?_
  rintro e w2 ⟨bx, rfl, hrow, h2, -, -⟩
  rw [H6.out]
  have H2 := Lib.hid h2
  have HR := Lib.hid hrow
  clear h2 hrow H1
  go_wp2_with fail
  refine (m_mark H2.out (by omega) HPM.out).mono ?_
  rintro e w3 ⟨rfl, k3, rfl⟩
  have HST := Lib.hid (⟨0, none, 0, by omega, by omega, rfl, rfl, (H2.out.drewN k3).more (by omega), HR.out, by simpa [ksL, ints] using Seg.nil _ _ 1, by simp [blk]⟩ : KsInv w p S zs bx (.slice none 0 0) (.int .i64 0) (w2.drewN k3))
  clear H2 HR
  go_wp2_with fail
  go_loopw [10, 11] (fun sv iv wr => KsInv w p S zs bx sv iv wr) (fun _ iv _ => 20 - (intOf iv).toNat)
  case atStart => exact HST.out
  case round =>
    clear HST
    obtain ⟨i, oa, oc, hi, hi20, rfl, rfl, hown, hrow, hseg, hbx⟩ := hrel
    obtain ⟨K, hK⟩ : ∃ K, K = ksL zs i := ⟨_, rfl⟩
    have hKl : K.length ≤ 20 := by rw [hK]; unfold ksL; simp; omega
    rw [← hK] at hseg ⊢
    have HK := Lib.hid hK
    have HO := Lib.hid hown
    have HR := Lib.hid hrow
    have HS := Lib.hid hseg
    have HBX := Lib.hid hbx
    clear hown hrow hK hseg hbx
    by_cases hlt : i < zs.length ∧ i < 20
    · obtain ⟨h1, h2⟩ := hlt
      obtain ⟨g, off, rfl, c0, c1⟩ := HZ.out.pair HO.out.frame h1
      have hbn := HZ.out.bnd _ (List.getElem_mem h1)
      obtain ⟨k, hk, hk0, hk6, hA⟩ := around6 zs[i].1 hbn.1
      have HSE := Lib.hid (by rw [setsS_succ S zs i h1, hk] : setsS S zs (i + 1) = (setsS S zs i).set k zs[i].2)
      have HKE := Lib.hid (by rw [ksL_succ zs i h1, hk, ← HK.out] : ksL zs (i + 1) = K ++ [k])
      obtain ⟨x, hx⟩ : ∃ x, x = zs[i].1 := ⟨_, rfl⟩
      obtain ⟨y, hy⟩ : ∃ y, y = zs[i].2 := ⟨_, rfl⟩
      rw [← hx] at c0 hA
      rw [← hy] at c1 HSE
      have HA := Lib.hid hA
      have HYE := Lib.hid hy
      clear hk hA hx hy hbn
      have HSA := Lib.hid fun (o : Obj) => HS.out.alloc o
      have HNW := Lib.hid (fun (v : Value) j u hu => by
        rw [Addr.add_mid, Nat.zero_add, World.cell?_alloc_new]; simpa using hu : ∀ v j u, [v][j]? = some u → (wr.alloc (.cells #[v] 3)).cell? ((⟨wr.heap.size, 0, none⟩ : Addr).add j) = some u)
      go_wp2_with fail
      refine (HA.out _).mono ?_
      rintro e w4 ⟨rfl, hw4⟩
      rw [hw4]
      clear hw4 c0 c1
      go_wp2_with (at_builtin; refine wpList_append_seg rfl _ _ 22 rfl 3 ii _ 1 8 Try.underlying22 hii hii0 hii1 hii2 rfl (by decide) oa K.length oc (ints K) rfl (HSA.out _) ⟨_, 0, none⟩ 1 1 [_] rfl rfl (HNW.out _) (by simp [Value.oneCell']) (by unfold maxLen; omega) (by omega) ?_; intro ao' cap' w5 hs5 hf5 hx5; have HF5 := Lib.hid (((Fr.refl (blk oa) wr).alloc _).trans hf5 (Ext.refl _ _)); have HX5 := Lib.hid hx5; have HS5 := Lib.hid hs5; clear hs5 hf5 hx5; obtain ⟨g2, off2, hgo, -, c1⟩ := HZ.out.pair (HO.out.frame.trans HF5.out (fun k hk => .inr (HO.out.gnew k (by simp [hk])).1)) h1; cases hgo; rw [← HYE.out] at c1)
      have H5 := Lib.hid (HO.out.own (memX_frm _ _ _) HF5.out (fun k hk => by simp [hk]) (G' := blk ao' ++ [bx]) (fun k hk => by
        rcases List.mem_append.1 hk with h | h
        · refine ⟨?_, HS5.out.lt k h⟩
          rcases HX5.out k h with h3 | h3
          · exact .inl (by simp [h3])
          · right; simp at h3; omega
        · simp at h; subst h
          exact ⟨.inl (by simp), Nat.lt_of_lt_of_le (lt_of_blk HR.out) HF5.out.size⟩))
      have R5 := Lib.hid (HF5.out.blk HR.out HBX.out)
      have B5 := Lib.hid (show bx ∉ blk ao' from fun hm => by
        rcases HX5.out _ hm with h | h
        · exact HBX.out h
        · have := lt_of_blk HR.out; simp at h; omega)
      refine (m_set H5.out k y (by omega) HSE.out.symm).mono ?_
      rintro e w6 ⟨rfl, h6, k6⟩
      have H6' := Lib.hid h6
      have R6 := Lib.hid ((k6 bx (by simp)).trans R5.out)
      have S6 := Lib.hid (HS5.out.kept k6 (fun k hk => by simp [hk]))
      clear h6 k6 c1
      go_wp2_with fail
      go_roundw
      case rel =>
        refine ⟨i + 1, ao', cap', by omega, by omega, by go_num, by rw [HKE.out]; simp, by have h := H6'.out; rw [show (30 : Int) + ((i + 1 : Nat) : Int) = 30 + (i : Int) + 1 by omega]; exact h, R6.out, ?_, B5.out⟩
        rw [HKE.out, ints_append]
        have h := S6.out
        simpa [ints] using h
      case measure => simp [intOf]; omega
    · have hg2 := HO.out.good
      have hin := (setsS_grew S zs i).in
      obtain ⟨C, hC⟩ : ∃ C, C = (setsS S zs i).chg P := ⟨_, rfl⟩
      have HCM := Lib.hid (by rw [hC, ← HPM.out, HK.out]; exact setsS_mem S H6.out zs i hi hg2.ok : ∀ x, x ∈ C ↔ x ∈ K)
      have HCI := Lib.hid (by rw [hC]; exact MemS.chg_incr _ _ : Incr C)
      have hCl : C.length ≤ 6 := by rw [hC]; exact Nat.le_trans (MemS.chg_len _ _) (by rw [(setsS_spec S H6.out zs i hi).1]; exact Nat.le_refl _)
      have HC := Lib.hid hC.symm
      have HIN := Lib.hid (HPM.out ▸ hin : (setsS S zs i).base ≤ P ∧ P ≤ (setsS S zs i).base + (setsS S zs i).log.length)
      have HGT := Lib.hid (fun (j : Nat) (hj : j < 6) (hm : (j : Int) ∉ C) => (by
        obtain ⟨a1, -, -, a4⟩ := setsS_spec S H6.out zs i hi
        have a5 := a4 j (by rw [← HK.out]; exact fun h => hm ((HCM.out _).2 h))
        rw [MemS.get, show (setsS S zs i).has j = true by simp [MemS.has, a1]; omega, if_pos rfl, List.getD_eq_getElem?_getD, Int.toNat_natCast, a5]
        rw [List.getElem?_eq_getElem (by rw [H6.out]; exact hj)]
        rfl : (setsS S zs i).get j = S.cells[j]'(by rw [H6.out]; exact hj)))
      have hcs : (i < zs.length ∧ ¬ i < 20) ∨ ¬ i < zs.length := by omega
      clear hlt hg2 hin hC
      rcases hcs with ⟨h1, h2⟩ | h1
      all_goals
        go_wp2_with fail
        refine (m_changed HO.out P (by omega) HIN.out.1 HIN.out.2 HC.out).mono ?_
        rintro e w7 ⟨qo, qc, rfl, hs7, h7, k7, -⟩
        have H7 := Lib.hid h7
        have R7 := Lib.hid ((k7 bx (by simp)).trans HR.out)
        have KS7 := Lib.hid (HS.out.kept k7 (fun k hk => by simp [hk]))
        have CS7 := Lib.hid hs7
        clear hs7 h7 k7 HO HR HS
        go_wp2_with fail
        go_loopw [15] (fun iv wr2 => ∃ j : Nat, j ≤ 6 ∧ iv = .int .i64 (j : Int) ∧ ∃ k, wr2 = w7.drewN k) (fun iv _ => 6 - (intOf iv).toNat)
        case atStart => exact ⟨0, by omega, rfl, 0, rfl⟩
        case round =>
          obtain ⟨j, hj, rfl, kj, rfl⟩ := hrel
          by_cases hj6 : j < 6
          · have HH1 := Lib.hid (fun k => hasn_any (w7.drewN k) qo qc C (j : Int) (CS7.out.drewN k).rd)
            have HH2 := Lib.hid (fun k => hasn_any (w7.drewN k) oa oc K (j : Int) (KS7.out.drewN k).rd)
            by_cases hm : (j : Int) ∈ C
            · have hd1 : decide ((j : Int) ∈ C) = true := decide_eq_true hm
              have hd2 : decide ((j : Int) ∈ K) = true := decide_eq_true ((HCM.out _).1 hm)
              rw [hd1] at HH1
              rw [hd2] at HH2
              clear hd1 hd2 hm
              go_wp2_with fail
              refine (HH1.out _).mono ?_
              rintro e w8 ⟨rfl, rfl⟩
              go_wp2_with fail
              refine (HH2.out _).mono ?_
              rintro e w8 ⟨rfl, rfl⟩
              go_wp2_with fail
              go_quiet ((go_at_call 28; exact quiet2 (HH1.out _)))
              go_wp2_with fail
              go_roundw
              case rel => exact ⟨j + 1, by omega, by go_num, _, rfl⟩
              case measure => simp [intOf]; omega
            · have hd1 : decide ((j : Int) ∈ C) = false := decide_eq_false hm
              have hd2 : decide ((j : Int) ∈ K) = false := decide_eq_false (fun h => hm ((HCM.out _).2 h))
              rw [hd1] at HH1
              rw [hd2] at HH2
              obtain ⟨y, hy⟩ : ∃ y, S.cells[j]'(by rw [H6.out]; exact hj6) = y := ⟨_, rfl⟩
              have HGG := Lib.hid (fun k => m_get (H7.out.drewN k) j (by rw [HGT.out j hj6 hm, hy]))
              have cy : w7.cell? ⟨bx, j, none⟩ = some (.int .i64 y) := by rw [← hy]; exact row_cell R7.out (by rw [H6.out]; exact hj6)
              clear hd1 hd2 hm hy
              go_wp2_with fail
              refine (HH1.out _).mono ?_
              rintro e w8 ⟨rfl, rfl⟩
              go_wp2_with fail
              refine (HH2.out _).mono ?_
              rintro e w8 ⟨rfl, rfl⟩
              go_wp2_with fail
              go_quiet ((first | (go_at_call 28; exact quiet2 (HH1.out _)) | (go_at_call 14; exact quiet2 (HGG.out _))))
              go_wp2_with fail
              go_roundw
              case rel => exact ⟨j + 1, by omega, by go_num, _, rfl⟩
              case measure => simp [intOf]; omega
          · go_wp2_with fail
            go_loopw [16] (fun iv wr2 => ∃ j2 : Nat, 1 ≤ j2 ∧ iv = .int .i64 (j2 : Int) ∧ j2 ≤ 7 ∧ ∃ k, wr2 = w7.drewN k) (fun iv _ => 8 - (intOf iv).toNat)
            case atStart => exact ⟨1, by omega, rfl, by omega, kj, rfl⟩
            case round =>
              obtain ⟨j2, hj1, rfl, hj7, k2, rfl⟩ := hrel
              by_cases hj2 : j2 < C.length
              · obtain ⟨g, off, cur, rfl, -, -, hcq, -⟩ := CS7.out.at (by have := CS7.out.2.2.1; omega)
                have hinc : C[j2 - 1]'(by omega) < C[j2] := (List.pairwise_iff_getElem.1 HCI.out) _ _ (by omega) hj2 (by omega)
                obtain ⟨u, hu⟩ : ∃ u, C[j2 - 1]'(by omega) = u := ⟨_, rfl⟩
                obtain ⟨v, hv⟩ : ∃ v, C[j2] = v := ⟨_, rfl⟩
                obtain ⟨j3, hj3⟩ : ∃ j3, j2 = j3 + 1 := ⟨j2 - 1, by omega⟩
                have cu : w7.cell? ⟨g, off + (j2 - 1), none⟩ = some (.int .i64 u) := by rw [hcq _ (by omega), ints_get, List.getElem?_eq_getElem (by omega), hu]; rfl
                have cv : w7.cell? ⟨g, off + j2, none⟩ = some (.int .i64 v) := by rw [hcq _ (by omega), ints_get, List.getElem?_eq_getElem hj2, hv]; rfl
                rw [hu, hv] at hinc
                subst hj3
                simp only [Nat.add_sub_cancel] at cu
                have e1 : IntKind.i64.wrap (((j3 + 1 : Nat) : Int) - 1) = (j3 : Int) := by rw [show ((j3 + 1 : Nat) : Int) - 1 = (j3 : Int) by omega]; exact IntWalk.i64_in _ (by omega)
                have hd : decide (v ≤ u) = false := decide_eq_false (by omega)
                have hj3l : (j3 : Int) < (C.length : Int) := by omega
                clear hcq hu hv
                go_wp2_with fail
                go_quiet (fail)
                go_wp2_with fail
                go_roundw
                case rel => exact ⟨j3 + 1 + 1, by omega, by go_num, by omega, _, rfl⟩
                case measure => simp [intOf]; omega
              · have H8 := Lib.hid (H7.out.drewN k2)
                go_wp2_with fail
                refine (lives_any _).mono ?_
                rintro e w12 ⟨rfl, f12⟩
                have F12 := Lib.hid (H8.out.frame.trans f12 (by simp [Ext]))
                clear f12
                go_wp2_with fail
                go_ret
                exact ⟨rfl, F12.out⟩
end Go.Proofs.Ytoolojpjopodgaa
