/- CellmemNested returns true. -/
import Derived.Deep.RegionHeld3
import Derived.Test.YtoolojpjopodgaaChg9
namespace Go.Proofs.Ytoolojpjopodgaa
open Go.RowKit

theorem infoSl : (Try.prog.info? 22).map (fun i => (i.zero, i.size, i.bytes)) = some (some (.slice none 0 0), 1, 24) := by kernel_rfl

def rowV (b : Nat) : Value := .slice (some ⟨b, 0, none⟩) 6 6
def natsI (i : Nat) : List Int := (List.range i).map fun j : Nat => (j : Int)
theorem natsI_len (i : Nat) : (natsI i).length = i := by simp [natsI]
theorem natsI_succ (i : Nat) : natsI (i + 1) = natsI i ++ [(i : Int)] := by simp [natsI, List.range_succ]
theorem natsI_get (i j : Nat) (h : j < i) : (natsI i)[j]? = some (j : Int) := by simp [natsI, h]

/-- what has been written down: the states' rows bs, the marks -/
structure NestD (S0 : MemS) (zs : List (Int × Int)) (i : Nat) (sto : Option Addr) (tc : Nat) (mo : Option Addr) (mc : Nat) (bs : List Nat) (w : World) : Prop where
  len : bs.length = i
  rows : ∀ (j : Nat) (hj : j < bs.length), w.heap[bs[j]]? = some (row (setsS S0 zs j).cells)
  st : Seg w 22 1 sto i tc (bs.map rowV)
  mks : Seg w 3 1 mo i mc (ints (natsI i))
  d1 : ∀ k ∈ blk sto, k ∉ bs ∧ k ∉ blk mo
  d2 : ∀ k ∈ blk mo, k ∉ bs

def nestG (sto mo : Option Addr) (bs : List Nat) : List Nat := blk mo ++ (blk sto ++ bs)

theorem NestD.kept {S0 : MemS} {zs : List (Int × Int)} {i : Nat} {sto : Option Addr} {tc : Nat} {mo : Option Addr} {mc : Nat} {bs : List Nat} {w w' : World} (h : NestD S0 zs i sto tc mo mc bs w) (hk : Kept (nestG sto mo bs) w w') : NestD S0 zs i sto tc mo mc bs w' :=
  ⟨h.len, fun j hj => (hk _ (by simp [nestG])).trans (h.rows j hj), h.st.same (fun k hm => hk k (by simp [nestG, hm])), h.mks.same (fun k hm => hk k (by simp [nestG, hm])), h.d1, h.d2⟩

theorem setsS_mark (S : MemS) (h6 : S.cells.length = 6) (hl : S.log = []) (hb : S.base = 0) (zs : List (Int × Int)) (i : Nat) (hi : i ≤ zs.length) : (setsS S zs i).mark = (i : Int) := by
  obtain ⟨-, h2, ⟨t, h3, h4⟩, -⟩ := setsS_spec S h6 zs i hi
  have : t.length = i := by rw [← List.length_map (f := (·.1)), h4]; simp [ksL]; omega
  unfold MemS.mark
  rw [h2, hb, h3, hl]
  simp [this]

def NestSt (W : World) (p : Nat) (S0 : MemS) (zs : List (Int × Int)) (sv mv iv : Value) (wr : World) : Prop :=
  ∃ (i : Nat) (sto : Option Addr) (tc : Nat) (mo : Option Addr) (mc : Nat) (bs : List Nat), i ≤ zs.length ∧ i ≤ 12 ∧ iv = .int .i64 (i : Int) ∧ sv = .slice sto i tc ∧ mv = .slice mo i mc ∧
    OwnG (memX p (setsS S0 zs i) i) W (nestG sto mo bs) wr ∧ NestD S0 zs i sto tc mo mc bs wr

set_option maxRecDepth 100000 in
set_option maxHeartbeats 8000000 in
theorem nested_walk (w : World) (ao po : Option Addr) (ac pc : Nat) (cells : List Int) (zs : List (Int × Int)) (hc : Rd w 1 ao cells.length (ints cells)) (hz : Srcp w po zs) :
    Calls Try.prog 5 #[.slice ao cells.length ac, .slice po zs.length pc] w fun e w' => e = .returned (.bool true) ∧ Fr [] w w' := by
  obtain ⟨ii, hii, hii0, hii1, hii2⟩ := info_parts infoIntC
  obtain ⟨ij, hij, hij0, hij1, hij2⟩ := info_parts infoSl
  have HSX := Lib.hid (six_any w ao ac cells hc)
  have HZ := Lib.hid hz
  have hlen : zs.length ≤ 9223372036854775807 := by have := hz.rd.2.1; unfold maxLen at this; omega
  clear hc hz
  go_enter Try.func5, Try.ntmps5
  go_wp2_with fail
  refine HSX.out.mono ?_
  rintro e w1 ⟨b, rfl, hb1, hrow, hf1⟩
  have h6 := sixL_len cells
  obtain ⟨X0, hX0⟩ : ∃ X, X = sixL cells := ⟨_, rfl⟩
  rw [← hX0] at hrow h6
  have HN := Lib.hid (by
    have h := m_new' (W := w) (G := []) hf1 (some ⟨b, 0, none⟩) 6 X0 (row_seg hrow (by rw [h6]; unfold maxLen; omega)).rd (by rw [h6]; omega) (by simp)
    rw [h6] at h
    exact h)
  have H6 := Lib.hid h6
  clear hrow hf1 hb1 h6 hX0 HSX
  go_wp2_with fail
  refine HN.out.mono ?_
  rintro e w2 ⟨p, rfl, h2, -⟩
  obtain ⟨S0, hS0⟩ : ∃ S, S = (⟨X0, [], 0⟩ : MemS) := ⟨_, rfl⟩
  rw [← hS0] at h2
  have HL0 := Lib.hid (by rw [hS0]; exact H6.out : S0.cells.length = 6)
  have HMK := Lib.hid (fun i hi => setsS_mark S0 HL0.out (by rw [hS0]) (by rw [hS0]) zs i hi)
  have HST := Lib.hid (⟨0, none, 0, none, 0, [], by omega, by omega, rfl, rfl, rfl, by simpa [nestG, blk, setsS] using h2, ⟨rfl, by simp, by simpa using Seg.nil _ _ 1, by simpa [natsI, ints] using Seg.nil _ _ 1, by simp [blk], by simp [blk]⟩⟩ : NestSt w p S0 zs (.slice none 0 0) (.slice none 0 0) (.int .i64 0) w2)
  clear h2 hS0 HN
  go_wp2_with fail
  go_loopw [6, 7, 8] (fun sv mv iv wr => NestSt w p S0 zs sv mv iv wr) (fun _ _ iv _ => 12 - (intOf iv).toNat)
  case atStart => exact HST.out
  case round =>
    clear HST
    obtain ⟨i, sto, tc, mo, mc, bs, hi, hi12, rfl, rfl, rfl, hown, hd⟩ := hrel
    have HO := Lib.hid hown
    have HD := Lib.hid hd
    have HLC := Lib.hid (setsS_spec S0 HL0.out zs i hi).1
    have HMI := Lib.hid (HMK.out i hi)
    clear hown hd
    by_cases hlt : i < zs.length ∧ i < 12
    · obtain ⟨h1, h2⟩ := hlt
      obtain ⟨C, hC⟩ : ∃ C, C = (setsS S0 zs i).cells := ⟨_, rfl⟩
      have HCE := Lib.hid hC
      have HMC := Lib.hid (by have h := m_cells HO.out (l := C) hC.symm; rw [show C.length = 6 by rw [hC]; exact HLC.out] at h; exact h)
      clear hC
      go_wp2_with fail
      refine HMC.out.mono ?_
      rintro e w4 ⟨b4, rfl, hr4, h4, k4, n4⟩
      have H4 := Lib.hid h4
      have D4 := Lib.hid (HD.out.kept k4)
      have R4 := Lib.hid hr4
      have hfresh : ∀ k ∈ nestG sto mo bs, k ≠ b4 := fun k hk => by have := (HO.out.gnew k hk).2; omega
      have HFR := Lib.hid hfresh
      have HSA := Lib.hid fun (o : Obj) => D4.out.st.alloc o
      have HNW := Lib.hid (fun (v : Value) j u hu => by
        rw [Addr.add_mid, Nat.zero_add, World.cell?_alloc_new]; simpa using hu : ∀ v j u, [v][j]? = some u → (w4.alloc (.cells #[v] 22)).cell? ((⟨w4.heap.size, 0, none⟩ : Addr).add j) = some u)
      clear hr4 h4 k4 n4 hfresh HMC
      go_upto_region 10 with (at_builtin; refine wpList_append_seg rfl _ _ 40 rfl 22 ij _ 1 24 Try.underlying40 hij hij0 hij1 hij2 rfl (by decide) sto i tc (bs.map rowV) rfl (HSA.out _) ⟨_, 0, none⟩ 1 1 [_] rfl rfl (HNW.out _) (by simp [Value.oneCell']) (by unfold maxLen; omega) (by omega) ?_; intro ao' cap' w5 hs5 hf5 hx5; have HF5 := Lib.hid (((Fr.refl (blk sto) w4).alloc _).trans hf5 (Ext.refl _ _)); have HX5 := Lib.hid hx5; have HS5 := Lib.hid hs5; clear hs5 hf5 hx5)
      have NX5 := Lib.hid (show ∀ k ∈ blk ao', k ∈ blk sto ∨ w4.heap.size ≤ k from fun k hk => by
        rcases HX5.out k hk with h | h
        · exact .inl h
        · right; simp at h; omega)
      have H5 := Lib.hid (H4.out.own (memX_frm _ _ _) HF5.out (fun k hk => by simp [nestG, hk]) (G' := blk mo ++ (blk ao' ++ (bs ++ [b4]))) (fun k hk => by
        simp only [List.mem_append, List.mem_singleton] at hk
        rcases hk with h | h | h | h
        · exact ⟨.inl (by simp [nestG, h]), Nat.lt_of_lt_of_le (H4.out.gnew k (by simp [nestG, h])).2 HF5.out.size⟩
        · refine ⟨?_, HS5.out.lt k h⟩
          rcases NX5.out k h with h3 | h3
          · exact .inl (by simp [nestG, h3])
          · exact .inr h3
        · exact ⟨.inl (by simp [nestG, h]), Nat.lt_of_lt_of_le (H4.out.gnew k (by simp [nestG, h])).2 HF5.out.size⟩
        · subst h
          exact ⟨.inl (by simp), Nat.lt_of_lt_of_le (lt_of_blk R4.out) HF5.out.size⟩))
      have D5 := Lib.hid (by
        refine ⟨by rw [List.length_append, D4.out.len]; rfl, fun j hj => ?_, by have h := HS5.out; rw [List.map_append]; exact h, fun k hk => ⟨fun hm => ?_, fun hm => ?_⟩, fun k hk hm => ?_⟩
        · rw [List.length_append, D4.out.len] at hj
          by_cases hji : j < bs.length
          · rw [List.getElem_append_left hji]
            exact HF5.out.blk (D4.out.rows j hji) (fun hm => (D4.out.d1 _ hm).1 (List.getElem_mem _))
          · have hje : j = bs.length := by have h9 := D4.out.len; have h10 : j < i + 1 := by simpa using hj
                                           omega
            subst hje
            rw [List.getElem_append_right (Nat.le_refl _)]
            simp only [Nat.sub_self, List.getElem_cons_zero]
            rw [D4.out.len, ← HCE.out]
            exact HF5.out.blk R4.out (fun hm => HFR.out b4 (by simp [nestG, hm]) rfl)
        · rcases NX5.out k hk with h | h
          · rcases List.mem_append.1 hm with h3 | h3
            · exact (D4.out.d1 k h).1 h3
            · simp at h3; exact HFR.out k (by simp [nestG, h]) h3
          · have hkl := HS5.out.lt k hk
            rcases List.mem_append.1 hm with h3 | h3
            · have := (H4.out.gnew k (by simp [nestG, h3])).2; omega
            · simp at h3; have := lt_of_blk R4.out; omega
        · rcases NX5.out k hk with h | h
          · exact (D4.out.d1 k h).2 hm
          · have := (H4.out.gnew k (by simp [nestG, hm])).2; omega
        · rcases List.mem_append.1 hm with h3 | h3
          · exact D4.out.d2 k hk h3
          · simp at h3; exact HFR.out k (by simp [nestG, hk]) h3 :
        (bs ++ [b4]).length = i + 1 ∧ (∀ (j : Nat) (hj : j < (bs ++ [b4]).length), w5.heap[(bs ++ [b4])[j]]? = some (row (setsS S0 zs j).cells)) ∧ Seg w5 22 1 ao' (i + 1) cap' ((bs ++ [b4]).map rowV) ∧ (∀ k ∈ blk ao', k ∉ bs ++ [b4] ∧ k ∉ blk mo) ∧ ∀ k ∈ blk mo, k ∉ bs ++ [b4])
      have M5 := Lib.hid (D4.out.mks.fr HF5.out (fun k hk hm => (D4.out.d1 k hm).2 hk))
      clear HSA HNW H4 HD D4 R4 HFR HX5 HS5 HF5 NX5
      go_wp2_with fail
      refine (m_mark H5.out (by omega) HMI.out).mono ?_
      rintro e w6 ⟨rfl, k6, rfl⟩
      have H6' := Lib.hid (H5.out.drewN k6)
      have M6 := Lib.hid (M5.out.drewN k6)
      have D6 := Lib.hid (show _ ∧ (∀ (j : Nat) (hj : j < (bs ++ [b4]).length), (w5.drewN k6).heap[(bs ++ [b4])[j]]? = some (row (setsS S0 zs j).cells)) ∧ Seg (w5.drewN k6) 22 1 ao' (i + 1) cap' ((bs ++ [b4]).map rowV) ∧ _ from ⟨D5.out.1, D5.out.2.1, D5.out.2.2.1.drewN k6, D5.out.2.2.2⟩)
      obtain ⟨u, hu⟩ : ∃ u, u = w5.drewN k6 := ⟨_, rfl⟩
      rw [← hu] at H6' M6 D6 ⊢
      have HSA := Lib.hid fun (o : Obj) => M6.out.alloc o
      have HNW := Lib.hid (fun (v : Value) j x hx => by
        rw [Addr.add_mid, Nat.zero_add, World.cell?_alloc_new]; simpa using hx : ∀ v j x, [v][j]? = some x → (u.alloc (.cells #[v] 3)).cell? ((⟨u.heap.size, 0, none⟩ : Addr).add j) = some x)
      clear hu H5 D5 M5
      go_upto_region 11 with (at_builtin; refine wpList_append_seg rfl _ _ 22 rfl 3 ii _ 1 8 Try.underlying22 hii hii0 hii1 hii2 rfl (by decide) mo i mc (ints (natsI i)) rfl (HSA.out _) ⟨_, 0, none⟩ 1 1 [_] rfl rfl (HNW.out _) (by simp [Value.oneCell']) (by unfold maxLen; omega) (by omega) ?_; intro mo' mc' w7 hs7 hf7 hx7; have HF7 := Lib.hid (((Fr.refl (blk mo) u).alloc _).trans hf7 (Ext.refl _ _)); have HX7 := Lib.hid hx7; have HS7 := Lib.hid hs7; clear hs7 hf7 hx7)
      have NX7 := Lib.hid (show ∀ k ∈ blk mo', k ∈ blk mo ∨ u.heap.size ≤ k from fun k hk => by
        rcases HX7.out k hk with h | h
        · exact .inl h
        · right; simp at h; omega)
      have H7 := Lib.hid (H6'.out.own (memX_frm _ _ _) HF7.out (fun k hk => by simp [hk]) (G' := nestG ao' mo' (bs ++ [b4])) (fun k hk => by
        rcases List.mem_append.1 hk with h | h
        · refine ⟨?_, HS7.out.lt k h⟩
          rcases NX7.out k h with h3 | h3
          · exact .inl (by simp [h3])
          · exact .inr h3
        · exact ⟨.inl (by simp only [List.mem_append] at h ⊢; exact .inr h), Nat.lt_of_lt_of_le (H6'.out.gnew k (by simp only [List.mem_append] at h ⊢; exact .inr h)).2 HF7.out.size⟩))
      have D7 := Lib.hid (by
        obtain ⟨q1, q2, q3, q4, q5⟩ := D6.out
        refine ⟨q1, fun j hj => HF7.out.blk (q2 j hj) (fun hm => q5 _ hm (List.getElem_mem _)), q3.fr HF7.out (fun k hk hm => (q4 k hk).2 hm), ?_, fun k hk => ⟨(q4 k hk).1, fun hm => ?_⟩, fun k hk hm => ?_⟩
        · rw [natsI_succ, ints_append]
          have h := HS7.out
          simpa [ints] using h
        · rcases NX7.out k hm with h | h
          · exact (q4 k hk).2 h
          · have := (H6'.out.gnew k (by simp [hk])).2; omega
        · rcases NX7.out k hk with h | h
          · exact q5 k h hm
          · have := (H6'.out.gnew k (by rw [List.mem_append, List.mem_append]; exact .inr (.inr hm))).2; omega :
        NestD S0 zs (i + 1) ao' cap' mo' mc' (bs ++ [b4]) w7)
      clear HSA HNW H6' M6 D6 NX7 HX7 HS7 HF7
      obtain ⟨g, off, rfl, c0, c1⟩ := HZ.out.pair H7.out.frame h1
      have hbn := HZ.out.bnd _ (List.getElem_mem h1)
      obtain ⟨k, hk, hk0, hk6, hA⟩ := around6 zs[i].1 hbn.1
      have HSE := Lib.hid (by rw [setsS_succ S0 zs i h1, hk] : setsS S0 zs (i + 1) = (setsS S0 zs i).set k zs[i].2)
      obtain ⟨x, hx⟩ : ∃ x, x = zs[i].1 := ⟨_, rfl⟩
      obtain ⟨y, hy⟩ : ∃ y, y = zs[i].2 := ⟨_, rfl⟩
      rw [← hx] at c0 hA
      rw [← hy] at c1 HSE
      have HA := Lib.hid hA
      clear hk hA hx hy hbn
      go_wp2_with fail
      refine wp_still_tail 12 (by kernel_rfl) (by kernel_rfl) ?_
      simp only [List.take_succ_cons, List.take_zero, List.drop_succ_cons, List.drop_zero]
      repeat still_step
      still_call (HA.out _)
      repeat still_step
      refine wpStill_nil ?_
      go_wp2_with fail
      refine (m_set (H7.out.drewN 1) k y (by omega) HSE.out.symm).mono ?_
      rintro e w8 ⟨rfl, h8, k8⟩
      have H8 := Lib.hid h8
      have D8 := Lib.hid (D7.out.kept k8)
      clear h8 k8 H7 D7
      go_wp2_with fail
      go_roundw
      case rel => exact ⟨i + 1, ao', cap', mo', mc', bs ++ [b4], by omega, by omega, by go_num, rfl, rfl, by have h := H8.out; rw [show ((i + 1 : Nat) : Int) = (i : Int) + 1 by omega]; exact h, D8.out⟩
      case measure => simp [intOf]; omega
    · have HUN := Lib.hid (fun (t : Nat) (ht : t < i) => (by
        have h1 : setsS S0 zs (t + 1) = (setsS S0 zs t).set (around (zs.getD t (0, 0)).1 6) (zs.getD t (0, 0)).2 := rfl
        have h2 := (Grew.refl (setsS S0 zs t)).set (around (zs.getD t (0, 0)).1 6) (zs.getD t (0, 0)).2
        rw [← h1] at h2
        have h3 := HMK.out t (by omega)
        have h4 := h2.in
        have h5 := h2.undo
        rw [h3] at h4 h5
        exact ⟨h4.1, h4.2, h5⟩ : (setsS S0 zs (t + 1)).base ≤ (t : Int) ∧ (t : Int) ≤ (setsS S0 zs (t + 1)).base + (setsS S0 zs (t + 1)).log.length ∧ (setsS S0 zs (t + 1)).undo (t : Int) = setsS S0 zs t))
      have HCL := Lib.hid (fun (t : Nat) (ht : t < i) (G : List Nat) (u : World) (h : OwnG (memX p (setsS S0 zs t) 12) w G u) => (by
        have h1 := m_cells h (l := (setsS S0 zs t).cells) rfl
        rw [(setsS_spec S0 HL0.out zs t (by omega)).1] at h1
        exact h1 : Calls Try.prog 19 #[.pointer (some ⟨p, 0, none⟩)] u fun e w' => ∃ b, e = .returned (.slice (some ⟨b, 0, none⟩) 6 6) ∧ w'.heap[b]? = some (row (setsS S0 zs t).cells) ∧ OwnG (memX p (setsS S0 zs t) 12) w (b :: G) w' ∧ Kept G u w' ∧ u.heap.size ≤ b))
      have HSM := Lib.hid (fun (t : Nat) (ht : t < i) (u : World) (b1 b2 : Nat) (h1 : u.heap[b1]? = some (row (setsS S0 zs t).cells)) (h2 : u.heap[b2]? = some (row (setsS S0 zs t).cells)) => (by
        have h6 := (setsS_spec S0 HL0.out zs t (by omega)).1
        have h := same_yes u (some ⟨b1, 0, none⟩) (some ⟨b2, 0, none⟩) 6 6 (setsS S0 zs t).cells (row_seg h1 (by rw [h6]; unfold maxLen; omega)).rd (row_seg h2 (by rw [h6]; unfold maxLen; omega)).rd
        rw [h6] at h
        exact h : Calls Try.prog 18 #[.slice (some ⟨b1, 0, none⟩) 6 6, .slice (some ⟨b2, 0, none⟩) 6 6] u fun e w' => e = .returned (.bool true) ∧ ∃ k, w' = u.drewN k))
      have HLG := Lib.hid (by
        have h := HMK.out 0 (by omega)
        show ((setsS S0 zs 0).log.length : Int) = 0
        unfold MemS.mark at h
        have hb : (setsS S0 zs 0).base = S0.base := rfl
        have hm0 := HO.out.good.base
        have h3 := (setsS_spec S0 HL0.out zs i hi).2.1
        rw [h3] at hm0
        rw [hb] at h
        omega)
      have HO2 := Lib.hid (HO.out.more (m := 12) (by omega))
      have hcs : (i < zs.length ∧ ¬ i < 12) ∨ ¬ i < zs.length := by omega
      clear hlt HO HMI HLC HMK
      rcases hcs with ⟨h1, h2⟩ | h1
      all_goals
        go_wp2_with fail
        go_loopw [9] (fun iv wr2 => ∃ j : Nat, j ≤ i ∧ iv = .int .i64 ((j : Int) - 1) ∧ OwnG (memX p (setsS S0 zs j) 12) w (nestG sto mo bs) wr2 ∧ NestD S0 zs i sto tc mo mc bs wr2) (fun iv _ => (intOf iv + 1).toNat)
        case atStart => exact ⟨i, by omega, rfl, HO2.out, HD.out⟩
        case round =>
          clear HO2 HD
          obtain ⟨j, hj, rfl, hown, hd⟩ := hrel
          have HO := Lib.hid hown
          have HD := Lib.hid hd
          clear hown hd
          rcases Nat.eq_zero_or_pos j with hj0 | hj0
          · subst hj0
            rw [show ((0 : Nat) : Int) - 1 = -1 by rfl]
            go_wp2_with fail
            refine (m_logged HO.out HLG.out).mono ?_
            rintro e w9 ⟨rfl, rfl⟩
            go_wp2_with fail
            refine (lives_any _).mono ?_
            rintro e w10 ⟨rfl, f10⟩
            have F10 := Lib.hid (HO.out.frame.trans f10 (by simp [Ext]))
            clear f10
            go_wp2_with fail
            go_ret
            exact ⟨rfl, F10.out⟩
          · obtain ⟨t, rfl⟩ : ∃ t, j = t + 1 := ⟨j - 1, by omega⟩
            rw [show (((t + 1 : Nat) : Int) - 1) = (t : Int) by omega]
            have hti : t < i := by omega
            obtain ⟨mg, mof, rfl⟩ := HD.out.mks.somewhere (by omega)
            obtain ⟨sg, sof, rfl⟩ := HD.out.st.somewhere (by omega)
            obtain ⟨tb, htb⟩ : ∃ tb, bs[t]'(by rw [HD.out.len]; omega) = tb := ⟨_, rfl⟩
            have HCF := Lib.hid (fun (u : World) (D : NestD S0 zs i (some ⟨sg, sof, none⟩) tc (some ⟨mg, mof, none⟩) mc bs u) => (by
              refine ⟨?_, ?_, ?_⟩
              · obtain ⟨g1, o1, cur, ha, -, -, hcq, -⟩ := D.mks.at (by have := D.mks.2.2.1; omega)
                cases ha
                rw [hcq t (by omega), ints_get, natsI_get i t hti]; rfl
              · obtain ⟨g1, o1, cur, ha, -, -, hcq, -⟩ := D.st.at (by have := D.st.2.2.1; omega)
                cases ha
                rw [hcq t (by omega), List.getElem?_map, List.getElem?_eq_getElem (by rw [D.len]; omega), htb]; rfl
              · rw [← htb]; exact D.rows t (by rw [D.len]; omega) :
              u.cell? ⟨mg, mof + t, none⟩ = some (.int .i64 (t : Int)) ∧ u.cell? ⟨sg, sof + t, none⟩ = some (.slice (some ⟨tb, 0, none⟩) 6 6) ∧ u.heap[tb]? = some (row (setsS S0 zs t).cells)))
            have DD := Lib.hid (HD.out.kept (w' := wr.drew) (fun _ _ => rfl))
            have HOd := Lib.hid ((HO.out.fr (memX_frm _ _ _) ((Fr.refl [] wr).drew)).1)
            obtain ⟨c0, c0s, -⟩ := HCF.out wr HD.out
            have c0' := HCF.out wr.drew DD.out
            have HU := Lib.hid (HUN.out t hti)
            have HTI := Lib.hid hti
            clear htb hj0
            go_upto_region 15 with fail
            go_cut [71] (fun c71 wc => c71 = .bool false ∧ OwnG (memX p (setsS S0 zs t) 12) w (nestG (some ⟨sg, sof, none⟩) (some ⟨mg, mof, none⟩) bs) wc ∧ NestD S0 zs i (some ⟨sg, sof, none⟩) tc (some ⟨mg, mof, none⟩) mc bs wc)
            case first =>
              go_region_held3 (fun w' => w'.cell? ⟨mg, mof + t, none⟩ = some (.int .i64 (t : Int)) ∧ w'.cell? ⟨sg, sof + t, none⟩ = some (.slice (some ⟨tb, 0, none⟩) 6 6)) (first | exact ⟨c0, c0s⟩ | exact ⟨cA.1, cA.2.1⟩ | exact ⟨cB.1, cB.2.1⟩ | exact ⟨cC.1, cC.2.1⟩)
                (first
                | (go_at_call 18; refine (HSM.out t HTI.out _ bB tb RB.out cB.2.2).mono ?_; rintro e wC ⟨rfl, kC, rfl⟩; have DC := Lib.hid (DB.out.kept (w' := wB.drewN kC) (fun _ _ => rfl)); have cC := HCF.out _ DC.out; have HC := Lib.hid (HB.out.drewN kC))
                | (go_at_call 19; refine (HCL.out t HTI.out _ _ HA.out).mono ?_; rintro e wB ⟨bB, rfl, hrB, hB, kB, -⟩; have RB := Lib.hid hrB; have HB := Lib.hid hB; have DB := Lib.hid (DA.out.kept kB); have cB := HCF.out _ DB.out; clear hrB hB kB)
                | (go_at_call 25; refine (m_undo HOd.out t (by omega) HU.out.1 HU.out.2.1 HU.out.2.2).mono ?_; rintro e wA ⟨rfl, hA, kA⟩; have HA := Lib.hid hA; have DA := Lib.hid (DD.out.kept kA); have cA := HCF.out _ DA.out; clear hA kA))
              all_goals
                go_wp2_with fail
                go_meet
                exact ⟨rfl, HC.out.sub (fun k hk => by simp [hk]), DC.out⟩
            case rest =>
              obtain ⟨rfl, hown, hd⟩ := hcut
              go_wp2_with fail
              go_roundw
              case rel => exact ⟨t, by have := HTI.out; omega, rfl, hown, hd⟩
              case measure => simp [intOf]
end Go.Proofs.Ytoolojpjopodgaa
