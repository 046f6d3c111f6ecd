/- Chapter 9: two memories side by side. -/
import Derived.Test.YtoolojpjopodgaaUndo9
namespace Go.Proofs.Ytoolojpjopodgaa
open Go.RowKit

theorem IsMem.kept {w w' : World} {p : Nat} {F : List Nat} {s : MemS} (h : IsMem w p F s) (hk : Kept F w w') : IsMem w' p F s := by
  obtain ⟨ca, cc, la, lc, h⟩ := h
  have hb := h.blocks
  exact ⟨ca, cc, la, lc, h.blocks, h.pc, h.pl, h.cl, (hk p (by simp [hb])).trans h.head, h.cells.same (fun k hm => hk k (by simp [hb, hm])), h.log.same (fun k hm => hk k (by simp [hb, hm]))⟩

/-- the memories at p1 and p2, made since W, beside the blocks G -/
def Two (p1 : Nat) (s1 : MemS) (n1 : Int) (p2 : Nat) (s2 : MemS) (n2 : Int) (W : World) (G : List Nat) (w : World) : Prop :=
  ∃ F2, OwnG (memX p1 s1 n1) W (F2 ++ G) w ∧ memX p2 s2 n2 w F2 ∧ ∀ k ∈ F2, k ∉ G

section
variable {p1 p2 : Nat} {s1 s2 s1' s2' : MemS} {n1 n2 n1' n2' : Int} {W w w' : World} {G : List Nat}

theorem Two.frame (h : Two p1 s1 n1 p2 s2 n2 W G w) : Fr [] W w := by obtain ⟨_, h1, _⟩ := h; exact h1.frame
theorem Two.own1 (h : Two p1 s1 n1 p2 s2 n2 W G w) : ∃ G', OwnG (memX p1 s1 n1) W G' w := by obtain ⟨F2, h1, _⟩ := h; exact ⟨_, h1⟩

theorem Two.swap (h : Two p1 s1 n1 p2 s2 n2 W G w) : Two p2 s2 n2 p1 s1 n1 W G w := by
  obtain ⟨F2, ⟨F1, a, b, c, d, e⟩, h2, h3⟩ := h
  refine ⟨F1, ⟨F2, h2, b, fun k hk => .inr (e k (by simp [hk])).1, fun k hk hm => ?_, fun k hk => ?_⟩, a, fun k hk hm => d k hk (by simp [hm])⟩
  · rcases List.mem_append.1 hm with h | h
    · exact d k h (by simp [hk])
    · exact h3 k hk h
  · rcases List.mem_append.1 hk with h | h
    · refine ⟨?_, a.1.lt k h⟩
      rcases c k h with h4 | h4
      · simp at h4
      · exact h4
    · exact e k (by simp [h])

theorem Two.left {f : FuncId} {args : Array Value} {v : Ending} (h : Two p1 s1 n1 p2 s2 n2 W G w)
    (hc : ∀ G', OwnG (memX p1 s1 n1) W G' w → Calls Try.prog f args w fun e w' => e = v ∧ OwnG (memX p1 s1' n1') W G' w' ∧ Kept G' w w') :
    Calls Try.prog f args w fun e w' => e = v ∧ Two p1 s1' n1' p2 s2 n2 W G w' ∧ Kept G w w' := by
  obtain ⟨F2, h1, h2, h3⟩ := h
  refine (hc _ h1).mono ?_
  rintro e w' ⟨h4, h5, h6⟩
  exact ⟨h4, ⟨F2, h5, ⟨h2.1.kept (h6.sub (fun k hk => by simp [hk])), h2.2⟩, h3⟩, h6.sub (fun k hk => by simp [hk])⟩

theorem Two.right {f : FuncId} {args : Array Value} {v : Ending} (h : Two p1 s1 n1 p2 s2 n2 W G w)
    (hc : ∀ G', OwnG (memX p2 s2 n2) W G' w → Calls Try.prog f args w fun e w' => e = v ∧ OwnG (memX p2 s2' n2') W G' w' ∧ Kept G' w w') :
    Calls Try.prog f args w fun e w' => e = v ∧ Two p1 s1 n1 p2 s2' n2' W G w' ∧ Kept G w w' :=
  (h.swap.left hc).mono fun _ _ ⟨a, b, c⟩ => ⟨a, b.swap, c⟩

theorem Two.fr (h : Two p1 s1 n1 p2 s2 n2 W G w) (hf : Fr [] w w') : Two p1 s1 n1 p2 s2 n2 W G w' := by
  obtain ⟨F2, h1, h2, h3⟩ := h
  exact ⟨F2, (h1.fr (memX_frm _ _ _) hf).1, ⟨h2.1.fr hf (by simp), h2.2⟩, h3⟩
theorem Two.more (h : Two p1 s1 n1 p2 s2 n2 W G w) (h1 : n1 ≤ n1') : Two p1 s1 n1' p2 s2 n2 W G w := by
  obtain ⟨F2, a, b, c⟩ := h
  exact ⟨F2, a.mono (fun _ hF => ⟨hF.1, hF.2.mono h1⟩), b, c⟩

theorem two_mark (h : Two p1 s1 n1 p2 s2 n2 W G w) (hn : n1 ≤ 1000000) {x : Int} (hx : s1.mark = x) :
    Calls Try.prog 17 #[.pointer (some ⟨p1, 0, none⟩)] w fun e w' => e = .returned (.int .i64 x) ∧ ∃ k, w' = w.drewN k := by
  obtain ⟨G', h1⟩ := h.own1
  exact m_mark h1 hn hx

theorem two_changed (h : Two p1 s1 n1 p2 s2 n2 W G w) (m : Int) (hn : n1 ≤ 1000000) (h1 : s1.base ≤ m) (h2 : m ≤ s1.base + s1.log.length) {l : List Int} (hl : s1.chg m = l) :
    Calls Try.prog 22 #[.pointer (some ⟨p1, 0, none⟩), .int .i64 m] w fun e w' =>
      ∃ ao cap, e = .returned (.tuple #[.slice ao l.length cap, .int .i64 0]) ∧ Seg w' 3 1 ao l.length cap (ints l) ∧ Two p1 s1 n1 p2 s2 n2 W (blk ao ++ G) w' ∧ Kept G w w' := by
  obtain ⟨F2, a, b, c⟩ := h
  refine (m_changed a m hn h1 h2 hl).mono ?_
  rintro e w' ⟨ao, cap, h3, h4, h5, h6, h7⟩
  refine ⟨ao, cap, h3, h4, ⟨F2, h5.sub (fun k hk => ?_), ⟨b.1.kept (h6.sub (fun k hk => by simp [hk])), b.2⟩, fun k hk hm => ?_⟩, h6.sub (fun k hk => by simp [hk])⟩
  · simp only [List.mem_append] at hk ⊢
    rcases hk with hk | hk | hk
    · exact .inr (.inl hk)
    · exact .inl hk
    · exact .inr (.inr hk)
  · rcases List.mem_append.1 hm with h8 | h8
    · have := h7 k h8; have := b.1.lt k hk; omega
    · exact c k hk h8

theorem two_cells (h : Two p1 s1 n1 p2 s2 n2 W G w) {l : List Int} (hl : s1.cells = l) :
    Calls Try.prog 19 #[.pointer (some ⟨p1, 0, none⟩)] w fun e w' => ∃ b, e = .returned (.slice (some ⟨b, 0, none⟩) l.length l.length) ∧ w'.heap[b]? = some (row l) ∧ Two p1 s1 n1 p2 s2 n2 W (b :: G) w' ∧ Kept G w w' := by
  obtain ⟨F2, a, b, c⟩ := h
  refine (m_cells a hl).mono ?_
  rintro e w' ⟨bx, h3, h4, h5, h6, h7⟩
  refine ⟨bx, h3, h4, ⟨F2, h5.sub (fun k hk => ?_), ⟨b.1.kept (h6.sub (fun k hk => by simp [hk])), b.2⟩, fun k hk hm => ?_⟩, h6.sub (fun k hk => by simp [hk])⟩
  · simp only [List.mem_append, List.mem_cons] at hk ⊢
    rcases hk with hk | hk | hk
    · exact .inr (.inl hk)
    · exact .inl hk
    · exact .inr (.inr hk)
  · rcases List.mem_cons.1 hm with h8 | h8
    · have := b.1.lt k hk; omega
    · exact c k hk h8
end

set_option maxRecDepth 100000 in
set_option maxHeartbeats 8000000 in
theorem branch_walk (w : World) (ao bo po qo : Option Addr) (ac bc pc qc : Nat) (cells l : List Int) (za zb : List (Int × Int)) (hc : Rd w 1 ao cells.length (ints cells)) (hl : Rd w 1 bo l.length (ints l)) (hb : ∀ x ∈ l, bounded x) (hza : Srcp w po za) (hzb : Srcp w qo zb) :
    Calls Try.prog 6 #[.slice ao cells.length ac, .slice bo l.length bc, .slice po za.length pc, .slice qo zb.length qc] w fun e w' => e = .returned (.bool true) ∧ Fr [] w w' := by
  have HBU := Lib.hid (built_any (G := []) (Fr.refl [] w) (by simp) ao bo ac bc cells l hc hl hb)
  have HB2 := Lib.hid (fun (u : World) (F : List Nat) (hf : Fr [] w u) (hF : ∀ k ∈ F, w.heap.size ≤ k ∧ k < u.heap.size) => built_any (W := w) (G := F) hf hF ao bo ac bc cells l hc hl hb)
  have HZA := Lib.hid hza
  have HZB := Lib.hid hzb
  have hlena : za.length ≤ 9223372036854775807 := by have := hza.rd.2.1; unfold maxLen at this; omega
  have hlenb : zb.length ≤ 9223372036854775807 := by have := hzb.rd.2.1; unfold maxLen at this; omega
  clear hc hl hb hza hzb
  go_enter Try.func6, Try.ntmps6
  go_wp2_with fail
  refine HBU.out.mono ?_
  rintro e w1 ⟨p1, rfl, h1, -⟩
  obtain ⟨S, hS⟩ : ∃ S, S = builtS cells l := ⟨_, rfl⟩
  rw [← hS] at h1 HB2
  obtain ⟨F1, a1, b1, c1, -, -⟩ := h1
  have HF1 := Lib.hid a1
  have HB3 := Lib.hid (HB2.out w1 F1 b1 (fun k hk => ⟨by rcases c1 k hk with h | h; simp at h; exact h, a1.1.lt k hk⟩))
  clear hS HB2 HBU a1 b1 c1
  go_wp2_with fail
  refine HB3.out.mono ?_
  rintro e w2 ⟨p2, rfl, h2, k2⟩
  have HT := Lib.hid (Two.swap ⟨F1, by simpa using h2, ⟨HF1.out.1.kept k2, HF1.out.2⟩, by simp⟩ : Two p1 S 30 p2 S 30 w [] w2)
  obtain ⟨P, hP⟩ : ∃ P, S.mark = P := ⟨_, rfl⟩
  have HPM := Lib.hid hP
  clear h2 k2 hP HB3 HF1
  go_wp2_with fail
  refine (two_mark HT.out (by omega) HPM.out).mono ?_
  rintro e w3 ⟨rfl, k3, rfl⟩
  have HT3 := Lib.hid (HT.out.fr ((Fr.refl _ _).drewN k3))
  clear HT
  go_wp2_with fail
  go_loopw [12] (fun iv wr => ∃ i : Nat, i ≤ za.length ∧ i ≤ 12 ∧ iv = .int .i64 (i : Int) ∧ Two p1 (setsS S za i) (30 + i) p2 S 30 w [] wr) (fun iv _ => 12 - (intOf iv).toNat)
  case atStart => exact ⟨0, by omega, by omega, rfl, by simpa [setsS] using HT3.out⟩
  case round =>
    clear HT3
    obtain ⟨i, hi, hi20, rfl, hown⟩ := hrel
    have HO := Lib.hid hown
    clear hown
    by_cases hlt : i < za.length ∧ i < 12
    · obtain ⟨h1, h2⟩ := hlt
      obtain ⟨g, off, rfl, c0, c1⟩ := HZA.out.pair HO.out.frame h1
      have hbn := HZA.out.bnd _ (List.getElem_mem h1)
      obtain ⟨k, hk, hk0, hk6, hA⟩ := around6 za[i].1 hbn.1
      have HSE := Lib.hid (by rw [setsS_succ S za i h1, hk] : setsS S za (i + 1) = (setsS S za i).set k za[i].2)
      obtain ⟨x, hx⟩ : ∃ x, x = za[i].1 := ⟨_, rfl⟩
      obtain ⟨y, hy⟩ : ∃ y, y = za[i].2 := ⟨_, rfl⟩
      rw [← hx] at c0 hA
      rw [← hy] at c1 HSE
      have HA := Lib.hid hA
      clear hk hA hx hy hbn
      go_wp2_with fail
      refine wp_still_tail 12 (by kernel_rfl) (by kernel_rfl) ?_
      simp only [List.take_succ_cons, List.take_zero, List.drop_succ_cons, List.drop_zero]
      repeat still_step
      still_call (HA.out _)
      repeat still_step
      refine wpStill_nil ?_
      go_wp2_with fail
      refine ((HO.out.fr ((Fr.refl [] wr).drewN 1)).left (fun G' hG' => m_set hG' k y (by omega) HSE.out.symm)).mono ?_
      rintro e w5 ⟨rfl, h5, -⟩
      have H5 := Lib.hid h5
      clear h5
      go_wp2_with fail
      go_roundw
      case rel => exact ⟨i + 1, by omega, by omega, by go_num, by have h := H5.out; rw [show (30 : Int) + ((i + 1 : Nat) : Int) = 30 + (i : Int) + 1 by omega]; exact h⟩
      case measure => simp [intOf]; omega
    · have HU := Lib.hid (setsS_grew S za i)
      have HU1 := Lib.hid (HPM.out ▸ HU.out.in : (setsS S za i).base ≤ P ∧ P ≤ (setsS S za i).base + (setsS S za i).log.length)
      have HU2 := Lib.hid (HPM.out ▸ HU.out.undo : (setsS S za i).undo P = S)
      have hcs : (i < za.length ∧ ¬ i < 12) ∨ ¬ i < za.length := by omega
      clear hlt
      rcases hcs with ⟨h1, h2⟩ | h1
      all_goals
        go_wp2_with fail
        refine (HO.out.left (fun G' hG' => m_undo hG' P (by omega) HU1.out.1 HU1.out.2 HU2.out)).mono ?_
        rintro e w6 ⟨rfl, h6, -⟩
        have H6 := Lib.hid (h6.more (n1' := 50) (by omega))
        clear h6 HO HU HU1 HU2
        go_wp2_with fail
        go_loopw [13] (fun iv wr => ∃ i : Nat, i ≤ zb.length ∧ i ≤ 12 ∧ iv = .int .i64 (i : Int) ∧ Two p1 (setsS S zb i) (50 + i) p2 (setsS S zb i) (30 + i) w [] wr) (fun iv _ => 12 - (intOf iv).toNat)
        case atStart => exact ⟨0, by omega, by omega, rfl, by simpa [setsS] using H6.out⟩
        case round =>
          clear H6
          obtain ⟨j, hj, hj12, rfl, hown⟩ := hrel
          have HO := Lib.hid hown
          clear hown
          by_cases hlt : j < zb.length ∧ j < 12
          · obtain ⟨h3, h4⟩ := hlt
            obtain ⟨g, off, hqo, c0, c1⟩ := HZB.out.pair HO.out.frame h3
            have HQO := Lib.hid hqo
            have hbn := HZB.out.bnd _ (List.getElem_mem h3)
            obtain ⟨k, hk, hk0, hk6, hA⟩ := around6 zb[j].1 hbn.1
            have HSE := Lib.hid (by rw [setsS_succ S zb j h3, hk] : setsS S zb (j + 1) = (setsS S zb j).set k zb[j].2)
            obtain ⟨x, hx⟩ : ∃ x, x = zb[j].1 := ⟨_, rfl⟩
            obtain ⟨y, hy⟩ : ∃ y, y = zb[j].2 := ⟨_, rfl⟩
            rw [← hx] at c0 hA
            rw [← hy] at c1 HSE
            have HA := Lib.hid hA
            have HXE := Lib.hid hx
            have HYE := Lib.hid hy
            clear hk hA hx hy hbn
            subst hqo
            go_wp2_with fail
            refine wp_still_tail 12 (by kernel_rfl) (by kernel_rfl) ?_
            simp only [List.take_succ_cons, List.take_zero, List.drop_succ_cons, List.drop_zero]
            repeat still_step
            still_call (HA.out _)
            repeat still_step
            refine wpStill_nil ?_
            go_wp2_with fail
            refine ((HO.out.fr ((Fr.refl [] wr).drewN 1)).left (fun G' hG' => m_set hG' k y (by omega) HSE.out.symm)).mono ?_
            rintro e w7 ⟨rfl, h7, -⟩
            have H7 := Lib.hid h7
            obtain ⟨g2, off2, hgo, c0, c1⟩ := HZB.out.pair H7.out.frame h3
            cases hgo
            rw [← HXE.out] at c0
            rw [← HYE.out] at c1
            clear h7 HO
            go_wp2_with fail
            refine wp_still_tail 12 (by kernel_rfl) (by kernel_rfl) ?_
            simp only [List.take_succ_cons, List.take_zero, List.drop_succ_cons, List.drop_zero]
            repeat still_step
            still_call (HA.out _)
            repeat still_step
            refine wpStill_nil ?_
            go_wp2_with fail
            refine ((H7.out.fr ((Fr.refl [] w7).drewN 1)).right (fun G' hG' => m_set hG' k y (by omega) HSE.out.symm)).mono ?_
            rintro e w8 ⟨rfl, h8, -⟩
            have H8 := Lib.hid h8
            clear h8 H7
            go_wp2_with fail
            go_roundw
            case rel => exact ⟨j + 1, by omega, by omega, by go_num, by have h := H8.out; rw [show (30 : Int) + ((j + 1 : Nat) : Int) = 30 + (j : Int) + 1 by omega, show (50 : Int) + ((j + 1 : Nat) : Int) = 50 + (j : Int) + 1 by omega]; exact h⟩
            case measure => simp [intOf]; omega
          · have HU := Lib.hid (setsS_grew S zb j)
            have HU1 := Lib.hid (HPM.out ▸ HU.out.in : (setsS S zb j).base ≤ P ∧ P ≤ (setsS S zb j).base + (setsS S zb j).log.length)
            obtain ⟨G', hG'⟩ := HO.out.own1
            have hTl := hG'.good.len
            obtain ⟨T, hT⟩ : ∃ T, T = setsS S zb j := ⟨_, rfl⟩
            rw [← hT] at HU1 hTl HO
            obtain ⟨C, hC⟩ : ∃ C, T.chg P = C := ⟨_, rfl⟩
            obtain ⟨M, hM⟩ : ∃ M, T.mark = M := ⟨_, rfl⟩
            have HC := Lib.hid hC
            have HM := Lib.hid hM
            have hcs : (j < zb.length ∧ ¬ j < 12) ∨ ¬ j < zb.length := by omega
            clear hlt hT hC hG' hM HU
            rcases hcs with ⟨h3, h4⟩ | h3
            all_goals
              go_wp2_with fail
              refine (two_changed HO.out P (by omega) HU1.out.1 HU1.out.2 HC.out).mono ?_
              rintro e w9 ⟨c1o, c1c, rfl, hs9, h9, -⟩
              have H9 := Lib.hid h9.swap
              have S9 := Lib.hid hs9
              clear hs9 h9 HO
              go_wp2_with fail
              refine (two_changed H9.out P (by omega) HU1.out.1 HU1.out.2 HC.out).mono ?_
              rintro e w10 ⟨c2o, c2c, rfl, hs10, h10, k10⟩
              have R1 := Lib.hid (S9.out.kept k10 (fun k hk => by simp [hk])).rd
              have R2 := Lib.hid hs10.rd
              have H10 := Lib.hid h10.swap
              clear hs10 h10 k10 H9 S9
              go_wp2_with fail
              refine (same_yes w10 c1o c2o c1c c2c C R1.out R2.out).mono ?_
              rintro e w11 ⟨rfl, k11, rfl⟩
              have H11 := Lib.hid (H10.out.fr ((Fr.refl _ _).drewN k11))
              clear R1 R2 H10
              go_wp2_with fail
              refine (two_cells H11.out (l := T.cells) rfl).mono ?_
              rintro e w12 ⟨b12, rfl, hr12, h12, -⟩
              have H12 := Lib.hid h12.swap
              have R12 := Lib.hid hr12
              clear hr12 h12 H11
              go_wp2_with fail
              refine (two_cells H12.out (l := T.cells) rfl).mono ?_
              rintro e w13 ⟨b13, rfl, hr13, h13, k13⟩
              have H13 := Lib.hid h13.swap
              have RA := Lib.hid (row_seg ((k13 b12 (by simp)).trans R12.out) (by unfold maxLen; omega)).rd
              have RB := Lib.hid (row_seg hr13 (by unfold maxLen; omega)).rd
              clear hr13 h13 k13 H12 R12
              go_wp2_with fail
              refine (same_yes w13 _ _ _ _ T.cells RA.out RB.out).mono ?_
              rintro e w14 ⟨rfl, k14, rfl⟩
              have H14 := Lib.hid (H13.out.fr ((Fr.refl _ _).drewN k14))
              clear RA RB
              go_wp2_with fail
              refine (two_mark H14.out (by omega) HM.out).mono ?_
              rintro e w15 ⟨rfl, k15, rfl⟩
              have H15 := Lib.hid (H13.out.fr ((Fr.refl _ _).drewN (k14 + k15)))
              have H15s := Lib.hid H15.out.swap
              clear H14
              go_wp2_with fail
              refine (two_mark H15s.out (by omega) HM.out).mono ?_
              rintro e w16 ⟨rfl, k16, rfl⟩
              have H16 := Lib.hid (H13.out.fr ((Fr.refl _ _).drewN (k14 + k15 + k16)))
              clear H13 H15 H15s
              go_wp2_with fail
              refine (lives_any _).mono ?_
              rintro e w17 ⟨rfl, f17⟩
              have F17 := Lib.hid (H16.out.frame.trans f17 (by simp [Ext]))
              clear f17
              go_wp2_with fail
              go_ret
              exact ⟨rfl, F17.out⟩
end Go.Proofs.Ytoolojpjopodgaa
