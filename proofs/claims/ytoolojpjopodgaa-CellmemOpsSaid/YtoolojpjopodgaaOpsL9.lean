/- CellmemOps: the law's state. -/
import Derived.Test.YtoolojpjopodgaaRefN9
import Derived.Test.YtoolojpjopodgaaLives9
import Derived.Test.YtoolojpjopodgaaSame
import Derived.Deep.DeepCutAuto
import Derived.Deep.CutBlock
import Derived.Deep.RegionLaw
import Derived.Deep.RegionHeld3
namespace Go.Proofs.Ytoolojpjopodgaa
open Go.RowKit

/-- the law's state: memory p, reference at tb, operations, a list X beside -/
structure OL (w : World) (p tb : Nat) (oo : Option Addr) (oc : Nat) (O : List OpS) (s : MemS) (n : Int) (r : RS) (so : Option Addr) (sc : Nat) (co : Option Addr) (cc : Nat) (rs : List RRow) (X : List Nat) (wr : World) : Prop where
  own : OwnG (memX p s n) w (X ++ tb :: (blk oo ++ rsG so co rs)) wr
  tbv : wr.heap[tb]? = some (.cells #[.slice so r.states.length sc, .slice co r.cell.length cc, .int .i64 r.base] 50 (0, 0))
  isr : IsRS wr r so sc co cc rs
  os : Seg wr 53 3 oo O.length oc (flatO O)
  no1 : tb ∉ blk oo
  no2 : tb ∉ rsG so co rs
section
variable {w wr w' : World} {p tb : Nat} {oo : Option Addr} {oc : Nat} {O : List OpS} {s s' : MemS} {n n' : Int} {r r' : RS} {so co so' co' : Option Addr} {sc cc sc' cc' : Nat} {rs rs' : List RRow} {X : List Nat}
theorem OL.fr (h : OL w p tb oo oc O s n r so sc co cc rs X wr) (hf : Fr [] wr w') : OL w p tb oo oc O s n r so sc co cc rs X w' :=
  ⟨(h.own.fr (memX_frm _ _ _) hf).1, hf.blk h.tbv (by simp), h.isr.fr hf, h.os.fr hf (by simp), h.no1, h.no2⟩
theorem OL.kept (h : OL w p tb oo oc O s n r so sc co cc rs X wr) (ho : OwnG (memX p s' n') w (X ++ tb :: (blk oo ++ rsG so co rs)) w') (hk : Kept (X ++ tb :: (blk oo ++ rsG so co rs)) wr w') : OL w p tb oo oc O s' n' r so sc co cc rs X w' :=
  ⟨ho, (hk tb (by simp)).trans h.tbv, h.isr.same (fun k hk2 => hk k (by simp [hk2])), h.os.same (fun k hk2 => hk k (by simp [hk2])), h.no1, h.no2⟩
theorem OL.sub (h : OL w p tb oo oc O s n r so sc co cc rs X wr) : OL w p tb oo oc O s n r so sc co cc rs [] wr :=
  ⟨h.own.sub (fun k hk => List.mem_append_right _ hk), h.tbv, h.isr, h.os, h.no1, h.no2⟩
theorem OL.more (h : OL w p tb oo oc O s n r so sc co cc rs X wr) (hn : n ≤ n') : OL w p tb oo oc O s n' r so sc co cc rs X wr :=
  ⟨h.own.more hn, h.tbv, h.isr, h.os, h.no1, h.no2⟩
theorem OL.with (h : OL w p tb oo oc O s n r so sc co cc rs [] wr) (hf : Fr [] wr w') (hX : ∀ k ∈ X, wr.heap.size ≤ k ∧ k < w'.heap.size) : OL w p tb oo oc O s n r so sc co cc rs X w' :=
  have h2 := h.fr hf
  ⟨h.own.own (memX_frm _ _ _) hf (by simp) (fun k hk => by
    rcases List.mem_append.1 hk with q | q
    · exact ⟨.inr (hX k q).1, (hX k q).2⟩
    · exact ⟨.inl q, Nat.lt_of_lt_of_le (h.own.gnew k q).2 hf.size⟩), h2.tbv, h2.isr, h2.os, h.no1, h.no2⟩
/-- the reference is replaced -/
theorem OL.step (h : OL w p tb oo oc O s n r so sc co cc rs [] wr) {w1 : World} (hf : Fr [] wr w1) (hR : IsRS w1 r' so' sc' co' cc' rs') (hG : ∀ k ∈ rsG so' co' rs', k ∈ rsG so co rs ∨ wr.heap.size ≤ k)
    (hw : w' = ((w1.setCell ⟨tb, 0, none⟩ (.slice so' r'.states.length sc')).setCell ⟨tb, 1, none⟩ (.slice co' r'.cell.length cc')).setCell ⟨tb, 2, none⟩ (.int .i64 r'.base)) : OL w p tb oo oc O s n r' so' sc' co' cc' rs' [] w' := by
  have ht : tb < wr.heap.size := lt_of_blk h.tbv
  have hf1 : Fr [tb] w1 w' := by rw [hw]; exact (((Fr.refl [tb] w1).setCell (.inl (by simp)) _).setCell (.inl (by simp)) _).setCell (.inl (by simp)) _
  have hf2 : Fr [tb] wr w' := (hf.mono (by simp)).trans hf1 (Ext.refl _ _)
  have hn2 : tb ∉ rsG so' co' rs' := fun hk => by
    rcases hG tb hk with q | q
    · exact h.no2 q
    · omega
  have hlt := hR.lt
  refine ⟨h.own.own (memX_frm _ _ _) hf2 (by simp) (fun k hk => ?_), ?_, hR.same (fun k hk => hf1.block k (hlt k hk) (by simp; rintro rfl; exact hn2 hk)), h.os.fr hf2 (fun k hk q => by simp at q; subst q; exact h.no1 hk), h.no1, hn2⟩
  · simp only [List.nil_append, List.mem_cons, List.mem_append] at hk ⊢
    rcases hk with rfl | q | q
    · exact ⟨.inl (.inl rfl), Nat.lt_of_lt_of_le ht hf2.size⟩
    · exact ⟨.inl (.inr (.inl q)), Nat.lt_of_lt_of_le (h.os.lt k q) hf2.size⟩
    · refine ⟨?_, Nat.lt_of_lt_of_le (hlt k q) hf1.size⟩
      rcases hG k q with q2 | q2
      · exact .inl (.inr (.inr q2))
      · exact .inr q2
  · rw [hw]; exact set3 (hf.blk h.tbv (by simp))
/-- the operation that the round reads -/
theorem OL.op (h : OL w p tb oo oc O s n r so sc co cc rs X wr) {i : Nat} (hi : i < O.length) : ∃ g off, oo = some ⟨g, off, none⟩ ∧ wr.cell? ⟨g, off + i * 3, none⟩ = some (.int .i64 O[i].d) ∧ wr.cell? ⟨g, off + i * 3 + 1, none⟩ = some (.int .i64 O[i].n) ∧ wr.cell? ⟨g, off + i * 3 + 2, none⟩ = some (.int .i64 O[i].v) := by
  obtain ⟨g, off, cur, ho, hg, -, hc, -⟩ := h.os.at (by have := h.os.2.2.1; omega)
  obtain ⟨q0, q1, q2⟩ := flatO_get O i hi
  exact ⟨g, off, ho, (hc _ (by omega)).trans q0, by rw [Nat.add_assoc]; exact (hc _ (by omega)).trans q1, by rw [Nat.add_assoc]; exact (hc _ (by omega)).trans q2⟩
theorem rsG_sub {so co : Option Addr} {rs rs' : List RRow} (h : ∀ x ∈ rs', x ∈ rs) : ∀ k ∈ rsG so co rs', k ∈ rsG so co rs := by
  intro k hk
  rcases List.mem_append.1 hk with q | q
  · exact List.mem_append_left _ q
  rcases List.mem_append.1 q with q | q
  · exact List.mem_append_right _ (List.mem_append_left _ q)
  · obtain ⟨x, hx, q⟩ := List.mem_flatMap.1 q
    exact List.mem_append_right _ (List.mem_append_right _ (List.mem_flatMap.2 ⟨x, h x hx, q⟩))
theorem m_cellsF {W : World} {G : List Nat} (h : OwnG (memX p s n) W G w) (h6 : s.cells.length = 6) :
    Calls Try.prog 19 #[.pointer (some ⟨p, 0, none⟩)] w fun e w' => ∃ b, e = .returned (.slice (some ⟨b, 0, none⟩) 6 6) ∧ w'.heap[b]? = some (row s.cells) ∧ Fr [] w w' := by
  obtain ⟨F, hF⟩ := h.mem
  have hg := h.good
  refine (cells_any hF (by have := hg.len; omega)).mono ?_
  rintro e w' ⟨h1, h2, h3⟩
  rw [h6] at h1
  exact ⟨_, h1, h2, h3⟩
end
/-- behind the switch -/
def MidR (w : World) (p tb : Nat) (oo : Option Addr) (oc : Nat) (O : List OpS) (i : Nat) (s : MemS) (r : RS) (code : Int) (L : List Int) (s9 s10 : Value) (ws : World) : Prop :=
  ∃ so sc co cc rs wo wc, s9 = .slice wo L.length wc ∧ s10 = .int .i64 code ∧ OL w p tb oo oc O s i r so sc co cc rs (blk wo) ws ∧ Seg ws 3 1 wo L.length wc (ints L)
/-- ahead of a round -/
def LInv (w : World) (p tb : Nat) (oo : Option Addr) (oc : Nat) (O : List OpS) (iv : Value) (wr : World) : Prop :=
  ∃ (i : Nat) (s : MemS) (r : RS) (so : Option Addr) (sc : Nat) (co : Option Addr) (cc : Nat) (rs : List RRow), i ≤ O.length ∧ iv = .int .i64 (i : Int) ∧ Sim s r ∧ OL w p tb oo oc O s i r so sc co cc rs [] wr ∧ r.states.length ≤ i + 1
theorem RS.step_len (r : RS) (o : OpS) : (r.step o).2.2.states.length ≤ r.states.length + 1 := by
  unfold RS.step RS.undo RS.disc RS.set
  repeat' split
  all_goals (simp; try omega)

set_option maxRecDepth 100000 in
set_option maxHeartbeats 8000000 in
theorem opsl_walk (w : World) (ao bo : Option Addr) (ac bc : Nat) (cells l : List Int) (hc : Rd w 1 ao cells.length (ints cells)) (hl : Rd w 1 bo l.length (ints l)) (hb : ∀ x ∈ l, bounded x) :
    Calls Try.prog 8 #[.slice ao cells.length ac, .slice bo l.length bc] w fun e w' => e = .returned (.bool true) ∧ Fr [] w w' := by
  have HSX := Lib.hid (fun (u : World) (hu : Fr [] w u) => six_any u ao ac cells (hc.fr hu (by simp)))
  have HOP := Lib.hid (fun (u : World) (hu : Fr [] w u) => ops_any u bo bc l (hl.fr hu (by simp)) hb)
  have h6 := sixL_len cells
  obtain ⟨C, hC⟩ : ∃ C, C = sixL cells := ⟨_, rfl⟩
  obtain ⟨O, hO⟩ : ∃ O, O = opsL l := ⟨_, rfl⟩
  have hol : O.length ≤ 30 := by rw [hO]; exact opsL_len l
  have HOB := Lib.hid (by rw [hO]; exact opsF_bnd l _ (by omega) : ∀ o ∈ O, -100 ≤ o.n ∧ o.n ≤ 100 ∧ -100 ≤ o.v ∧ o.v ≤ 100)
  rw [← hC] at HSX h6
  rw [← hO] at HOP
  have H6 := Lib.hid h6
  clear hc hl hb h6 hC hO
  go_enter Try.func8, Try.ntmps8
  go_wp2_with fail
  refine (HSX.out w (Fr.refl [] w)).mono ?_
  rintro e w1 ⟨b, rfl, hb1, hrow, hf1⟩
  have HF1 := Lib.hid hf1
  have HN := Lib.hid (m_new' (W := w) (G := []) hf1 (some ⟨b, 0, none⟩) 6 C (by have h := (row_seg hrow (by rw [H6.out]; unfold maxLen; omega)).rd; exact h) (by rw [H6.out]; omega) (by simp))
  rw [H6.out] at HN
  clear hb1 hrow hf1
  go_wp2_with fail
  refine HN.out.mono ?_
  rintro e w2 ⟨p, rfl, h2, -⟩
  have H2 := Lib.hid h2
  have HF2 := Lib.hid h2.frame
  clear h2 HN HF1
  go_wp2_with fail
  refine (HSX.out w2 HF2.out).mono ?_
  rintro e w3 ⟨b3, rfl, hb3, hrow3, hf3⟩
  have HF3 := Lib.hid (HF2.out.trans hf3 (by simp [Ext]))
  have H3 := Lib.hid (H2.out.fr (memX_frm _ _ _) hf3).1
  have HN := Lib.hid (rnew_any w3 (some ⟨b3, 0, none⟩) 6 C H6.out (by have h := (row_seg hrow3 (by rw [H6.out]; unfold maxLen; omega)).rd; rw [H6.out] at h; exact h))
  clear hb3 hrow3 hf3 H2 HF2
  go_wp2_with fail
  refine HN.out.mono ?_
  rintro e w4 ⟨so, sc, co, cc, rs, rfl, hR, hRn, hf4⟩
  have HR4 := Lib.hid hR
  have HF34 := Lib.hid hf4
  have HRN := Lib.hid (fun k hk => (by rcases hRn k hk with h | h; (simp [rsG, blk] at h); exact h : w3.heap.size ≤ k))
  clear hR hRn hf4 HN
  go_upto_region 4 with fail
  obtain ⟨w5, hw5⟩ : ∃ u, u = w4.alloc (.cells #[.slice so 1 sc, .slice co 0 cc, .int .i64 0] 50) := ⟨_, rfl⟩
  obtain ⟨tb, htb⟩ : ∃ k, k = w4.heap.size := ⟨_, rfl⟩
  have HT5 := Lib.hid (by rw [hw5, htb]; exact alloc_new _ _ : w5.heap[tb]? = some (.cells #[.slice so 1 sc, .slice co 0 cc, .int .i64 0] 50 (0, 0)))
  have HF45 := Lib.hid (by rw [hw5]; exact (Fr.refl [] w4).alloc _ : Fr [] w4 w5)
  have HTB := Lib.hid htb
  rw [← hw5, ← htb]
  clear hw5 htb
  refine (HOP.out w5 (HF3.out.trans (HF34.out.trans HF45.out (by simp [Ext])) (by simp [Ext]))).mono ?_
  rintro e w6 ⟨oo, oc, rfl, hs6, hf6, hn6⟩
  have HST := Lib.hid (by
    have hf46 : Fr [] w4 w6 := HF45.out.trans hf6 (by simp [Ext])
    have hf36 : Fr [] w3 w6 := HF34.out.trans hf46 (by simp [Ext])
    have hsz := HF45.out.size
    have hsz2 := HF34.out.size
    have htl := lt_of_blk HT5.out
    have hte := HTB.out
    have hrl := HR4.out.lt
    refine ⟨0, ⟨C, [], 0⟩, ⟨[C], [], 0⟩, so, sc, co, cc, rs, by omega, rfl, Sim.start H6.out, ⟨H3.out.own (memX_frm _ _ _) hf36 (by simp) (fun k hk => ?_), hf6.blk HT5.out (by simp), HR4.out.fr hf46, hs6, fun h => ?_, fun h => ?_⟩, by simp⟩
    · simp only [List.nil_append, List.mem_cons, List.mem_append] at hk
      rcases hk with rfl | q | q
      · exact ⟨.inr (by omega), Nat.lt_of_lt_of_le htl hf6.size⟩
      · exact ⟨.inr (by have := hn6 k q; omega), hs6.lt k q⟩
      · exact ⟨.inr (HRN.out k q), Nat.lt_of_lt_of_le (hrl k q) hf46.size⟩
    · have := hn6 _ h; omega
    · have := hrl _ h; omega : LInv w p tb oo oc O (.int .i64 0) w6)
  clear hs6 hf6 hn6 HT5 HF45 HTB HR4 HF34 HRN H3 HF3 HOP HSX
  go_wp2_with fail
  go_loopw [8] (fun iv wr => LInv w p tb oo oc O iv wr) (fun iv _ => O.length - (intOf iv).toNat)
  case atStart => exact HST.out
  case round =>
    clear HST
    obtain ⟨i, s, r, so, sc, co, cc, rs, hi, rfl, hsim, hol', hsl⟩ := hrel
    have HOL := Lib.hid hol'
    have HSIM := Lib.hid hsim
    have HSL := Lib.hid hsl
    have hi30 : (i : Int) ≤ 30 := by omega
    clear hsim hol' hsl
    by_cases hlt : i < O.length
    · obtain ⟨g, off, rfl, c0, c1, c2⟩ := HOL.out.op hlt
      obtain ⟨q1, q2, q3, q4⟩ := HOB.out _ (List.getElem_mem hlt)
      obtain ⟨o, ho⟩ : ∃ o, o = O[i] := ⟨_, rfl⟩
      rw [← ho] at c0 c1 c2 q1 q2 q3 q4
      have HOE := Lib.hid ho
      have HQ := Lib.hid (And.intro q1 q2)
      clear ho q1 q2 q3 q4
      obtain ⟨r', hr'⟩ : ∃ r', r' = (r.step o).2.2 := ⟨_, rfl⟩
      obtain ⟨code, hcode⟩ : ∃ c, c = (r.step o).1 := ⟨_, rfl⟩
      obtain ⟨L, hL⟩ : ∃ L, L = (r.step o).2.1 := ⟨_, rfl⟩
      have HRR := Lib.hid (And.intro hr' (And.intro hcode hL))
      clear hr' hcode hL
      go_upto_block 2 with fail
      go_cut [9, 10] from 34 to 81 (fun s9 s10 ws => MidR w p tb (some ⟨g, off, none⟩) oc O i s r' code L s9 s10 ws)
      case first =>
        have t0 := cell_blk HOL.out.tbv 0
        have t1 := cell_blk HOL.out.tbv 1
        have t2 := cell_blk HOL.out.tbv 2
        simp at t0 t1 t2
        have hlti : (i : Int) < (O.length : Int) := by omega
        by_cases h1 : o.d = 1
        · have b1 : (o.d == 1) = true := by simpa using h1
          have HUN := Lib.hid (fun (u : World) (hf : Fr [] wr u) => (by
            have h := rundo_any (HOL.out.isr.fr hf) o.n (by have := HQ.out; omega) (by have := HQ.out; omega)
            have h2 := HRR.out
            unfold RS.step at h2
            rw [if_pos h1] at h2
            simp only at h2
            rw [← h2.1, ← h2.2.1] at h
            exact h : Calls Try.prog 30 #[.agg #[.slice so r.states.length sc, .slice co r.cell.length cc, .int .i64 r.base], .int .i64 o.n] u (RStep u r so sc co cc rs r' code)))
          have HL := Lib.hid (by have h2 := HRR.out.2.2; unfold RS.step at h2; rw [if_pos h1] at h2; exact h2 : L = [])
          clear h1
          go_wp2_with fail
          go_region_law ((go_simp; go_at_call 30; refine (HUN.out _ ((Fr.refl [] wr).drewN _)).mono ?_; rintro e w1 ⟨rs', rfl, hR, hRs, f1⟩; have HR1 := Lib.hid hR; have HRS := Lib.hid hRs; have HF1 := Lib.hid (((Fr.refl [] wr).drewN _).trans f1 (by simp [Ext])); have htb1 := HF1.out.blk HOL.out.tbv (by simp); have d0 := cell_blk htb1 0; have d1 := cell_blk htb1 1; have d2 := cell_blk htb1 2; have fq := frozen_blk htb1; clear hR hRs f1 htb1))
          all_goals
            go_wp2_with fail
            go_meet
            exact ⟨so, sc, co, cc, rs', none, 0, by rw [HL.out]; rfl, rfl, HOL.out.step HF1.out HR1.out (fun k hk => .inl (rsG_sub HRS.out k hk)) rfl, by rw [HL.out]; exact Seg.nil _ _ _⟩
        · have b1 : (o.d == 1) = false := by simpa using h1
          by_cases h2 : o.d = 2
          · have b2 : (o.d == 2) = true := by simpa using h2
            have HUN := Lib.hid (fun (u : World) (hf : Fr [] wr u) => (by
              have h := rdisc_any (HOL.out.isr.fr hf) o.n (by have := HQ.out; omega) (by have := HQ.out; omega)
              have hq := HRR.out
              unfold RS.step at hq
              rw [if_neg h1, if_pos h2] at hq
              simp only at hq
              rw [← hq.1, ← hq.2.1] at h
              exact h : Calls Try.prog 31 #[.agg #[.slice so r.states.length sc, .slice co r.cell.length cc, .int .i64 r.base], .int .i64 o.n] u (RStep u r so sc co cc rs r' code)))
            have HL := Lib.hid (by have hq := HRR.out.2.2; unfold RS.step at hq; rw [if_neg h1, if_pos h2] at hq; exact hq : L = [])
            clear h1 h2
            go_wp2_with fail
            go_region_law ((go_simp; go_at_call 31; refine (HUN.out _ ((Fr.refl [] wr).drewN _)).mono ?_; rintro e w1 ⟨rs', rfl, hR, hRs, f1⟩; have HR1 := Lib.hid hR; have HRS := Lib.hid hRs; have HF1 := Lib.hid (((Fr.refl [] wr).drewN _).trans f1 (by simp [Ext])); have htb1 := HF1.out.blk HOL.out.tbv (by simp); have d0 := cell_blk htb1 0; have d1 := cell_blk htb1 1; have d2 := cell_blk htb1 2; have fq := frozen_blk htb1; clear hR hRs f1 htb1))
            all_goals
              go_wp2_with fail
              go_meet
              exact ⟨so, sc, co, cc, rs', none, 0, by rw [HL.out]; rfl, rfl, HOL.out.step HF1.out HR1.out (fun k hk => .inl (rsG_sub HRS.out k hk)) rfl, by rw [HL.out]; exact Seg.nil _ _ _⟩
          · have b2 : (o.d == 2) = false := by simpa using h2
            by_cases h3 : o.d = 3
            · have b3 : (o.d == 3) = true := by simpa using h3
              have HUN := Lib.hid (fun (u : World) (hf : Fr [] wr u) => (by
                have h := rchg_any (HOL.out.isr.fr hf) o.n (by have := HQ.out; omega) (by have := HQ.out; omega)
                have hq := HRR.out
                unfold RS.step at hq
                rw [if_neg h1, if_neg h2, if_pos h3] at hq
                simp only at hq
                rw [← hq.2.2, ← hq.2.1] at h
                exact h : Calls Try.prog 32 #[.agg #[.slice so r.states.length sc, .slice co r.cell.length cc, .int .i64 r.base], .int .i64 o.n] u (ChgTo9 u L code)))
              have HRE := Lib.hid (by have hq := HRR.out.1; unfold RS.step at hq; rw [if_neg h1, if_neg h2, if_pos h3] at hq; exact hq : r' = r)
              clear h1 h2 h3
              go_wp2_with fail
              go_region_law ((go_simp; go_at_call 32; refine (HUN.out _ ((Fr.refl [] wr).drewN _)).mono ?_; rintro e w1 ⟨wo, wc, rfl, hS, f1, hn1⟩; have HS1 := Lib.hid hS; have HN1 := Lib.hid (fun k hk => Nat.le_trans ((Fr.refl [] wr).drewN _).size (hn1 k hk)); have HF1 := Lib.hid (((Fr.refl [] wr).drewN _).trans f1 (by simp [Ext])); clear hS f1 hn1))
              all_goals
                go_wp2_with fail
                go_meet
                exact ⟨so, sc, co, cc, rs, wo, wc, rfl, rfl, by rw [HRE.out]; exact HOL.out.with HF1.out (fun k hk => ⟨HN1.out k hk, HS1.out.lt k hk⟩), HS1.out⟩
            · have b3 : (o.d == 3) = false := by simpa using h3
              have HUN := Lib.hid (fun (u : World) (hf : Fr [] wr u) => (by
                have h := rset_any (HOL.out.isr.fr hf) o.n o.v (by have := HSL.out; omega)
                have hq := HRR.out.1
                unfold RS.step at hq
                rw [if_neg h1, if_neg h2, if_neg h3] at hq
                simp only at hq
                rw [← hq] at h
                exact h : Calls Try.prog 33 #[.agg #[.slice so r.states.length sc, .slice co r.cell.length cc, .int .i64 r.base], .int .i64 o.n, .int .i64 o.v] u (RSet u so co rs r')))
              have HL := Lib.hid (by have hq := HRR.out.2; unfold RS.step at hq; rw [if_neg h1, if_neg h2, if_neg h3] at hq; exact ⟨hq.2, hq.1⟩ : L = [] ∧ code = 0)
              clear h1 h2 h3
              go_wp2_with fail
              refine wp_still_tail 11 (by kernel_rfl) (by kernel_rfl) ?_
              simp only [List.take_succ_cons, List.take_zero, List.drop_succ_cons, List.drop_zero]
              repeat still_step
              refine wpStill_nil ?_
              go_wp2_with fail
              refine (HUN.out _ (Fr.refl [] wr).drew).mono ?_
              rintro e w1 ⟨so', sc', co', cc', rs', rfl, hR, hRs, f1⟩
              have HR1 := Lib.hid hR
              have HSZ := Lib.hid (Fr.refl [] wr).drew.size
              have HRS := Lib.hid hRs
              have HF1 := Lib.hid ((Fr.refl [] wr).drew.trans f1 (by simp [Ext]))
              have htb1 := HF1.out.blk HOL.out.tbv (by simp)
              have d0 := cell_blk htb1 0
              have d1 := cell_blk htb1 1
              have d2 := cell_blk htb1 2
              have fq := frozen_blk htb1
              clear hR hRs f1 htb1
              go_wp2_with fail
              go_meet
              exact ⟨so', sc', co', cc', rs', none, 0, by rw [HL.out.1]; rfl, by rw [HL.out.2], HOL.out.step HF1.out HR1.out (fun k hk => (HRS.out k hk).imp id (fun h => Nat.le_trans HSZ.out h)) rfl, by rw [HL.out.1]; exact Seg.nil _ _ _⟩
      case rest =>
        obtain ⟨wq0, rfl⟩ : ∃ u : World, u = wc := ⟨_, rfl⟩
        obtain ⟨so', sc', co', cc', rs', wo, wcap, rfl, rfl, hm, hs⟩ := hcut
        obtain ⟨s', hs'⟩ : ∃ s', s' = (s.app o).2.2 := ⟨_, rfl⟩
        have hst := HSIM.out.step o
        have HS' := Lib.hid (by rw [hs', HRR.out.1]; exact hst.1 : Sim s' r')
        have HAP := Lib.hid (by rw [HRR.out.2.1, HRR.out.2.2, hs', ← hst.2.1, ← hst.2.2] : s.app o = (code, L, s'))
        have HLEN := Lib.hid (by have h := RS.step_len r o; rw [← HRR.out.1] at h; have := HSL.out; omega : r'.states.length ≤ i + 1 + 1)
        have HM := Lib.hid hm
        have HS := Lib.hid hs
        obtain ⟨g2, off2, hgo, c0, c1, c2⟩ := hm.op hlt
        cases hgo
        rw [← HOE.out] at c0 c1 c2
        have hlti : (i : Int) < (O.length : Int) := by omega
        have hi3 : (i : Int) ≤ 1000000 := by omega
        clear hs' hst hm hs HOL HSIM HSL
        go_wp2_with fail
        refine (apply_any HM.out.own o hi3 HAP.out).mono ?_
        rintro e wq ⟨xo, xc, rfl, hsx, h4, k4⟩
        have HQ := Lib.hid ((HM.out.kept (h4.sub (fun k hk => List.mem_append_right _ hk)) k4).sub)
        have HSX := Lib.hid hsx
        have HSW := Lib.hid (HS.out.kept k4 (fun k hk => by simp [hk]))
        clear hsx h4 k4 HM HS c0 c1 c2
        go_upto_region 20 with fail
        obtain ⟨MK, hMK⟩ : ∃ m, m = s'.mark := ⟨_, rfl⟩
        obtain ⟨LG, hLG⟩ : ∃ m : Int, m = (s'.log.length : Int) := ⟨_, rfl⟩
        obtain ⟨S', hS'⟩ : ∃ m, m = r'.states.length := ⟨_, rfl⟩
        obtain ⟨C', hC'⟩ : ∃ m, m = r'.cell.length := ⟨_, rfl⟩
        obtain ⟨B', hB'⟩ : ∃ m, m = r'.base := ⟨_, rfl⟩
        have hsim := HS'.out
        have hcm : (C' : Int) = MK := by rw [hC', hMK]; exact hsim.clen
        have hbl : MK - B' = LG := by rw [hMK, hB', hLG, hsim.base]; unfold MemS.mark; omega
        have HTBV := Lib.hid (by rw [hS', hC', hB']; exact HQ.out.tbv : wq.heap[tb]? = some (.cells #[.slice so' S' sc', .slice co' C' cc', .int .i64 B'] 50 (0, 0)))
        have HST := Lib.hid (fun (u : World) (hu : Fr [] wq u) => (by have h := hu.blk HTBV.out (by simp); exact ⟨cell_blk h 0, cell_blk h 1, cell_blk h 2⟩ : u.cell? ⟨tb, 0, none⟩ = some (.slice so' S' sc') ∧ u.cell? ⟨tb, 1, none⟩ = some (.slice co' C' cc') ∧ u.cell? ⟨tb, 2, none⟩ = some (.int .i64 B')))
        have hsix := hsim.six
        have hr6 : r'.now = s'.cells := hsim.now.1
        have CS1 := Lib.hid (fun (u : World) (hu : Fr [] wq u) => (same_yes u xo wo xc wcap L (HSX.out.fr hu (by simp)).rd (HSW.out.fr hu (by simp)).rd).mono (R' := fun e w' => e = .returned (.bool true) ∧ Fr [] u w') fun e w' h => ⟨h.1, by obtain ⟨k, hk⟩ := h.2; rw [hk]; exact (Fr.refl [] u).drewN k⟩)
        have CCE := Lib.hid (fun (u : World) (hu : Fr [] wq u) => m_cellsF ((HQ.out.own.fr (memX_frm _ _ _) hu).1) hsix)
        have CNO := Lib.hid (fun (u : World) (hu : Fr [] wq u) => (by have h := rnow_any (HQ.out.isr.fr hu); rw [← hS', ← hC', ← hB', hr6] at h; exact h : Calls Try.prog 35 #[.agg #[.slice so' S' sc', .slice co' C' cc', .int .i64 B']] u fun e w' => ∃ x ∈ rs', x.l = s'.cells ∧ x.l.length = 6 ∧ e = .returned (.slice x.o 6 x.c) ∧ Fr [] u w'))
        have CS2 := Lib.hid (fun (u : World) (hu : Fr [] wq u) (b : Nat) (hb : u.heap[b]? = some (row s'.cells)) (x : RRow) (hx : x ∈ rs') (hxl : x.l = s'.cells) => (by
          have h1 := (row_seg hb (by rw [hsix]; unfold maxLen; omega)).rd
          have h2 := ((HQ.out.isr.fr hu).rows x hx).rd
          rw [hxl] at h2
          have h := same_yes u (some ⟨b, 0, none⟩) x.o 6 x.c s'.cells h1 h2
          rw [hsix] at h
          exact h.mono fun e w' h => ⟨h.1, by obtain ⟨k, hk⟩ := h.2; rw [hk]; exact (Fr.refl [] u).drewN k⟩ : Calls Try.prog 18 #[.slice (some ⟨b, 0, none⟩) 6 6, .slice x.o 6 x.c] u fun e w' => e = .returned (.bool true) ∧ Fr [] u w'))
        have CMK := Lib.hid (fun (u : World) (hu : Fr [] wq u) => (m_mark ((HQ.out.own.fr (memX_frm _ _ _) hu).1) (by omega) hMK.symm).mono (R' := fun e w' => e = .returned (.int .i64 MK) ∧ Fr [] u w') fun e w' h => ⟨h.1, by obtain ⟨k, hk⟩ := h.2; rw [hk]; exact (Fr.refl [] u).drewN k⟩)
        have CRM := Lib.hid (fun (u : World) => (by have h := rmark_any u so' S' sc' co' C' cc' B'; rw [hcm] at h; exact h))
        have CLG := Lib.hid (fun (u : World) (hu : Fr [] wq u) => m_logged ((HQ.out.own.fr (memX_frm _ _ _) hu).1) hLG.symm)
        have FX := Lib.hid (Fr.refl [] wq)
        have e1 : (code != code) = false := by simp
        have e2 : (MK != MK) = false := by simp
        have e3 : (LG != LG) = false := by simp
        have hw : IntKind.i64.wrap (MK - B') = LG := by rw [hbl]; exact IntWalk.i64_in _ (by have := HQ.out.own.good.cap; have := HQ.out.own.good.base; omega)
        have HSE := Lib.hid (And.intro hS' (And.intro hC' hB'))
        clear hMK hLG hS' hC' hB' hsim hcm hbl hsix hr6 hlti hi3
        go_region_held3 (fun u => u.cell? ⟨tb, 0, none⟩ = some (.slice so' S' sc') ∧ u.cell? ⟨tb, 1, none⟩ = some (.slice co' C' cc') ∧ u.cell? ⟨tb, 2, none⟩ = some (.int .i64 B')) (first | exact HST.out _ FX.out | exact HST.out _ (FX.out.trans (Fr.refl [] wq).drew (by simp [Ext])))
          ((first
            | (go_at_call 18; refine (CS2.out _ FX.out _ HBB.out _ HXX.out.1 HXX.out.2).mono ?_; rintro e w' ⟨rfl, fX⟩; have HBB := Lib.hid (fX.blk HBB.out (by simp)); have FX := Lib.hid (FX.out.trans fX (by simp [Ext])); clear fX)
            | (go_at_call 18; refine (CS1.out _ (FX.out.trans (Fr.refl [] wq).drew (by simp [Ext]))).mono ?_; rintro e w' ⟨rfl, fX⟩; have FX := Lib.hid ((FX.out.trans (Fr.refl [] wq).drew (by simp [Ext])).trans fX (by simp [Ext])); clear fX)
            | (go_at_call 19; refine (CCE.out _ FX.out).mono ?_; rintro e w' ⟨b9, rfl, hb9, fX⟩; have HBB := Lib.hid hb9; have FX := Lib.hid (FX.out.trans fX (by simp [Ext])); clear fX hb9)
            | (go_at_call 35; refine (CNO.out _ FX.out).mono ?_; rintro e w' ⟨x9, hx9, hxl, -, rfl, fX⟩; have HXX := Lib.hid (And.intro hx9 hxl); have HBB := Lib.hid (fX.blk HBB.out (by simp)); have FX := Lib.hid (FX.out.trans fX (by simp [Ext])); clear fX hx9 hxl)
            | (go_at_call 17; refine (CMK.out _ FX.out).mono ?_; rintro e w' ⟨rfl, fX⟩; have FX := Lib.hid (FX.out.trans fX (by simp [Ext])); clear fX)
            | (go_at_call 36; refine (CRM.out _).mono ?_; rintro e w' ⟨rfl, fX⟩; have FX := Lib.hid (FX.out.trans fX (by simp [Ext])); clear fX)
            | (go_at_call 26; refine (CLG.out _ FX.out).mono ?_; rintro e w' ⟨rfl, hw'⟩; obtain rfl := hw'.symm)))
        go_wp2_with fail
        go_roundw
        case rel =>
          have h := (HQ.out.fr FX.out)
          exact ⟨i + 1, s', r', so', sc', co', cc', rs', by omega, by go_num, HS'.out, by rw [show ((i + 1 : Nat) : Int) = (i : Int) + 1 by omega]; exact h, HLEN.out⟩
        case measure => simp [intOf]; omega
    · go_wp2_with fail
      refine (m_len HOL.out.own (x := 6) (by rw [HSIM.out.six]; rfl)).mono ?_
      rintro e wl ⟨rfl, hwl⟩
      obtain rfl := hwl.symm
      go_wp2_with fail
      refine (lives_any _).mono ?_
      rintro e w12 ⟨rfl, f12⟩
      have F12 := Lib.hid (HOL.out.own.frame.trans f12 (by simp [Ext]))
      clear f12
      go_wp2_with fail
      go_ret
      exact ⟨rfl, F12.out⟩
end Go.Proofs.Ytoolojpjopodgaa
