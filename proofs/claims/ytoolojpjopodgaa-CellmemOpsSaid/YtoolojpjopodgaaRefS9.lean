/- CellmemOps: the reference's Set, New. -/
import Derived.Test.YtoolojpjopodgaaRefD9
namespace Go.Proofs.Ytoolojpjopodgaa
open Go.RowKit

theorem infoSl : (Try.prog.info? 22).map (fun i => (i.zero, i.size, i.bytes)) = some (some (.slice none 0 0), 1, 24) := by kernel_rfl
theorem rows_one (rs : List RRow) : ∀ u ∈ rs.map RRow.v, u.oneCell' = true := by
  intro u hu
  obtain ⟨x, -, rfl⟩ := List.mem_map.1 hu
  rfl
section
variable {w w' : World} {r : RS} {so co : Option Addr} {sc cc : Nat} {rs : List RRow}
def RSet (w : World) (so co : Option Addr) (rs : List RRow) (r' : RS) (e : Ending) (w' : World) : Prop :=
  ∃ so' sc' co' cc' rs', e = .returned (.agg #[.slice so' r'.states.length sc', .slice co' r'.cell.length cc', .int .i64 r'.base]) ∧ IsRS w' r' so' sc' co' cc' rs' ∧ (∀ k ∈ rsG so' co' rs', k ∈ rsG so co rs ∨ w.heap.size ≤ k) ∧ Fr [] w w'

set_option maxRecDepth 100000 in
set_option maxHeartbeats 8000000 in
theorem rset_any (h : IsRS w r so sc co cc rs) (i v : Int) (hs9 : r.states.length ≤ 900) :
    Calls Try.prog 33 #[.agg #[.slice so r.states.length sc, .slice co r.cell.length cc, .int .i64 r.base], .int .i64 i, .int .i64 v] w (RSet w so co rs (r.set i v)) := by
  obtain ⟨ii, hii, hz0, hz1, hz2⟩ := info_parts infoInt
  obtain ⟨is, his, hy0, hy1, hy2⟩ := info_parts infoSl
  have H := Lib.hid h
  have HNO := Lib.hid (fun u (hu : Fr [] w u) => rnow_any (h.fr hu))
  obtain ⟨r', hr'⟩ : ∃ r', r' = r.set i v := ⟨_, rfl⟩
  rw [← hr']
  have HR' := Lib.hid hr'
  obtain ⟨S, hS⟩ : ∃ S, S = r.states.length := ⟨_, rfl⟩
  obtain ⟨C, hC⟩ : ∃ C, C = r.cell.length := ⟨_, rfl⟩
  obtain ⟨b, hbb⟩ : ∃ b, b = r.base := ⟨_, rfl⟩
  have HE := Lib.hid (And.intro hS (And.intro hC hbb))
  have hsl := h.sl
  have hss := h.ss
  have hcs := h.cs
  rw [← hS, ← hC, ← hbb] at HNO ⊢
  rw [← hS] at hs9 hsl hss
  rw [← hC] at hsl hcs
  have HSS := Lib.hid hss
  have HCS := Lib.hid hcs
  have hc9 : C ≤ 900 := by omega
  have HSL := Lib.hid hsl
  obtain ⟨w1, hw1⟩ : ∃ u, u = (w.alloc (.cells #[.slice so S sc, .slice co C cc, .int .i64 b] 50)).alloc (.cells #[.slice none 0 0, .slice none 0 0, .int .i64 0] 50) := ⟨_, rfl⟩
  obtain ⟨p, hp⟩ : ∃ k, k = w.heap.size := ⟨_, rfl⟩
  obtain ⟨q, hq⟩ : ∃ k, k = w.heap.size + 1 := ⟨_, rfl⟩
  have HP := Lib.hid (by rw [hw1, hp]; exact alloc_old (alloc_new _ _) : w1.heap[p]? = some (.cells #[.slice so S sc, .slice co C cc, .int .i64 b] 50 (0, 0)))
  have HQ := Lib.hid (by rw [hw1, hq]; exact alloc2r_new _ _ _ : w1.heap[q]? = some (.cells #[.slice none 0 0, .slice none 0 0, .int .i64 0] 50 (0, 0)))
  have HF := Lib.hid (by rw [hw1]; exact ((Fr.refl [] w).alloc _).alloc _ : Fr [] w w1)
  have HPQ := Lib.hid (And.intro hp (And.intro hq hw1))
  clear h hr' hS hC hbb hsl hss hcs hw1 hp hq
  go_enter Try.func33, Try.ntmps33
  go_upto_region 1 with fail
  rw [← HPQ.out.2.2, ← HPQ.out.2.1, ← HPQ.out.1]
  have c0 : w1.cell? ⟨p, 0, none⟩ = some (.slice so S sc) := cell_blk HP.out 0
  have c1 : w1.cell? ⟨p, 1, none⟩ = some (.slice co C cc) := cell_blk HP.out 1
  have c2 : w1.cell? ⟨p, 2, none⟩ = some (.int .i64 b) := cell_blk HP.out 2
  by_cases hi0 : i < 0
  · have hrr : r' = r := by rw [HR'.out]; unfold RS.set; rw [if_neg (by omega)]
    have d0 : w1.cell? ⟨q, 0, none⟩ = some (.slice none 0 0) := cell_blk HQ.out 0
    have d1 : w1.cell? ⟨q, 1, none⟩ = some (.slice none 0 0) := cell_blk HQ.out 1
    have d2 : w1.cell? ⟨q, 2, none⟩ = some (.int .i64 0) := cell_blk HQ.out 2
    have fq : ∀ i, w1.frozen? ⟨q, i, none⟩ = false := frozen_blk HQ.out
    have HRR := Lib.hid hrr
    clear hrr
    go_wp2_with fail
    obtain ⟨w3, hw3⟩ : ∃ u, u = ((w1.setCell ⟨q, 0, none⟩ (.slice so S sc)).setCell ⟨q, 1, none⟩ (.slice co C cc)).setCell ⟨q, 2, none⟩ (.int .i64 b) := ⟨_, rfl⟩
    have hb3 := set3 (x := .slice so S sc) (y := .slice co C cc) (z := .int .i64 b) HQ.out
    have hf3 : Fr [] w w3 := by rw [hw3]; exact set3_fr HF.out (by have := HPQ.out.2.1; omega)
    rw [← hw3] at hb3 ⊢
    have t0 := cell_blk hb3 0
    have t1 := cell_blk hb3 1
    have t2 := cell_blk hb3 2
    obtain ⟨hS, hC, hbb⟩ := HE.out
    rw [HRR.out]
    refine bodyPost_ret (v := .agg #[.slice so S sc, .slice co C cc, .int .i64 b]) (by simp [results, Try.results33, go_sem, t0, t1, t2]) rfl ⟨so, sc, co, cc, rs, by rw [hS, hC, hbb], H.out.fr hf3, fun k hk => .inl hk, hf3⟩
  · go_wp2_with fail
    refine (HNO.out w1 HF.out).mono ?_
    rintro e w2 ⟨x, hx, hxn, hx6, rfl, f2⟩
    have hp2 := f2.blk HP.out (by simp)
    have hq2 := f2.blk HQ.out (by simp)
    have HP2 := Lib.hid hp2
    have HQ2 := Lib.hid hq2
    have HF2 := Lib.hid (HF.out.trans f2 (by simp [Ext]))
    clear c0 c1 c2 f2 hx hxn hx6
    have c0 : w2.cell? ⟨p, 0, none⟩ = some (.slice so S sc) := cell_blk hp2 0
    have c1 : w2.cell? ⟨p, 1, none⟩ = some (.slice co C cc) := cell_blk hp2 1
    have c2 : w2.cell? ⟨p, 2, none⟩ = some (.int .i64 b) := cell_blk hp2 2
    by_cases hi6 : 6 ≤ i
    · have hrr : r' = r := by rw [HR'.out]; unfold RS.set; rw [if_neg (by omega)]
      have d0 : w2.cell? ⟨q, 0, none⟩ = some (.slice none 0 0) := cell_blk hq2 0
      have d1 : w2.cell? ⟨q, 1, none⟩ = some (.slice none 0 0) := cell_blk hq2 1
      have d2 : w2.cell? ⟨q, 2, none⟩ = some (.int .i64 0) := cell_blk hq2 2
      have fq : ∀ i, w2.frozen? ⟨q, i, none⟩ = false := frozen_blk hq2
      have HRR := Lib.hid hrr
      clear hrr hp2 hq2
      go_wp2_with fail
      obtain ⟨w3, hw3⟩ : ∃ u, u = ((w2.setCell ⟨q, 0, none⟩ (.slice so S sc)).setCell ⟨q, 1, none⟩ (.slice co C cc)).setCell ⟨q, 2, none⟩ (.int .i64 b) := ⟨_, rfl⟩
      have hb3 := set3 (x := .slice so S sc) (y := .slice co C cc) (z := .int .i64 b) HQ2.out
      have hf3 : Fr [] w w3 := by rw [hw3]; exact set3_fr HF2.out (by have := HPQ.out.2.1; omega)
      rw [← hw3] at hb3 ⊢
      have t0 := cell_blk hb3 0
      have t1 := cell_blk hb3 1
      have t2 := cell_blk hb3 2
      obtain ⟨hS, hC, hbb⟩ := HE.out
      rw [HRR.out]
      refine bodyPost_ret (v := .agg #[.slice so S sc, .slice co C cc, .int .i64 b]) (by simp [results, Try.results33, go_sem, t0, t1, t2]) rfl ⟨so, sc, co, cc, rs, by rw [hS, hC, hbb], H.out.fr hf3, fun k hk => .inl hk, hf3⟩
    · clear hp2 hq2
      obtain ⟨k, rfl⟩ : ∃ k : Nat, i = (k : Int) := ⟨i.toNat, by omega⟩
      have hk6 : k < 6 := by omega
      have hk6' : (k : Int) < 6 := by omega
      go_wp2_with fail
      refine (HNO.out w2 HF2.out).mono ?_
      rintro e w3 ⟨x, hx, hxn, hx6, rfl, f3⟩
      have HF3 := Lib.hid (HF2.out.trans f3 (by simp [Ext]))
      have HP3 := Lib.hid (f3.blk HP2.out (by simp))
      have HQ3 := Lib.hid (f3.blk HQ2.out (by simp))
      have hrow := (H.out.fr HF3.out).rows x hx
      have HOW := Lib.hid (by have h := rown_any w3 x.o x.c x.l hrow.rd (by omega); rw [hx6] at h; unfold OwnTo at h; rw [hx6, hxn] at h; exact h)
      have HN6 := Lib.hid (by rw [← hxn]; exact hx6 : r.now.length = 6)
      clear f3 c0 c1 c2 hx hxn hx6 hrow
      go_wp2_with fail
      refine HOW.out.mono ?_
      rintro e w4 ⟨o4, c4, rfl, hs4, f4, hn4⟩
      have HF4 := Lib.hid (HF3.out.trans f4 (by simp [Ext]))
      have hp4 := f4.blk HP3.out (by simp)
      have HP4 := Lib.hid hp4
      have HQ4 := Lib.hid (f4.blk HQ3.out (by simp))
      obtain ⟨g4, off4, cur, rfl, hg4, -, hc4, hz4⟩ := hs4.at (by have := hs4.2.2.1; omega)
      have e1 := hc4 k (by omega)
      have e2 := hz4 (off4 + k)
      obtain ⟨vv, hvv⟩ : ∃ vv, (ints r.now)[k]? = some vv := ⟨_, List.getElem?_eq_getElem (by have := hs4.1; omega)⟩
      rw [hvv] at e1
      have HS4 := Lib.hid hs4
      have HN4 := Lib.hid (by have h := hn4 g4 (by simp [blk]); have h2 := HF3.out.size; have h3 := lt_of_blk HP3.out; have h4 := lt_of_blk HQ3.out; exact ⟨by omega, by omega, by omega⟩ : w.heap.size ≤ g4 ∧ g4 ≠ p ∧ g4 ≠ q)
      clear f4 hs4 hn4 hg4 hc4 hz4 hvv hp4 HOW
      go_upto_region 5 with fail
      obtain ⟨w5, hw5⟩ : ∃ u, u = w4.setCell ⟨g4, off4 + k, none⟩ (.int .i64 v) := ⟨_, rfl⟩
      obtain ⟨nl, hnl⟩ : ∃ nl, nl = r.now.set k v := ⟨_, rfl⟩
      have HNL := Lib.hid hnl
      have HS5 := Lib.hid (by
        have h := HS4.out.store (i := k) (by omega) (.int .i64 v)
        rw [← hw5] at h
        have h2 : (ints r.now).set k (.int .i64 v) = ints nl := by rw [hnl]; unfold ints; rw [List.map_set]
        rw [h2] at h; exact h : Seg w5 3 1 (some ⟨g4, off4, none⟩) 6 c4 (ints nl))
      have hp5 := (by rw [hw5]; exact (setCell_ne (by have := HN4.out; simp; omega)).trans HP4.out : w5.heap[p]? = some (.cells #[.slice so S sc, .slice co C cc, .int .i64 b] 50 (0, 0)))
      have HQ5 := Lib.hid (by rw [hw5]; exact (setCell_ne (by have := HN4.out; simp; omega)).trans HQ4.out : w5.heap[q]? = some (.cells #[.slice none 0 0, .slice none 0 0, .int .i64 0] 50 (0, 0)))
      have HF5 := Lib.hid (by rw [hw5]; exact HF4.out.setCell (.inr HN4.out.1) _ : Fr [] w w5)
      have HP5 := Lib.hid hp5
      rw [← hw5]
      have hpl : p < w5.heap.size := lt_of_blk hp5
      have c0 : w5.cell? ⟨p, 0, none⟩ = some (.slice so S sc) := cell_blk hp5 0
      have HSR := Lib.hid (((HSS.out.fr HF5.out (by simp)).alloc (.cells #[] 22)).rd)
      have HO5 := Lib.hid (Seg.one w5.heap.size #[] 22 1 0 (alloc_new w5 (.cells #[] 22)) rfl (by unfold maxLen; omega))
      have HRR := Lib.hid (rows_one rs)
      have HW5 := Lib.hid (by have := HF5.out.size; exact this : w.heap.size ≤ w5.heap.size)
      clear hw5 hnl hp5 e1 e2
      go_upto_region 6 with (first
        | (at_builtin; refine wpList_append_seg rfl _ _ 40 rfl 22 is _ 1 24 Try.underlying40 his hy0 hy1 hy2 rfl (by decide) o6 S c6 (rs.map RRow.v) rfl (HS6.out.alloc _) ⟨w6.heap.size, 0, none⟩ 1 1 [.slice (some ⟨g4, off4, none⟩) 6 c4] rfl rfl (blk_newsR (alloc_new w6 (.cells #[.slice (some ⟨g4, off4, none⟩) 6 c4] 22))) (by simp [Value.oneCell']) (by unfold maxLen; omega) (by omega) ?_; intro o7 c7 w7 hs7 hf7 hx7; have HS7 := Lib.hid hs7; have HF7 := Lib.hid (((Fr.refl (blk o6) w6).alloc _).trans hf7 (Ext.refl _ _)); have HX7 := Lib.hid (fun q (hq : q ∈ blk o7) => (hx7 q hq).imp id (fun h => Nat.le_trans ((Fr.refl ([] : List Nat) w6).alloc _).size h) : ∀ q ∈ blk o7, q ∈ blk o6 ∨ w6.heap.size ≤ q); have hp7 := HF7.out.blk HP6.out (fun h => by have := HX6.out p h; omega); have k0 := cell_blk hp7 0; have z0 := frozen_blk hp7 0; simp at k0; have HP7 := Lib.hid hp7; clear hs7 hf7 hx7 hp7)
        | (at_builtin; refine wpList_append_rd rfl _ _ 40 rfl 22 is _ 1 24 Try.underlying40 his hy0 hy1 hy2 rfl (by decide) (some ⟨w5.heap.size, 0, none⟩) 0 0 [] rfl HO5.out so S sc (rs.map RRow.v) rfl HSR.out HRR.out (by unfold maxLen; omega) (by omega) ?_; intro o6 c6 w6 hs6 hf6 hx6; rw [Nat.zero_add, List.nil_append] at hs6; have HS6 := Lib.hid hs6; have HF6 := Lib.hid (((Fr.refl [] w5).alloc _).trans hf6 (fun k hk => .inr (by simp [blk] at hk; omega))); have HX6 := Lib.hid (fun k (hk : k ∈ blk o6) => (by rcases hx6 k hk with h | h; (simp [blk] at h; omega); (simp at h; omega) : w5.heap.size ≤ k)); have HP6 := Lib.hid (HF6.out.blk HP5.out (by simp)); clear hs6 hf6 hx6))
      obtain ⟨w8, hw8⟩ : ∃ u, u = w7.setCell ⟨p, 0, none⟩ (.slice o7 (S + 1) c7) := ⟨_, rfl⟩
      have HQP := Lib.hid (by have := HPQ.out; have := lt_of_blk HQ5.out; exact ⟨by omega, by omega, by omega, by omega⟩ : p ≠ q ∧ w.heap.size ≤ p ∧ w.heap.size ≤ q ∧ q < w5.heap.size)
      have HO7 := Lib.hid (fun k (hk : k ∈ blk o7) => (by
        have h6 := HF6.out.size
        rcases HX7.out k hk with h | h
        · exact HX6.out k h
        · omega : w5.heap.size ≤ k))
      have HF57 := Lib.hid (HF6.out.trans HF7.out (fun k hk => .inr (HX6.out k hk)) : Fr [] w5 w7)
      have hp8 := (by rw [hw8, setCell_blk HP7.out]; rfl : w8.heap[p]? = some (.cells #[.slice o7 (S + 1) c7, .slice co C cc, .int .i64 b] 50 (0, 0)))
      have HQ8 := Lib.hid (by rw [hw8]; exact (setCell_ne (by have := HQP.out.1; simp; omega)).trans (HF57.out.blk HQ5.out (by simp)) : w8.heap[q]? = some (.cells #[.slice none 0 0, .slice none 0 0, .int .i64 0] 50 (0, 0)))
      have HF8 := Lib.hid (by rw [hw8]; exact (HF5.out.trans HF57.out (by simp [Ext])).setCell (.inr HQP.out.2.1) _ : Fr [] w w8)
      have HS8 := Lib.hid (by rw [hw8]; exact HS7.out.setCell_other (fun h => by have := HO7.out p h; omega) : Seg w8 22 1 o7 (S + 1) c7 (rs.map RRow.v ++ [.slice (some ⟨g4, off4, none⟩) 6 c4]))
      have HR8 := Lib.hid (by rw [hw8]; exact (HS5.out.fr HF57.out (by simp)).setCell_other (fun h => by simp [blk] at h; have := HN4.out; omega) : Seg w8 3 1 (some ⟨g4, off4, none⟩) 6 c4 (ints nl))
      have HP8 := Lib.hid hp8
      have hpl8 : p < w8.heap.size := lt_of_blk hp8
      have c1 : w8.cell? ⟨p, 1, none⟩ = some (.slice co C cc) := cell_blk hp8 1
      have HOC := Lib.hid (by have h := rown_any w8 co cc r.cell (H.out.fr HF8.out).cs.rd (by rw [← HE.out.2.1]; omega); rw [← HE.out.2.1] at h; unfold OwnTo at h; rw [← HE.out.2.1] at h; exact h)
      rw [← hw8]
      clear hw8 hp8 c0 k0 z0 hpl
      go_wp2_with fail
      refine HOC.out.mono ?_
      rintro e w9 ⟨o9, c9, rfl, hs9', f9, hn9⟩
      have HS9 := Lib.hid hs9'
      have HP9 := Lib.hid (f9.blk HP8.out (by simp))
      have HF9 := Lib.hid f9
      have HN9 := Lib.hid hn9
      have hpl9 : p < w9.heap.size := lt_of_blk HP9.out
      clear hs9' f9 hn9 HOC c1
      go_upto_region 7 with (at_builtin; refine wpList_append_seg rfl _ _ 22 rfl 3 ii _ 1 8 Try.underlying22 hii hz0 hz1 hz2 rfl (by decide) o9 C c9 (ints r.cell) rfl (HS9.out.alloc _) ⟨w9.heap.size, 0, none⟩ 1 1 [.int .i64 (k : Int)] rfl rfl (blk_newsR (alloc_new w9 (.cells #[.int .i64 (k : Int)] 3))) (by simp [Value.oneCell']) (by unfold maxLen; omega) (by omega) ?_; intro oa ca wa hsa hfa hxa; have HSA := Lib.hid hsa; have HFA := Lib.hid (((Fr.refl (blk o9) w9).alloc _).trans hfa (Ext.refl _ _)); have HXA := Lib.hid (fun q (hq : q ∈ blk oa) => (hxa q hq).imp id (fun h => Nat.le_trans ((Fr.refl ([] : List Nat) w9).alloc _).size h) : ∀ q ∈ blk oa, q ∈ blk o9 ∨ w9.heap.size ≤ q); have hpa := HFA.out.blk HP9.out (fun h => by have := HN9.out p h; omega); have k1 := cell_blk hpa 1; have z1 := frozen_blk hpa 1; simp at k1; have HPA := Lib.hid hpa; clear hsa hfa hxa hpa)
      obtain ⟨wb, hwb⟩ : ∃ u, u = wa.setCell ⟨p, 1, none⟩ (.slice oa (C + 1) ca) := ⟨_, rfl⟩
      have hpb := (by rw [hwb, setCell_blk HPA.out]; rfl : wb.heap[p]? = some (.cells #[.slice o7 (S + 1) c7, .slice oa (C + 1) ca, .int .i64 b] 50 (0, 0)))
      have HQA := Lib.hid (HFA.out.blk (HF9.out.blk HQ8.out (by simp)) (fun h => by have := HN9.out q h; have := lt_of_blk HQ8.out; omega))
      have hqb := (by rw [hwb]; exact (setCell_ne (by have := HQP.out.1; simp; omega)).trans HQA.out : wb.heap[q]? = some (.cells #[.slice none 0 0, .slice none 0 0, .int .i64 0] 50 (0, 0)))
      have d0 : wb.cell? ⟨p, 0, none⟩ = some (.slice o7 (S + 1) c7) := cell_blk hpb 0
      have d1 : wb.cell? ⟨p, 1, none⟩ = some (.slice oa (C + 1) ca) := cell_blk hpb 1
      have d2 : wb.cell? ⟨p, 2, none⟩ = some (.int .i64 b) := cell_blk hpb 2
      have f0 : wb.cell? ⟨q, 0, none⟩ = some (.slice none 0 0) := cell_blk hqb 0
      have f1 : wb.cell? ⟨q, 1, none⟩ = some (.slice none 0 0) := cell_blk hqb 1
      have f2 : wb.cell? ⟨q, 2, none⟩ = some (.int .i64 0) := cell_blk hqb 2
      have fq : ∀ i, wb.frozen? ⟨q, i, none⟩ = false := frozen_blk hqb
      have HQB := Lib.hid hqb
      have HWB := Lib.hid hwb
      rw [← hwb]
      clear hwb hpb hqb k1 z1
      go_wp2_with fail
      obtain ⟨wc, hwc⟩ : ∃ u, u = ((wb.setCell ⟨q, 0, none⟩ (.slice o7 (S + 1) c7)).setCell ⟨q, 1, none⟩ (.slice oa (C + 1) ca)).setCell ⟨q, 2, none⟩ (.int .i64 b) := ⟨_, rfl⟩
      have hbc := set3 (x := .slice o7 (S + 1) c7) (y := .slice oa (C + 1) ca) (z := .int .i64 b) HQB.out
      rw [← hwc] at hbc ⊢
      have t0 := cell_blk hbc 0
      have t1 := cell_blk hbc 1
      have t2 := cell_blk hbc 2
      have hfb : Fr [p, q] w8 wb := by
        rw [HWB.out]
        exact ((HF9.out.mono (by simp)).trans (HFA.out.mono (T := [p, q] ++ blk o9) (fun k hk => List.mem_append_right _ hk)) (fun k hk => by
          rcases List.mem_append.1 hk with h | h
          · exact .inl h
          · exact .inr (HN9.out k h))).setCell (.inl (by simp)) _
      have hfc : Fr [p, q] w8 wc := by rw [hwc]; exact ((hfb.setCell (.inl (by simp)) _).setCell (.inl (by simp)) _).setCell (.inl (by simp)) _
      have hfw : Fr [] w wc := HF8.out.trans hfc (fun k hk => .inr (by have := HQP.out; simp at hk; omega))
      have hsa2 : Seg wc 3 1 oa (C + 1) ca (ints r.cell ++ [.int .i64 (k : Int)]) := by
        have hne : ∀ z, (z = p ∨ z = q) → z ∉ blk oa := fun z hz h => by
          have hz8 : z < w8.heap.size := by rcases hz with rfl | rfl; exact hpl8; exact lt_of_blk HQ8.out
          rcases HXA.out z h with h2 | h2
          · have := HN9.out z h2; omega
          · have := HF9.out.size; omega
        rw [hwc, HWB.out]
        exact (((HSA.out.setCell_other (hne p (.inl rfl))).setCell_other (hne q (.inr rfl))).setCell_other (hne q (.inr rfl))).setCell_other (hne q (.inr rfl))
      have hS2 := HE.out.1
      have hC2 := HE.out.2.1
      have hb2 := HE.out.2.2
      have hR := H.out.fr hfw
      have hrv : r' = ⟨r.states ++ [nl], r.cell ++ [(k : Int)], r.base⟩ := by
        rw [HR'.out]; unfold RS.set; rw [if_pos (by omega), Int.toNat_natCast, ← HNL.out]
      have hnl6 : nl.length = 6 := by rw [HNL.out, List.length_set]; exact HN6.out
      have n1 : r'.states.length = S + 1 := by rw [hrv, hS2]; simp
      have n2 : r'.cell.length = C + 1 := by rw [hrv, hC2]; simp
      have n3 : r'.base = b := by rw [hrv, hb2]
      refine bodyPost_ret (v := .agg #[.slice o7 (S + 1) c7, .slice oa (C + 1) ca, .int .i64 b]) (by simp [results, Try.results33, go_sem, t0, t1, t2]) rfl ⟨o7, c7, oa, ca, rs ++ [⟨some ⟨g4, off4, none⟩, c4, nl⟩], by rw [n1, n2, n3], ⟨?_, ?_, ?_, fun x hx => ?_, by rw [n3, hb2]; exact hR.b0, by rw [n3, hb2]; exact hR.b1, by rw [n1]; omega, by rw [n1, n2]; have := HSL.out; omega, fun x hx => ?_⟩, fun z hz => ?_, hfw⟩
      · rw [hrv, List.map_append]
        show r.states ++ [nl] = _
        rw [hR.eq]; rfl
      · rw [n1, List.map_append]
        have h := HS8.out.fr hfc (fun z hz h => by have := HO7.out z hz; have := HQP.out; have := lt_of_blk HP5.out; simp at h; omega)
        show Seg wc _ 1 o7 (S + 1) c7 (rs.map RRow.v ++ [RRow.v ⟨some ⟨g4, off4, none⟩, c4, nl⟩])
        unfold RRow.v at h ⊢
        rw [hnl6]; exact h
      · rw [n2, hrv]
        show Seg wc _ 1 oa (C + 1) ca (ints (r.cell ++ [(k : Int)]))
        unfold ints at hsa2 ⊢
        rw [List.map_append]; exact hsa2
      · rcases List.mem_append.1 hx with h | h
        · exact hR.rows x h
        · simp at h; subst h
          show Seg wc _ 1 _ nl.length c4 (ints nl)
          rw [hnl6]
          exact HR8.out.fr hfc (fun z hz h => by simp [blk] at hz; have := HN4.out; simp at h; omega)
      · rcases List.mem_append.1 hx with h | h
        · exact hR.six x h
        · simp at h; rw [h]; exact hnl6
      · rcases List.mem_append.1 hz with h | h
        · right; have := HO7.out z h; have := HW5.out; omega
        rcases List.mem_append.1 h with h | h
        · right
          have h8 := HF8.out.size
          have h9 := HF9.out.size
          rcases HXA.out z h with h2 | h2
          · have := HN9.out z h2; omega
          · omega
        · obtain ⟨x, hx, hz2⟩ := List.mem_flatMap.1 h
          rcases List.mem_append.1 hx with h | h
          · left; exact List.mem_append_right _ (List.mem_append_right _ (List.mem_flatMap.2 ⟨x, h, hz2⟩))
          · right; simp at h; subst h; simp [blk] at hz2; rw [hz2]; exact HN4.out.1
end
end Go.Proofs.Ytoolojpjopodgaa
