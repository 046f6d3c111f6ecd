/- CellmemOps: the reference's Discard, Changed, New. -/
import Derived.Test.YtoolojpjopodgaaRefU9
namespace Go.Proofs.Ytoolojpjopodgaa
open Go.RowKit

section
variable {w w' : World} {r : RS} {so co : Option Addr} {sc cc : Nat} {rs : List RRow}
set_option maxRecDepth 100000 in
set_option maxHeartbeats 2000000 in
theorem rdisc_any (h : IsRS w r so sc co cc rs) (m : Int) (hm0 : -1000 ≤ m) (hm1 : m ≤ 1000) :
    Calls Try.prog 31 #[.agg #[.slice so r.states.length sc, .slice co r.cell.length cc, .int .i64 r.base], .int .i64 m] w (RStep w r so sc co cc rs (if r.check m = 0 then r.disc m else r) (r.check m)) := by
  have H := Lib.hid h
  have HC := Lib.hid (fun u => rcheck_any u so r.states.length sc co cc r m)
  obtain ⟨c, hc⟩ : ∃ c, c = r.check m := ⟨_, rfl⟩
  have hb := h.b0
  have hss := h.ss.2.2.1
  have hcs := h.cs.2.2.1
  have hsl := h.sl
  have hin : c = 0 → r.base ≤ m ∧ m ≤ r.cell.length := fun h0 => by
    rw [hc] at h0
    unfold RS.check RS.mark at h0
    split at h0
    · simp at h0
    · split at h0
      · simp at h0
      · omega
  rw [← hc] at HC ⊢
  obtain ⟨r', hr'⟩ : ∃ r', r' = if c = 0 then r.disc m else r := ⟨_, rfl⟩
  rw [← hr']
  have HR' := Lib.hid hr'
  clear hr'
  obtain ⟨S, hS⟩ : ∃ S, S = r.states.length := ⟨_, rfl⟩
  obtain ⟨C, hC⟩ : ∃ C, C = r.cell.length := ⟨_, rfl⟩
  obtain ⟨b, hbb⟩ : ∃ b, b = r.base := ⟨_, rfl⟩
  have HE := Lib.hid (And.intro hS (And.intro hC hbb))
  rw [← hS, ← hC, ← hbb] at HC ⊢
  rw [← hS] at hss hsl
  rw [← hC] at hcs hsl hin
  rw [← hbb] at hin hb
  obtain ⟨w1, hw1⟩ : ∃ u, u = (w.alloc (.cells #[.slice so S sc, .slice co C cc, .int .i64 b] 50)).alloc (.cells #[.slice none 0 0, .slice none 0 0, .int .i64 0] 50) := ⟨_, rfl⟩
  obtain ⟨p, hp⟩ : ∃ k, k = w.heap.size := ⟨_, rfl⟩
  obtain ⟨q, hq⟩ : ∃ k, k = w.heap.size + 1 := ⟨_, rfl⟩
  have HP := Lib.hid (by rw [hw1, hp]; exact alloc_old (alloc_new _ _) : w1.heap[p]? = some (.cells #[.slice so S sc, .slice co C cc, .int .i64 b] 50 (0, 0)))
  have HQ := Lib.hid (by rw [hw1, hq]; exact alloc2r_new _ _ _ : w1.heap[q]? = some (.cells #[.slice none 0 0, .slice none 0 0, .int .i64 0] 50 (0, 0)))
  have HF := Lib.hid (by rw [hw1]; exact ((Fr.refl [] w).alloc _).alloc _ : Fr [] w w1)
  have HPQ := Lib.hid (And.intro hp (And.intro hq hw1))
  have HIN := Lib.hid hin
  have HSL := Lib.hid hsl
  have HB0 := Lib.hid hb
  have HSS := Lib.hid (And.intro hss hcs)
  clear h hc hb hS hC hbb hw1 hp hq hin hsl hss hcs
  go_enter Try.func31, Try.ntmps31
  go_upto_region 1 with fail
  rw [← HPQ.out.2.2, ← HPQ.out.2.1, ← HPQ.out.1]
  have c0 : w1.cell? ⟨p, 0, none⟩ = some (.slice so S sc) := cell_blk HP.out 0
  have c1 : w1.cell? ⟨p, 1, none⟩ = some (.slice co C cc) := cell_blk HP.out 1
  have c2 : w1.cell? ⟨p, 2, none⟩ = some (.int .i64 b) := cell_blk HP.out 2
  go_wp2_with fail
  refine (HC.out _).mono ?_
  rintro e w2 ⟨rfl, f2⟩
  have hp2 := f2.blk HP.out (by simp)
  have hq2 := f2.blk HQ.out (by simp)
  have HF2 := Lib.hid (HF.out.trans f2 (by simp [Ext]))
  have c0 : w2.cell? ⟨p, 0, none⟩ = some (.slice so S sc) := cell_blk hp2 0
  have c1 : w2.cell? ⟨p, 1, none⟩ = some (.slice co C cc) := cell_blk hp2 1
  have c2 : w2.cell? ⟨p, 2, none⟩ = some (.int .i64 b) := cell_blk hp2 2
  have d0 : w2.cell? ⟨q, 0, none⟩ = some (.slice none 0 0) := cell_blk hq2 0
  have d1 : w2.cell? ⟨q, 1, none⟩ = some (.slice none 0 0) := cell_blk hq2 1
  have d2 : w2.cell? ⟨q, 2, none⟩ = some (.int .i64 0) := cell_blk hq2 2
  have fp : ∀ i, w2.frozen? ⟨p, i, none⟩ = false := frozen_blk hp2
  have fq : ∀ i, w2.frozen? ⟨q, i, none⟩ = false := frozen_blk hq2
  by_cases h0 : c = 0
  · skip
    have hne : (c != 0) = false := by simp [h0]
    obtain ⟨hm2, hm3⟩ := HIN.out h0
    have hb0' := HB0.out
    obtain ⟨k, rfl⟩ : ∃ k : Nat, m = (k : Int) := ⟨m.toNat, by omega⟩
    have hsl := HSL.out
    obtain ⟨hss, hcs⟩ := HSS.out
    have HKC := Lib.hid (by omega : k ≤ C)
    have hpq : p ≠ q := by have := HPQ.out; omega
    clear hm2 hm3 hsl hss hcs hm0 hm1 hb0'
    go_wp2_with fail
    have hq2' : (w2.setCell ⟨p, 2, none⟩ (.int .i64 (k : Int))).heap[q]? = some (.cells #[.slice none 0 0, .slice none 0 0, .int .i64 0] 50 (0, 0)) := (setCell_ne (by simp; omega)).trans hq2
    obtain ⟨w3, hw3⟩ : ∃ u, u = (((w2.setCell ⟨p, 2, none⟩ (.int .i64 (k : Int))).setCell ⟨q, 0, none⟩ (.slice so S sc)).setCell ⟨q, 1, none⟩ (.slice co C cc)).setCell ⟨q, 2, none⟩ (.int .i64 (k : Int)) := ⟨_, rfl⟩
    have hb3 := set3 (x := .slice so S sc) (y := .slice co C cc) (z := .int .i64 (k : Int)) hq2'
    have hf3 : Fr [] w w3 := by rw [hw3]; exact set3_fr (HF2.out.setCell (.inr (by have := HPQ.out.1; simp; omega)) _) (by have := HPQ.out.2.1; omega)
    rw [← hw3] at hb3 ⊢
    have t0 := cell_blk hb3 0
    have t1 := cell_blk hb3 1
    have t2 := cell_blk hb3 2
    have hrr : r' = r.disc k := by rw [HR'.out, if_pos h0]
    obtain ⟨hS, hC, hbb⟩ := HE.out
    have hkc := HKC.out
    have h3 := H.out.fr hf3
    have hR : IsRS w3 (r.disc k) so sc co cc rs := ⟨h3.eq, h3.ss, h3.cs, h3.rows, by show (0 : Int) ≤ (k : Int); omega, by show (k : Int) ≤ 1000; have := h3.n1; have := h3.sl; omega, h3.n1, h3.sl, h3.six⟩
    subst h0
    subst hrr
    refine bodyPost_ret (v := .tuple #[.agg #[.slice so S sc, .slice co C cc, .int .i64 (k : Int)], .int .i64 0]) (by simp [results, Try.results31, go_sem, t0, t1, t2]) rfl ⟨rs, by rw [hS, hC]; rfl, hR, fun x hx => hx, hf3⟩
  · have hne : (c != 0) = true := by simp [h0]
    go_wp2_with fail
    obtain ⟨w3, hw3⟩ : ∃ u, u = ((w2.setCell ⟨q, 0, none⟩ (.slice so S sc)).setCell ⟨q, 1, none⟩ (.slice co C cc)).setCell ⟨q, 2, none⟩ (.int .i64 b) := ⟨_, rfl⟩
    have hb3 := set3 (x := .slice so S sc) (y := .slice co C cc) (z := .int .i64 b) hq2
    have hf3 : Fr [] w w3 := by rw [hw3]; exact set3_fr HF2.out (by have := HPQ.out.2.1; omega)
    rw [← hw3] at hb3 ⊢
    have t0 := cell_blk hb3 0
    have t1 := cell_blk hb3 1
    have t2 := cell_blk hb3 2
    have hrr : r' = r := by rw [HR'.out, if_neg h0]
    subst hrr
    obtain ⟨hS, hC, hbb⟩ := HE.out
    refine bodyPost_ret (v := .tuple #[.agg #[.slice so S sc, .slice co C cc, .int .i64 b], .int .i64 c]) (by simp [results, Try.results31, go_sem, t0, t1, t2]) rfl ⟨rs, by rw [hS, hC, hbb], H.out.fr hf3, fun x hx => hx, hf3⟩

theorem blk_newsR {w : World} {b : Nat} {c : Array Value} {T : TypeId} (h : w.heap[b]? = some (.cells c T (0, 0))) : ∀ j u, c.toList[j]? = some u → w.cell? ((⟨b, 0, none⟩ : Addr).add j) = some u := by
  intro j u hj
  rw [Addr.add_mid, Nat.zero_add, cell_blk h]
  simpa using hj
def chgO (C : List Int) (i : Nat) : List Int := ((List.range i).filter fun j : Nat => decide ((j : Int) ∈ C)).map fun j : Nat => (j : Int)
theorem chgO_succ (C : List Int) (i : Nat) : chgO C (i + 1) = chgO C i ++ (if (i : Int) ∈ C then [(i : Int)] else []) := by
  unfold chgO
  rw [List.range_succ, List.filter_append, List.map_append]
  congr 1
  rw [List.filter_cons, List.filter_nil]
  by_cases h : (i : Int) ∈ C
  · rw [if_pos h, if_pos (decide_eq_true h)]; rfl
  · rw [if_neg h, if_neg (by simpa using h)]; rfl
theorem chgO_len (C : List Int) (i : Nat) : (chgO C i).length ≤ i := by
  unfold chgO
  rw [List.length_map]
  have := List.length_filter_le (fun j : Nat => decide ((j : Int) ∈ C)) (List.range i)
  rw [List.length_range] at this; exact this
def ChgTo9 (w : World) (l : List Int) (code : Int) (e : Ending) (w' : World) : Prop := ∃ oo oc, e = .returned (.tuple #[.slice oo l.length oc, .int .i64 code]) ∧ Seg w' 3 1 oo l.length oc (ints l) ∧ Fr [] w w' ∧ ∀ k ∈ blk oo, w.heap.size ≤ k

set_option maxRecDepth 100000 in
set_option maxHeartbeats 4000000 in
theorem rchg_any (h : IsRS w r so sc co cc rs) (m : Int) (hm0 : -1000 ≤ m) (hm1 : m ≤ 1000) :
    Calls Try.prog 32 #[.agg #[.slice so r.states.length sc, .slice co r.cell.length cc, .int .i64 r.base], .int .i64 m] w (ChgTo9 w (if r.check m = 0 then r.chg m else []) (r.check m)) := by
  obtain ⟨ii, hii, hz0, hz1, hz2⟩ := info_parts infoInt
  have H := Lib.hid h
  have HC := Lib.hid (fun u => rcheck_any u so r.states.length sc co cc r m)
  have HNO := Lib.hid (fun u (hu : Fr [] w u) => rnow_any (h.fr hu))
  obtain ⟨c, hc⟩ : ∃ c, c = r.check m := ⟨_, rfl⟩
  have hb := h.b0
  have hin : c = 0 → r.base ≤ m ∧ m ≤ r.cell.length := fun h0 => by
    rw [hc] at h0
    unfold RS.check RS.mark at h0
    split at h0
    · simp at h0
    · split at h0
      · simp at h0
      · omega
  rw [← hc] at HC ⊢
  obtain ⟨l', hl'⟩ : ∃ l', l' = if c = 0 then r.chg m else [] := ⟨_, rfl⟩
  rw [← hl']
  have HL' := Lib.hid hl'
  clear hl'
  obtain ⟨S, hS⟩ : ∃ S, S = r.states.length := ⟨_, rfl⟩
  obtain ⟨C, hC⟩ : ∃ C, C = r.cell.length := ⟨_, rfl⟩
  obtain ⟨b, hbb⟩ : ∃ b, b = r.base := ⟨_, rfl⟩
  have HE := Lib.hid (And.intro hS (And.intro hC hbb))
  rw [← hS, ← hC, ← hbb] at HC ⊢
  rw [← hS, ← hC, ← hbb] at HNO
  rw [← hC] at hin
  rw [← hbb] at hin hb
  obtain ⟨w1, hw1⟩ : ∃ u, u = w.alloc (.cells #[.slice so S sc, .slice co C cc, .int .i64 b] 50) := ⟨_, rfl⟩
  obtain ⟨p, hp⟩ : ∃ k, k = w.heap.size := ⟨_, rfl⟩
  have HP := Lib.hid (by rw [hw1, hp]; exact alloc_new _ _ : w1.heap[p]? = some (.cells #[.slice so S sc, .slice co C cc, .int .i64 b] 50 (0, 0)))
  have HF := Lib.hid (by rw [hw1]; exact (Fr.refl [] w).alloc _ : Fr [] w w1)
  have HPQ := Lib.hid (And.intro hp hw1)
  have HIN := Lib.hid hin
  have HB0 := Lib.hid hb
  clear h hc hb hS hC hbb hw1 hp hin
  go_enter Try.func32, Try.ntmps32
  go_upto_region 1 with fail
  rw [← HPQ.out.2, ← HPQ.out.1]
  have c0 : w1.cell? ⟨p, 0, none⟩ = some (.slice so S sc) := cell_blk HP.out 0
  have c1 : w1.cell? ⟨p, 1, none⟩ = some (.slice co C cc) := cell_blk HP.out 1
  have c2 : w1.cell? ⟨p, 2, none⟩ = some (.int .i64 b) := cell_blk HP.out 2
  go_wp2_with fail
  refine (HC.out _).mono ?_
  rintro e w2 ⟨rfl, f2⟩
  have HF2 := Lib.hid (HF.out.trans f2 (by simp [Ext]))
  have HP2 := Lib.hid (f2.blk HP.out (by simp))
  clear c0 c1 c2 f2
  by_cases h0 : c = 0
  · have hne : (c != 0) = false := by simp [h0]
    obtain ⟨hm2, hm3⟩ := HIN.out h0
    have hb0' := HB0.out
    obtain ⟨k, rfl⟩ : ∃ k : Nat, m = (k : Int) := ⟨m.toNat, by omega⟩
    have hkc : k ≤ C := by omega
    have HKC := Lib.hid hkc
    obtain ⟨cl, hcl⟩ : ∃ cl, cl = r.cell.drop k := ⟨_, rfl⟩
    have HCL := Lib.hid hcl
    have s1 : ∀ u : World, (Instr.slice 22 (.slice co C cc) (some (.int .i64 (k : Int))) none none).run Try.prog u = .ok (.slice (cutA co k cc 1) (C - k) (cc - k)) u := fun u => run_slice_from (P := Try.prog) 22 3 Try.underlying22 1 (by kernel_rfl) co C cc k hkc u
    have hlen : cl.length = C - k := by rw [hcl, List.length_drop, ← HE.out.2.1]
    rw [← hlen] at s1
    have HHA := Lib.hid (fun u (hu : Fr [] w u) (i : Int) => hasn_any u (cutA co k cc 1) (cc - k) cl i (by
      have h3 := (H.out.fr hu).cs
      rw [← HE.out.2.1] at h3
      have h4 := h3.cutA (lo := k) (hi := C) (mx := cc) hkc h3.2.2.1 (Nat.le_refl _) (Nat.le_refl _)
      rw [← hlen] at h4
      have h5 : ((ints r.cell).drop (k * 1)).take (cl.length * 1) = ints cl := by
        rw [Nat.mul_one, Nat.mul_one, hcl]
        unfold ints
        rw [← List.map_drop, List.take_of_length_le (by simp)]
      rw [h5] at h4
      exact h4.rd))
    have HLE := Lib.hid (by rw [HL'.out, if_pos h0]; unfold RS.chg; rw [Int.toNat_natCast, ← hcl]; rfl : l' = chgO cl 6)
    clear hm2 hm3 hb0' hcl hlen hkc hm0 hm1
    have HH0 := Lib.hid h0
    go_wp2_with fail
    go_loopw [7, 8] (fun ov iv wr => ∃ (i : Nat) (oo : Option Addr) (oc : Nat), (ov = .slice oo (chgO cl i).length oc ∧ iv = .int .i64 (i : Int)) ∧ i ≤ 6 ∧ Seg wr 3 1 oo (chgO cl i).length oc (ints (chgO cl i)) ∧ (∀ q ∈ blk oo, w.heap.size ≤ q ∧ q ≠ p) ∧ wr.heap[p]? = some (.cells #[.slice so S sc, .slice co C cc, .int .i64 b] 50 (0, 0)) ∧ Fr [] w wr) (fun _ iv _ => 6 - (intOf iv).toNat)
    case atStart => exact ⟨0, none, 0, ⟨rfl, rfl⟩, by omega, Seg.nil _ _ _, by simp [blk], HP2.out, HF2.out⟩
    case round =>
      obtain ⟨i, oo, oc, ⟨rfl, rfl⟩, hi, hs, hn, hpb, hf⟩ := hrel
      have HS := Lib.hid hs
      have HN := Lib.hid hn
      have HPB := Lib.hid hpb
      have HFR := Lib.hid hf
      have wi : IntKind.i64.wrap ((i : Int) + 1) = (i : Int) + 1 := IntWalk.i64_in _ (by omega)
      have c0 : wr.cell? ⟨p, 0, none⟩ = some (.slice so S sc) := cell_blk hpb 0
      have c1 : wr.cell? ⟨p, 1, none⟩ = some (.slice co C cc) := cell_blk hpb 1
      have c2 : wr.cell? ⟨p, 2, none⟩ = some (.int .i64 b) := cell_blk hpb 2
      clear hs hn hpb hf
      go_wp2_with fail
      refine (HNO.out wr HFR.out).mono ?_
      rintro e w3 ⟨x, hx, hxn, hx6, rfl, f3⟩
      have hp3 := f3.blk HPB.out (by simp)
      have HP3 := Lib.hid hp3
      have HF3 := Lib.hid (HFR.out.trans f3 (by simp [Ext]))
      have HS3 := Lib.hid (HS.out.fr f3 (by simp))
      have d1 : w3.cell? ⟨p, 1, none⟩ = some (.slice co C cc) := cell_blk hp3 1
      clear f3 hp3 c0 c1 c2 hx hxn hx6
      have HSU := Lib.hid (chgO_succ cl i)
      have hol := chgO_len cl i
      by_cases hi6 : i < 6
      · have hlt : (i : Int) < 6 := by omega
        obtain ⟨t, ht⟩ : ∃ t, t = decide ((i : Int) ∈ cl) := ⟨_, rfl⟩
        have hh := HHA.out w3 HF3.out (i : Int)
        rw [← ht] at hh
        have HH := Lib.hid hh
        obtain ⟨O, hO⟩ : ∃ O, O = chgO cl i := ⟨_, rfl⟩
        rw [← hO] at HS3 HSU hol ⊢
        have HT := Lib.hid ht
        clear hh hO ht
        go_wp2_with fail
        refine HH.out.mono ?_
        rintro e w' ⟨rfl, rfl⟩
        cases t with
        | false =>
          have hs : chgO cl (i + 1) = O := by rw [HSU.out, if_neg (of_decide_eq_false HT.out.symm), List.append_nil]
          have HSO := Lib.hid hs
          clear hs
          go_wp2_with fail
          go_roundw
          case rel => exact ⟨i + 1, oo, oc, ⟨by rw [HSO.out], by go_num⟩, by omega, by rw [HSO.out]; exact HS3.out, HN.out, HP3.out, HF3.out⟩
          case measure => simp [intOf]; omega
        | true =>
          have hs : chgO cl (i + 1) = O ++ [(i : Int)] := by rw [HSU.out, if_pos (of_decide_eq_true HT.out.symm)]
          have HSO := Lib.hid hs
          have HPN := Lib.hid (by have := HPQ.out.1; have := lt_of_blk HP3.out; exact this : p < w3.heap.size)
          clear hs
          go_wp2_with (at_builtin; refine wpList_append_seg rfl _ _ 22 rfl 3 ii _ 1 8 Try.underlying22 hii hz0 hz1 hz2 rfl (by decide) oo O.length oc (ints O) rfl (HS3.out.alloc _) ⟨w3.heap.size, 0, none⟩ 1 1 [.int .i64 (i : Int)] rfl rfl (blk_newsR (alloc_new w3 (.cells #[.int .i64 (i : Int)] 3))) (by simp [Value.oneCell']) (by unfold maxLen; omega) (by omega) ?_; intro o9 c9 w9 hs9 hf9 hx9; have HS9 := Lib.hid hs9; have HF9 := Lib.hid (((Fr.refl (blk oo) w3).alloc _).trans hf9 (Ext.refl _ _)); have HX9 := Lib.hid (fun q (hq : q ∈ blk o9) => (hx9 q hq).imp id (fun h => Nat.le_trans ((Fr.refl ([] : List Nat) w3).alloc _).size h) : ∀ q ∈ blk o9, q ∈ blk oo ∨ w3.heap.size ≤ q); clear hs9 hf9 hx9)
          go_roundw
          case rel =>
            refine ⟨i + 1, o9, c9, ⟨by rw [HSO.out, List.length_append]; rfl, by go_num⟩, by omega, ?_, fun q hq => ?_, HF9.out.blk HP3.out (fun h => (HN.out p h).2 rfl), HF3.out.trans HF9.out (fun q hq => .inr (HN.out q hq).1)⟩
            · rw [HSO.out, List.length_append]
              have h := HS9.out
              unfold ints at h ⊢
              rw [List.map_append]; exact h
            · rcases HX9.out q hq with h | h
              · exact HN.out q h
              · have := HF3.out.size; have := HPN.out; omega
          case measure => simp [intOf]; omega
      · have hlt : ¬ (i : Int) < 6 := by omega
        have hie : i = 6 := by omega
        have HO := Lib.hid (by rw [HLE.out, hie] : l' = chgO cl i)
        obtain ⟨O, hO⟩ : ∃ O, O = chgO cl i := ⟨_, rfl⟩
        rw [← hO] at HS3 HO ⊢
        clear hO hie
        go_wp2_with fail
        go_ret2
        refine ⟨oo, oc, by rw [HO.out, HH0.out]; rfl, by rw [HO.out]; exact HS3.out, HF3.out, fun q hq => (HN.out q hq).1⟩
  · have hne : (c != 0) = true := by simp [h0]
    have hll : l' = [] := by rw [HL'.out, if_neg h0]
    subst hll
    go_wp2_with fail
    go_ret2
    exact ⟨none, 0, rfl, Seg.nil _ _ _, HF2.out, by simp [blk]⟩
end
end Go.Proofs.Ytoolojpjopodgaa
