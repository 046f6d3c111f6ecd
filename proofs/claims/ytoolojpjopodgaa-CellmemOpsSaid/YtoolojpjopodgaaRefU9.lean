/- CellmemOps: the reference's Undo, Discard, own. -/
import Derived.Test.YtoolojpjopodgaaRef9
import Derived.Test.YtoolojpjopodgaaAppRd
namespace Go.Proofs.Ytoolojpjopodgaa
open Go.RowKit

theorem alloc2r_new (w : World) (a b : Obj) : ((w.alloc a).alloc b).heap[w.heap.size + 1]? = some b := by
  have h := alloc_new (w.alloc a) b
  rwa [show (w.alloc a).heap.size = w.heap.size + 1 by simp] at h
theorem ints_oneR (l : List Int) : ∀ u ∈ ints l, u.oneCell' = true := by
  intro u hu
  obtain ⟨x, -, rfl⟩ := List.mem_map.1 hu
  rfl
/-- what own returns -/
def OwnTo (w : World) (l : List Int) (e : Ending) (w' : World) : Prop := ∃ oo oc, e = .returned (.slice oo l.length oc) ∧ Seg w' 3 1 oo l.length oc (ints l) ∧ Fr [] w w' ∧ ∀ k ∈ blk oo, w.heap.size ≤ k
set_option maxRecDepth 100000 in
set_option maxHeartbeats 1000000 in
theorem rown_any (w : World) (lo : Option Addr) (lc : Nat) (l : List Int) (hs : Rd w 1 lo l.length (ints l)) (hl : l.length ≤ 100000) :
    Calls Try.prog 46 #[.slice lo l.length lc] w (OwnTo w l) := by
  obtain ⟨ii, hii, hz0, hz1, hz2⟩ := info_parts infoInt
  have HS := Lib.hid hs
  have HN := Lib.hid (Seg.nil w 3 1)
  clear hs
  go_enter Try.func46, Try.ntmps46
  go_wp2_with (at_builtin; refine wpList_append_rd rfl _ _ 22 rfl 3 ii _ 1 8 Try.underlying22 hii hz0 hz1 hz2 rfl (by decide) none 0 0 [] rfl HN.out lo l.length lc (ints l) rfl HS.out (ints_oneR l) (by unfold maxLen; omega) (by omega) ?_; intro o2 k2 w2 hs2 hf2 hx2; rw [Nat.zero_add, List.nil_append] at hs2; have H2 := Lib.hid hs2; have HF2 := Lib.hid hf2; have HX2 := Lib.hid (fun k (hk : k ∈ blk o2) => (by rcases hx2 k hk with h | h; (simp [blk] at h); exact h : w.heap.size ≤ k)); clear hs2 hf2 hx2)
  go_ret
  exact ⟨o2, k2, by simp, H2.out, HF2.out, HX2.out⟩

theorem set3 {w : World} {q : Nat} {a b c x y z : Value} {T : TypeId} (h : w.heap[q]? = some (.cells #[a, b, c] T (0, 0))) : (((w.setCell ⟨q, 0, none⟩ x).setCell ⟨q, 1, none⟩ y).setCell ⟨q, 2, none⟩ z).heap[q]? = some (.cells #[x, y, z] T (0, 0)) := by
  have := setCell_blk (setCell_blk (setCell_blk h 0 x) 1 y) 2 z
  simpa using this
theorem set3_fr {S : List Nat} {a w : World} {q : Nat} {x y z : Value} (hf : Fr S a w) (hq : a.heap.size ≤ q) : Fr S a (((w.setCell ⟨q, 0, none⟩ x).setCell ⟨q, 1, none⟩ y).setCell ⟨q, 2, none⟩ z) := ((hf.setCell (.inr hq) _).setCell (.inr hq) _).setCell (.inr hq) _
section
variable {w w' : World} {r : RS} {so co : Option Addr} {sc cc : Nat} {rs : List RRow}
/-- a step of the reference that makes no new rows -/
def RStep (w : World) (r : RS) (so : Option Addr) (sc : Nat) (co : Option Addr) (cc : Nat) (rs : List RRow) (r' : RS) (code : Int) (e : Ending) (w' : World) : Prop :=
  ∃ rs', e = .returned (.tuple #[.agg #[.slice so r'.states.length sc, .slice co r'.cell.length cc, .int .i64 r'.base], .int .i64 code]) ∧ IsRS w' r' so sc co cc rs' ∧ (∀ x ∈ rs', x ∈ rs) ∧ Fr [] w w'

set_option maxRecDepth 100000 in
set_option maxHeartbeats 2000000 in
theorem rundo_any (h : IsRS w r so sc co cc rs) (m : Int) (hm0 : -1000 ≤ m) (hm1 : m ≤ 1000) :
    Calls Try.prog 30 #[.agg #[.slice so r.states.length sc, .slice co r.cell.length cc, .int .i64 r.base], .int .i64 m] w (RStep w r so sc co cc rs (if r.check m = 0 then r.undo m else r) (r.check m)) := by
  have H := Lib.hid h
  have HC := Lib.hid (fun u => rcheck_any u so r.states.length sc co cc r m)
  obtain ⟨c, hc⟩ : ∃ c, c = r.check m := ⟨_, rfl⟩
  have hb := h.b0
  have hss := h.ss.2.2.1
  have hcs := h.cs.2.2.1
  have hsl := h.sl
  have hin : c = 0 → r.base ≤ m ∧ m ≤ r.cell.length := fun h0 => by
    rw [hc] at h0
    unfold RS.check RS.mark at h0
    split at h0
    · simp at h0
    · split at h0
      · simp at h0
      · omega
  rw [← hc] at HC ⊢
  obtain ⟨r', hr'⟩ : ∃ r', r' = if c = 0 then r.undo m else r := ⟨_, rfl⟩
  rw [← hr']
  have HR' := Lib.hid hr'
  clear hr'
  obtain ⟨S, hS⟩ : ∃ S, S = r.states.length := ⟨_, rfl⟩
  obtain ⟨C, hC⟩ : ∃ C, C = r.cell.length := ⟨_, rfl⟩
  obtain ⟨b, hbb⟩ : ∃ b, b = r.base := ⟨_, rfl⟩
  have HE := Lib.hid (And.intro hS (And.intro hC hbb))
  rw [← hS, ← hC, ← hbb] at HC ⊢
  rw [← hS] at hss hsl
  rw [← hC] at hcs hsl hin
  rw [← hbb] at hin hb
  obtain ⟨w1, hw1⟩ : ∃ u, u = (w.alloc (.cells #[.slice so S sc, .slice co C cc, .int .i64 b] 50)).alloc (.cells #[.slice none 0 0, .slice none 0 0, .int .i64 0] 50) := ⟨_, rfl⟩
  obtain ⟨p, hp⟩ : ∃ k, k = w.heap.size := ⟨_, rfl⟩
  obtain ⟨q, hq⟩ : ∃ k, k = w.heap.size + 1 := ⟨_, rfl⟩
  have HP := Lib.hid (by rw [hw1, hp]; exact alloc_old (alloc_new _ _) : w1.heap[p]? = some (.cells #[.slice so S sc, .slice co C cc, .int .i64 b] 50 (0, 0)))
  have HQ := Lib.hid (by rw [hw1, hq]; exact alloc2r_new _ _ _ : w1.heap[q]? = some (.cells #[.slice none 0 0, .slice none 0 0, .int .i64 0] 50 (0, 0)))
  have HF := Lib.hid (by rw [hw1]; exact ((Fr.refl [] w).alloc _).alloc _ : Fr [] w w1)
  have HPQ := Lib.hid (And.intro hp (And.intro hq hw1))
  have HIN := Lib.hid hin
  have HSL := Lib.hid hsl
  have HB0 := Lib.hid hb
  have HSS := Lib.hid (And.intro hss hcs)
  clear h hc hb hS hC hbb hw1 hp hq hin hsl hss hcs
  go_enter Try.func30, Try.ntmps30
  go_upto_region 1 with fail
  rw [← HPQ.out.2.2, ← HPQ.out.2.1, ← HPQ.out.1]
  have c0 : w1.cell? ⟨p, 0, none⟩ = some (.slice so S sc) := cell_blk HP.out 0
  have c1 : w1.cell? ⟨p, 1, none⟩ = some (.slice co C cc) := cell_blk HP.out 1
  have c2 : w1.cell? ⟨p, 2, none⟩ = some (.int .i64 b) := cell_blk HP.out 2
  go_wp2_with fail
  refine (HC.out _).mono ?_
  rintro e w2 ⟨rfl, f2⟩
  have hp2 := f2.blk HP.out (by simp)
  have hq2 := f2.blk HQ.out (by simp)
  have HF2 := Lib.hid (HF.out.trans f2 (by simp [Ext]))
  have c0 : w2.cell? ⟨p, 0, none⟩ = some (.slice so S sc) := cell_blk hp2 0
  have c1 : w2.cell? ⟨p, 1, none⟩ = some (.slice co C cc) := cell_blk hp2 1
  have c2 : w2.cell? ⟨p, 2, none⟩ = some (.int .i64 b) := cell_blk hp2 2
  have d0 : w2.cell? ⟨q, 0, none⟩ = some (.slice none 0 0) := cell_blk hq2 0
  have d1 : w2.cell? ⟨q, 1, none⟩ = some (.slice none 0 0) := cell_blk hq2 1
  have d2 : w2.cell? ⟨q, 2, none⟩ = some (.int .i64 0) := cell_blk hq2 2
  have fp : ∀ i, w2.frozen? ⟨p, i, none⟩ = false := frozen_blk hp2
  have fq : ∀ i, w2.frozen? ⟨q, i, none⟩ = false := frozen_blk hq2
  by_cases h0 : c = 0
  · skip
    have hne : (c != 0) = false := by simp [h0]
    obtain ⟨hm2, hm3⟩ := HIN.out h0
    have hb0' := HB0.out
    obtain ⟨k, rfl⟩ : ∃ k : Nat, m = (k : Int) := ⟨m.toNat, by omega⟩
    have hsl := HSL.out
    obtain ⟨hss, hcs⟩ := HSS.out
    have w1' : IntKind.i64.wrap ((k : Int) + 1) = ((k + 1 : Nat) : Int) := by rw [IntWalk.i64_in _ (by omega)]; omega
    have s1 : ∀ u : World, (Instr.slice 40 (.slice so S sc) none (some (.int .i64 ((k + 1 : Nat) : Int))) none).run Try.prog u = .ok (.slice so (k + 1) sc) u := fun u => run_slice_to (P := Try.prog) 40 22 Try.underlying40 1 (by kernel_rfl) so S sc (k + 1) (by omega) u
    have s2 : ∀ u : World, (Instr.slice 22 (.slice co C cc) none (some (.int .i64 (k : Int))) none).run Try.prog u = .ok (.slice co k cc) u := fun u => run_slice_to (P := Try.prog) 22 3 Try.underlying22 1 (by kernel_rfl) co C cc k (by omega) u
    have HKC := Lib.hid (by omega : k ≤ C)
    have hpq : p ≠ q := by have := HPQ.out; omega
    have wk : ((k + 1 : Nat) : Int) = (k : Int) + 1 := by omega
    rw [wk] at s1 w1'
    clear hm2 hm3 hsl hss hcs hm0 hm1 wk hb0'
    go_wp2_with fail
    have hq2' : ((w2.setCell ⟨p, 0, none⟩ (.slice so (k + 1) sc)).setCell ⟨p, 1, none⟩ (.slice co k cc)).heap[q]? = some (.cells #[.slice none 0 0, .slice none 0 0, .int .i64 0] 50 (0, 0)) := (setCell_ne (by simp; omega)).trans ((setCell_ne (by simp; omega)).trans hq2)
    obtain ⟨w3, hw3⟩ : ∃ u, u = ((((w2.setCell ⟨p, 0, none⟩ (.slice so (k + 1) sc)).setCell ⟨p, 1, none⟩ (.slice co k cc)).setCell ⟨q, 0, none⟩ (.slice so (k + 1) sc)).setCell ⟨q, 1, none⟩ (.slice co k cc)).setCell ⟨q, 2, none⟩ (.int .i64 b) := ⟨_, rfl⟩
    have hb3 := set3 (x := .slice so (k + 1) sc) (y := .slice co k cc) (z := .int .i64 b) hq2'
    have hf3 : Fr [] w w3 := by rw [hw3]; exact set3_fr ((HF2.out.setCell (.inr (by have := HPQ.out.1; simp; omega)) _).setCell (.inr (by have := HPQ.out.1; simp; omega)) _) (by have := HPQ.out.2.1; omega)
    rw [← hw3] at hb3 ⊢
    have t0 := cell_blk hb3 0
    have t1 := cell_blk hb3 1
    have t2 := cell_blk hb3 2
    have hrr : r' = r.undo k := by rw [HR'.out, if_pos h0]
    obtain ⟨hS, hC, hbb⟩ := HE.out
    have hkc := HKC.out
    have h3 := H.out.fr hf3
    have n1 : (r.undo k).states.length = k + 1 := by unfold RS.undo; simp only [List.length_take, Int.toNat_natCast]; have := HSL.out; omega
    have n2 : (r.undo k).cell.length = k := by unfold RS.undo; simp only [List.length_take, Int.toNat_natCast]; omega
    have hR : IsRS w3 (r.undo k) so sc co cc (rs.take (k + 1)) := by
      refine ⟨?_, ?_, ?_, fun x hx => h3.rows x (List.mem_of_mem_take hx), h3.b0, h3.b1, by rw [n1]; have := h3.n1; have := HSL.out; omega, by rw [n1, n2], fun x hx => h3.six x (List.mem_of_mem_take hx)⟩
      · show r.states.take _ = _
        rw [h3.eq, Int.toNat_natCast, List.map_take]
      · rw [n1]
        have h := h3.ss.take (k := k + 1) (by have := HSL.out; omega)
        rw [Nat.mul_one, ← List.map_take] at h
        exact h
      · rw [n2]
        have h := h3.cs.take (k := k) (by omega)
        rw [Nat.mul_one] at h
        show Seg w3 _ 1 co k cc (ints (r.cell.take ((k : Int).toNat)))
        rw [Int.toNat_natCast]
        unfold ints at h ⊢
        rw [List.map_take]; exact h
    subst h0
    subst hrr
    refine bodyPost_ret (v := .tuple #[.agg #[.slice so (k + 1) sc, .slice co k cc, .int .i64 b], .int .i64 0]) (by simp [results, Try.results30, go_sem, t0, t1, t2]) rfl ⟨rs.take (k + 1), by rw [n1, n2, hbb]; rfl, hR, fun x hx => List.mem_of_mem_take hx, hf3⟩
  · have hne : (c != 0) = true := by simp [h0]
    go_wp2_with fail
    obtain ⟨w3, hw3⟩ : ∃ u, u = ((w2.setCell ⟨q, 0, none⟩ (.slice so S sc)).setCell ⟨q, 1, none⟩ (.slice co C cc)).setCell ⟨q, 2, none⟩ (.int .i64 b) := ⟨_, rfl⟩
    have hb3 := set3 (x := .slice so S sc) (y := .slice co C cc) (z := .int .i64 b) hq2
    have hf3 : Fr [] w w3 := by rw [hw3]; exact set3_fr HF2.out (by have := HPQ.out.2.1; omega)
    rw [← hw3] at hb3 ⊢
    have t0 := cell_blk hb3 0
    have t1 := cell_blk hb3 1
    have t2 := cell_blk hb3 2
    have hrr : r' = r := by rw [HR'.out, if_neg h0]
    subst hrr
    obtain ⟨hS, hC, hbb⟩ := HE.out
    refine bodyPost_ret (v := .tuple #[.agg #[.slice so S sc, .slice co C cc, .int .i64 b], .int .i64 c]) (by simp [results, Try.results30, go_sem, t0, t1, t2]) rfl ⟨rs, by rw [hS, hC, hbb], H.out.fr hf3, fun x hx => hx, hf3⟩
end
end Go.Proofs.Ytoolojpjopodgaa
