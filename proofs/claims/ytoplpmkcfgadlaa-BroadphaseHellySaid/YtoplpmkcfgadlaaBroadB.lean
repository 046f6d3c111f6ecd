/- Package broadphase: Box, Boxes, has. -/
import Derived.Test.YtoplpmkcfgadlaaBroadR
import Derived.Test.YtoplpmkcfgadlaaAround
namespace Go.Proofs.Ytoplpmkcfgadlaa
open Go.RowKit

def BX.near (b : BX) (m : Int) : Prop := -m ≤ b.x0 ∧ b.x0 ≤ m ∧ -m ≤ b.y0 ∧ b.y0 ≤ m ∧ -m ≤ b.x1 ∧ b.x1 ≤ m ∧ -m ≤ b.y1 ∧ b.y1 ≤ m
set_option maxHeartbeats 2000000 in
theorem bound04_any (w : World) (n : Int) (m : Nat) (hn : bounded n) (hm : m ≤ 1099511627776) :
    Calls Try.prog 18 #[.int .i64 n, .int .i64 (m : Int)] w fun e w' => (∃ y : Int, -(m : Int) ≤ y ∧ y ≤ (m : Int) ∧ e = .returned (.int .i64 y)) ∧ w' = w := by
  obtain ⟨k, hk, -, hA⟩ := around_nat n (2 * m + 1) hn (by omega) (by omega)
  have HA := Lib.hid hA
  obtain ⟨M, hM⟩ : ∃ M, M = 2 * m + 1 := ⟨_, rfl⟩
  have w1 : IntKind.i64.wrap (2 * (m : Int)) = 2 * (m : Int) := IntWalk.i64_in _ (by omega)
  have w2 : IntKind.i64.wrap (2 * (m : Int) + 1) = (M : Int) := by rw [IntWalk.i64_in _ (by omega)]; omega
  have w3 : IntKind.i64.wrap ((k : Int) - (m : Int)) = (k : Int) - (m : Int) := IntWalk.i64_in _ (by omega)
  rw [← hM] at HA hk
  have HY := Lib.hid (by omega : -(m : Int) ≤ (k : Int) - (m : Int) ∧ (k : Int) - (m : Int) ≤ (m : Int))
  clear hA hM hn
  go_enter Try.func18, Try.ntmps18
  go_wp2_with fail
  refine (HA.out _).mono ?_
  rintro e w' ⟨rfl, rfl⟩
  go_wp2_with fail
  go_ret
  exact ⟨⟨_, HY.out.1, HY.out.2, rfl⟩, by trivial⟩

def BoxTo (w : World) (e : Ending) (w' : World) : Prop := ∃ B : BX, e = .returned (bxV B) ∧ B.ok ∧ B.near 1099511627776 ∧ Fr [] w w'
set_option maxRecDepth 100000 in
set_option maxHeartbeats 2000000 in
theorem box04_any (w : World) (a0 a1 a2 a3 : Int) (h0 : bounded a0) (h1 : bounded a1) (h2 : bounded a2) (h3 : bounded a3) :
    Calls Try.prog 10 #[.agg #[.int .i64 a0, .int .i64 a1, .int .i64 a2, .int .i64 a3]] w (BoxTo w) := by
  have H0 := Lib.hid (fun u => (bound04_any u a0 1099511627776 h0 (by omega) : Calls Try.prog 18 #[.int .i64 a0, .int .i64 1099511627776] u fun e w' => (∃ y : Int, -1099511627776 ≤ y ∧ y ≤ 1099511627776 ∧ e = .returned (.int .i64 y)) ∧ w' = u))
  have H1 := Lib.hid (fun u => (bound04_any u a1 1099511627776 h1 (by omega) : Calls Try.prog 18 #[.int .i64 a1, .int .i64 1099511627776] u fun e w' => (∃ y : Int, -1099511627776 ≤ y ∧ y ≤ 1099511627776 ∧ e = .returned (.int .i64 y)) ∧ w' = u))
  have H2 := Lib.hid (fun u => (bound04_any u a2 1099511627776 h2 (by omega) : Calls Try.prog 18 #[.int .i64 a2, .int .i64 1099511627776] u fun e w' => (∃ y : Int, -1099511627776 ≤ y ∧ y ≤ 1099511627776 ∧ e = .returned (.int .i64 y)) ∧ w' = u))
  have H3 := Lib.hid (fun u => (bound04_any u a3 1099511627776 h3 (by omega) : Calls Try.prog 18 #[.int .i64 a3, .int .i64 1099511627776] u fun e w' => (∃ y : Int, -1099511627776 ≤ y ∧ y ≤ 1099511627776 ∧ e = .returned (.int .i64 y)) ∧ w' = u))
  clear h0 h1 h2 h3
  go_enter Try.func10, Try.ntmps10
  go_wp2_with fail
  refine (H0.out _).mono ?_
  rintro e w' ⟨⟨y0, k0, l0, rfl⟩, rfl⟩
  have K0 := Lib.hid (And.intro k0 l0)
  clear k0 l0 H0
  go_wp2_with fail
  refine (H1.out _).mono ?_
  rintro e w' ⟨⟨y1, k1, l1, rfl⟩, rfl⟩
  have K1 := Lib.hid (And.intro k1 l1)
  clear k1 l1 H1
  go_wp2_with fail
  refine (H2.out _).mono ?_
  rintro e w' ⟨⟨y2, k2, l2, rfl⟩, rfl⟩
  have K2 := Lib.hid (And.intro k2 l2)
  clear k2 l2 H2
  go_wp2_with fail
  refine (H3.out _).mono ?_
  rintro e w' ⟨⟨y3, k3, l3, rfl⟩, rfl⟩
  have K3 := Lib.hid (And.intro k3 l3)
  clear k3 l3 H3
  obtain ⟨M0, g0⟩ : ∃ M, min y0 y2 = M := ⟨_, rfl⟩
  obtain ⟨M1, g1⟩ : ∃ M, min y1 y3 = M := ⟨_, rfl⟩
  obtain ⟨M2, g2⟩ : ∃ M, max y0 y2 = M := ⟨_, rfl⟩
  obtain ⟨M3, g3⟩ : ∃ M, max y1 y3 = M := ⟨_, rfl⟩
  have HB : Hid (BX.ok ⟨M0, M1, M2, M3⟩ ∧ BX.near ⟨M0, M1, M2, M3⟩ 1099511627776) := Lib.hid (by
    have := K0.out; have := K1.out; have := K2.out; have := K3.out
    unfold BX.ok BX.near; simp only; omega)
  go_wp2_with fail
  obtain ⟨bx, hbx⟩ : ∃ x, x = w.heap.size + 1 := ⟨_, rfl⟩
  obtain ⟨w2, hw2⟩ : ∃ u, u = (w.alloc (.cells #[.int .i64 a0, .int .i64 a1, .int .i64 a2, .int .i64 a3] 23)).alloc (.cells #[.int .i64 M0, .int .i64 M1, .int .i64 M2, .int .i64 M3] 23) := ⟨_, rfl⟩
  have hb : w2.heap[bx]? = some (.cells #[.int .i64 M0, .int .i64 M1, .int .i64 M2, .int .i64 M3] 23 (0, 0)) := by
    have h := alloc_new (w.alloc (.cells #[.int .i64 a0, .int .i64 a1, .int .i64 a2, .int .i64 a3] 23)) (.cells #[.int .i64 M0, .int .i64 M1, .int .i64 M2, .int .i64 M3] 23)
    rw [hw2, hbx]
    rwa [show (w.alloc (.cells #[.int .i64 a0, .int .i64 a1, .int .i64 a2, .int .i64 a3] 23)).heap.size = w.heap.size + 1 by simp] at h
  have hf : Fr [] w w2 := by rw [hw2]; exact ((Fr.refl [] w).alloc _).alloc _
  rw [← hbx, ← hw2]
  have t0 := cell_blk hb 0
  have t1 := cell_blk hb 1
  have t2 := cell_blk hb 2
  have t3 := cell_blk hb 3
  refine bodyPost_ret (v := bxV ⟨M0, M1, M2, M3⟩) (by simp [results, Try.results10, go_sem, t0, t1, t2, t3]; rfl) rfl ⟨_, rfl, HB.out.1, HB.out.2, hf⟩

theorem Fr.setCellN {S : List Nat} {a w : World} (h : Fr S a w) {p : Addr} (hp : a.heap.size ≤ p.block) (v : Value) : Fr S a (w.setCell p v) := h.setCell (.inr hp) v
def BoxesAt (w : World) (bo : Option Addr) (bc : Nat) (bs : List BX) (w' : World) : Prop := Seg w' 23 4 bo bs.length bc (bs.flatMap BX.cl) ∧ (∀ q ∈ blk bo, w.heap.size ≤ q) ∧ Fr [] w w'
def Fine (bs : List BX) : Prop := ∀ b ∈ bs, b.ok ∧ b.near 100
def BoxesTo (w : World) (n : Nat) (e : Ending) (w' : World) : Prop := ∃ bs bo bc, e = .returned (.slice bo bs.length bc) ∧ bs.length ≤ 20 ∧ bs.length ≤ n ∧ Fine bs ∧ BoxesAt w bo bc bs w'
theorem infoBox : (Try.prog.info? 23).map (fun i => (i.zero, i.size, i.bytes)) = some (some (.agg #[.int .i64 0, .int .i64 0, .int .i64 0, .int .i64 0]), 4, 32) := by kernel_rfl

set_option maxRecDepth 100000 in
set_option maxHeartbeats 4000000 in
theorem boxes_any (w : World) (lo : Option Addr) (lc : Nat) (l : List Int) (hr : Rd w 1 lo l.length (ints l)) (hb : ∀ x ∈ l, bounded x) :
    Calls Try.prog 14 #[.slice lo l.length lc] w (BoxesTo w l.length) := by
  obtain ⟨ib, hib, hb0, hb1, hb2⟩ := info_parts infoBox
  have hll : l.length ≤ 9223372036854775807 := by have := hr.2.1; unfold maxLen at this; omega
  have HR := Lib.hid hr
  have HBD := Lib.hid hb
  clear hr hb
  go_enter Try.func14, Try.ntmps14
  go_wp2_with fail
  go_loopw [3, 4] (fun pv iv wr => ∃ (bs : List BX) (bo : Option Addr) (bc : Nat), (pv = .slice bo bs.length bc ∧ iv = .int .i64 (bs.length : Int)) ∧ bs.length ≤ 20 ∧ bs.length ≤ l.length ∧ Fine bs ∧ BoxesAt w bo bc bs wr) (fun _ iv _ => 20 - (intOf iv).toNat)
  case atStart => exact ⟨[], none, 0, ⟨rfl, rfl⟩, by simp, by simp, by intro b hb; simp at hb, Seg.nil _ _ _, by simp [blk], Fr.refl _ _⟩
  case round =>
    obtain ⟨bs, bo, bc, ⟨rfl, rfl⟩, h20, hln, hfi, hs, hn, hf⟩ := hrel
    have HS := Lib.hid hs
    have HN := Lib.hid hn
    have HF := Lib.hid hf
    have HFI := Lib.hid hfi
    clear hs hn hf hfi
    obtain ⟨i, hi⟩ : ∃ i, i = bs.length := ⟨_, rfl⟩
    rw [← hi] at h20 hln HS ⊢
    have HI := Lib.hid hi
    clear hi
    by_cases hc : i < l.length ∧ i < 20
    · obtain ⟨hil, hi2⟩ := hc
      have hd1 : decide ((i : Int) < (l.length : Int)) = true := decide_eq_true (by omega)
      have hd2 : decide ((i : Int) < 20) = true := decide_eq_true (by omega)
      have wi : IntKind.i64.wrap ((i : Int) + 1) = (i : Int) + 1 := IntWalk.i64_in _ (by omega)
      obtain ⟨g, off, rfl, hg, hc⟩ := (HR.out.fr HF.out (by simp)).at (by omega)
      have c0 : wr.cell? ⟨g, off + i, none⟩ = some (.int .i64 l[i]) := by rw [hc i (by omega), ints_get, List.getElem?_eq_getElem hil]; rfl
      obtain ⟨n, hnm, -, hA⟩ := around_nat l[i] 1000000 (HBD.out _ (List.getElem_mem hil)) (by omega) (by omega)
      obtain ⟨x, hx⟩ : ∃ x, x = l[i] := ⟨_, rfl⟩
      rw [← hx] at c0 hA
      have HA := Lib.hid hA
      obtain ⟨q1, e1⟩ : ∃ q : Nat, (n : Int) / 20 = (q : Int) := ⟨n / 20, by omega⟩
      obtain ⟨q2, e2⟩ : ∃ q : Nat, (n : Int) / 400 = (q : Int) := ⟨n / 400, by omega⟩
      obtain ⟨q3, e3⟩ : ∃ q : Nat, (n : Int) / 2800 = (q : Int) := ⟨n / 2800, by omega⟩
      obtain ⟨r0, k0⟩ : ∃ q : Nat, (n : Int) % 20 = (q : Int) := ⟨n % 20, by omega⟩
      obtain ⟨r1, k1⟩ : ∃ q : Nat, (q1 : Int) % 20 = (q : Int) := ⟨q1 % 20, by omega⟩
      obtain ⟨r2, k2⟩ : ∃ q : Nat, (q2 : Int) % 7 = (q : Int) := ⟨q2 % 7, by omega⟩
      obtain ⟨r3, k3⟩ : ∃ q : Nat, (q3 : Int) % 7 = (q : Int) := ⟨q3 % 7, by omega⟩
      have hr0 : r0 < 20 := by omega
      have hr1 : r1 < 20 := by omega
      have hr2 : r2 < 7 := by omega
      have hr3 : r3 < 7 := by omega
      have v1 : IntKind.i64.wrap (q1 : Int) = (q1 : Int) := IntWalk.i64_in _ (by omega)
      have v2 : IntKind.i64.wrap (q2 : Int) = (q2 : Int) := IntWalk.i64_in _ (by omega)
      have v3 : IntKind.i64.wrap (q3 : Int) = (q3 : Int) := IntWalk.i64_in _ (by omega)
      obtain ⟨s2, u2⟩ : ∃ s : Nat, s = r0 + r2 := ⟨_, rfl⟩
      obtain ⟨s3, u3⟩ : ∃ s : Nat, s = r1 + r3 := ⟨_, rfl⟩
      have v4 : IntKind.i64.wrap ((r0 : Int) + (r2 : Int)) = (s2 : Int) := by rw [IntWalk.i64_in _ (by omega)]; omega
      have v5 : IntKind.i64.wrap ((r1 : Int) + (r3 : Int)) = (s3 : Int) := by rw [IntWalk.i64_in _ (by omega)]; omega
      have HX : Hid (BX.ok ⟨(r0 : Int), (r1 : Int), (s2 : Int), (s3 : Int)⟩ ∧ BX.near ⟨(r0 : Int), (r1 : Int), (s2 : Int), (s3 : Int)⟩ 100) := Lib.hid (by unfold BX.ok BX.near; simp only; omega)
      clear hc hg hx hA u2 u3 hr0 hr1 hr2 hr3 hnm
      go_upto_region 9 with (go_at_call 21; refine (HA.out _).mono ?_; rintro e w' ⟨rfl, rfl⟩)
      go_wp2_with (at_builtin; refine wpList_append_seg rfl _ _ 27 rfl 23 ib _ 4 32 Try.underlying27 hib hb0 hb1 hb2 rfl (by decide) bo i bc (bs.flatMap BX.cl) rfl ((HS.out.alloc _).alloc _) ⟨wr.heap.size + 1, 0, none⟩ 1 1 [.int .i64 (r0 : Int), .int .i64 (r1 : Int), .int .i64 (s2 : Int), .int .i64 (s3 : Int)] rfl rfl (new_arr1 wr _ #[.int .i64 (r0 : Int), .int .i64 (r1 : Int), .int .i64 (s2 : Int), .int .i64 (s3 : Int)] _) (by simp [Value.oneCell']) (by unfold maxLen; omega) (by omega) ?_; intro o9 c9 w9 hs9 hf9 hx9; have HS9 := Lib.hid hs9; have HF9 := Lib.hid ((((Fr.refl (blk bo) wr).alloc _).alloc _).trans hf9 (Ext.refl _ _)); have HX9 := Lib.hid (fun q (hq : q ∈ blk o9) => (hx9 q hq).imp id (fun h => Nat.le_trans (((Fr.refl ([] : List Nat) wr).alloc _).alloc _).size h) : ∀ q ∈ blk o9, q ∈ blk bo ∨ wr.heap.size ≤ q); clear hs9 hf9 hx9)
      go_roundw
      case rel =>
        refine ⟨bs ++ [⟨(r0 : Int), (r1 : Int), (s2 : Int), (s3 : Int)⟩], o9, c9, ⟨by rw [List.length_append, ← HI.out]; rfl, by rw [List.length_append, ← HI.out]; go_num⟩, by rw [List.length_append, ← HI.out, List.length_singleton]; omega, by rw [List.length_append, ← HI.out, List.length_singleton]; omega, fun b hb => ?_, by rw [List.length_append, List.flatMap_append, ← HI.out]; exact HS9.out, fun q hq => ?_, HF.out.trans HF9.out (fun q hq => .inr (HN.out q hq))⟩
        · rcases List.mem_append.1 hb with h | h
          · exact HFI.out b h
          · simp at h; rw [h]; exact HX.out
        · rcases HX9.out q hq with h | h
          · exact HN.out q h
          · have := HF.out.size; omega
      case measure => simp [intOf]; omega
    · by_cases hil : i < l.length
      · have hd1 : decide ((i : Int) < (l.length : Int)) = true := decide_eq_true (by omega)
        have hd2 : decide ((i : Int) < 20) = false := decide_eq_false (by omega)
        clear hc
        go_wp2_with fail
        go_ret
        exact ⟨bs, bo, bc, by rw [← HI.out]; rfl, by rw [← HI.out]; exact h20, by rw [← HI.out]; exact hln, HFI.out, by rw [← HI.out]; exact HS.out, HN.out, HF.out⟩
      · have hd1 : decide ((i : Int) < (l.length : Int)) = false := decide_eq_false (by omega)
        clear hc
        go_wp2_with fail
        go_ret
        exact ⟨bs, bo, bc, by rw [← HI.out]; rfl, by rw [← HI.out]; exact h20, by rw [← HI.out]; exact hln, HFI.out, by rw [← HI.out]; exact HS.out, HN.out, HF.out⟩

set_option maxRecDepth 100000 in
set_option maxHeartbeats 2000000 in
theorem hasp_any (w : World) (ao : Option Addr) (cap : Nat) (l : List (Nat × Nat)) (a b : Nat) (h : Rd w 2 ao l.length (l.flatMap encP)) :
    Calls Try.prog 22 #[.slice ao l.length cap, .int .i64 (a : Int), .int .i64 (b : Int)] w fun e w' => e = .returned (.bool (decide ((a, b) ∈ l))) ∧ w' = w := by
  have hll : l.length ≤ 9223372036854775807 := by have := h.2.1; unfold maxLen at this; omega
  have H := Lib.hid h
  clear h
  go_enter Try.func22, Try.ntmps22
  go_wp2_with fail
  go_loopw [7] (fun iv wr => ∃ i : Nat, iv = .int .i64 (i : Int) ∧ i ≤ l.length ∧ (∀ j (hj : j < l.length), j < i → l[j] ≠ (a, b)) ∧ wr = w) (fun iv _ => l.length - (intOf iv).toNat)
  case atStart => exact ⟨0, rfl, by omega, fun j _ h => absurd h (by omega), rfl⟩
  case round =>
    obtain ⟨i, rfl, hi, hz, rfl⟩ := hrel
    have HZ := Lib.hid hz
    clear hz
    by_cases hil : i < l.length
    · have hlt : (i : Int) < (l.length : Int) := by omega
      have wi : IntKind.i64.wrap ((i : Int) + 1) = (i : Int) + 1 := IntWalk.i64_in _ (by omega)
      obtain ⟨g, off, rfl, -, c0, c1⟩ := H.out.pr hil
      obtain ⟨x, hx⟩ : ∃ x, x = l[i].1 := ⟨_, rfl⟩
      obtain ⟨y, hy⟩ : ∃ y, y = l[i].2 := ⟨_, rfl⟩
      rw [← hx] at c0
      rw [← hy] at c1
      have HX := Lib.hid hx
      have HY := Lib.hid hy
      clear hx hy
      by_cases hxa : x = a
      · have d1 : ((x : Int) == (a : Int)) = true := by simp [hxa]
        by_cases hyb : y = b
        · have d2 : ((y : Int) == (b : Int)) = true := by simp [hyb]
          have HM := Lib.hid (by
            have : l[i] = (a, b) := Prod.ext (by rw [← HX.out]; exact hxa) (by rw [← HY.out]; exact hyb)
            exact this ▸ List.getElem_mem hil : (a, b) ∈ l)
          clear hxa hyb
          go_wp2_with fail
          go_ret
          exact ⟨ret_boolB (decide_eq_true HM.out).symm, by trivial⟩
        · have d2 : ((y : Int) == (b : Int)) = false := by rw [Bool.eq_false_iff]; intro h; exact hyb (by have := beq_iff_eq.1 h; omega)
          have HNE := Lib.hid (fun h => hyb (by rw [HY.out, h]) : l[i] ≠ (a, b))
          clear hxa hyb
          go_wp2_with fail
          go_roundw
          case rel => exact ⟨i + 1, by go_num, by omega, fun j hj hji => by
            rcases Nat.lt_or_ge j i with q | q
            · exact HZ.out j hj q
            · have : j = i := by omega
              subst this; exact HNE.out, by trivial⟩
          case measure => simp [intOf]; omega
      · have d1 : ((x : Int) == (a : Int)) = false := by rw [Bool.eq_false_iff]; intro h; exact hxa (by have := beq_iff_eq.1 h; omega)
        have HNE := Lib.hid (fun h => hxa (by rw [HX.out, h]) : l[i] ≠ (a, b))
        clear hxa
        go_wp2_with fail
        go_roundw
        case rel => exact ⟨i + 1, by go_num, by omega, fun j hj hji => by
          rcases Nat.lt_or_ge j i with q | q
          · exact HZ.out j hj q
          · have : j = i := by omega
            subst this; exact HNE.out, by trivial⟩
        case measure => simp [intOf]; omega
    · have hlt : ¬ (i : Int) < (l.length : Int) := by omega
      have HM := Lib.hid (fun h => by
        obtain ⟨j, hj, hje⟩ := List.getElem_of_mem h
        exact HZ.out j hj (by omega) hje : (a, b) ∉ l)
      go_wp2_with fail
      go_ret
      exact ⟨ret_boolB (decide_eq_false HM.out).symm, by trivial⟩
end Go.Proofs.Ytoplpmkcfgadlaa
