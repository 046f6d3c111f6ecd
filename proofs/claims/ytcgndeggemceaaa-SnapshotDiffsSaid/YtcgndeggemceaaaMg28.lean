/- Package snapshot: merge's iterator. -/
import Derived.RangeFuncNested
import Derived.RangeFuncBox
import Derived.RangeFuncLeaves
import Derived.Shelf.Abstract
import Derived.OwnWalkIn
import Derived.TacticsInMore
import Derived.LoopNIn
import Derived.LoopIn
import Derived.BigRegionIn
import Derived.Deep.Quiet
import Derived.BigQuiet
import Derived.Sort.CutIn
import Derived.Test.YtcgndeggemceaaaFrB
import Derived.Test.YtcgndeggemceaaaEq28
namespace Go.Proofs.Ytcgndeggemceaaa
open Go.RowKit Go.Shelf

attribute [local go_sem] Oper.semAt_some

def pV (p : Pr) : Value := .agg #[.int .i64 p.bi, .int .i64 p.bv, .int .i64 p.ai, .int .i64 p.av, .bool p.ib, .bool p.ia]
def pC (p : Pr) : Obj := .cells #[.int .i64 p.bi, .int .i64 p.bv, .int .i64 p.ai, .int .i64 p.av, .bool p.ib, .bool p.ia] 66
def encP (t : List Pr) (i : Fin t.length) : Array Value := #[pV t[i]]
def fw (n k : Nat) : List (Fin n) := (List.finRange n).take k
theorem fw_succ (n k : Nat) (h : k < n) : fw n (k + 1) = fw n k ++ [⟨k, h⟩] := by
  unfold fw
  rw [List.take_succ_eq_append_getElem (by simpa using h)]
  simp
theorem fw_length (n k : Nat) (h : k ≤ n) : (fw n k).length = k := by simp [fw, h]
theorem fw_all (n k : Nat) (h : n ≤ k) : fw n k = fw n n := by
  unfold fw
  rw [List.take_of_length_le (by simpa using h), List.take_of_length_le (by simp)]
/-- one step of the merge -/
theorem mg_step {a b : List (Int × Int)} {i j k : Nat} {p : Pr} {r : List Pr} (h : (mg a b).drop k = mg (a.drop i) (b.drop j)) (hp : mg (a.drop i) (b.drop j) = p :: r) : ∃ hk : k < (mg a b).length, (mg a b)[k] = p ∧ (mg a b).drop (k + 1) = r := by
  have e : (mg a b).drop k = p :: r := h.trans hp
  have hk : k < (mg a b).length := by
    rcases Nat.lt_or_ge k (mg a b).length with q | q
    · exact q
    · rw [List.drop_of_length_le q] at e; cases e
  refine ⟨hk, ?_, ?_⟩
  · rw [List.drop_eq_getElem_cons hk] at e; injection e
  · rw [List.drop_eq_getElem_cons hk] at e; injection e
theorem Fr.grown0 {w w' : World} (h : Fr [] w w') : w.grownBy w' none := ⟨h.os, h.tape, h.output, h.size, fun k hk _ => h.block k hk (by simp)⟩

section
variable {P : Program} {ops : Array Oper} {W : World}
theorem still_of_quiet {o : Oper} {a : Act} {K : Act → Prop} (h : o.quiet P a (fun u => u = W) K) : o.still P a W K := by
  obtain ⟨v, h1, h2⟩ := h
  have h3 := h1 W rfl
  unfold Oper.quietAt at h3
  unfold Oper.still
  generalize (execOp a.eval o).run P W = r at *
  cases r with
  | ok n w' =>
    cases n <;> simp only [Oper.quietUpon] at h3 <;> simp only [Oper.stillUpon]
    case value u => obtain ⟨rfl, rfl⟩ := h3; exact ⟨rfl, h2⟩
    case skip => obtain ⟨rfl, rfl⟩ := h3; exact ⟨rfl, h2⟩
    case enter f args => obtain ⟨rfl, hc⟩ := h3; exact ⟨rfl, v, hc, h2⟩
  | halt x w' => simp only [Oper.quietUpon] at h3
theorem wpStill_of_quiet {Q : Act → Prop} : ∀ (l : List Oper) (a : Act), wpQuiet P ops (fun u => u = W) Q l a → wpStill P ops W Q l a
  | [], a, h => h
  | o :: rest, a, h => by
    unfold wpQuiet at h
    unfold wpStill
    split
    · rename_i hw
      rw [if_pos hw] at h
      exact still_of_quiet (Oper.quiet_mono (fun a' ha => wpStill_of_quiet rest a' ha) h)
    · rename_i hw
      rw [if_neg hw] at h
      exact wpStill_of_quiet rest _ h
end

attribute [local irreducible] wpStill
set_option maxRecDepth 100000 in
set_option maxHeartbeats 8000000 in
theorem merge1_in (n : Nat) (hn : 1 ≤ n) (l B1 B2 n₀ : Nat) (S : List Nat) (ao bo : Option Addr) (ca cb : Nat) (a b : List (Int × Int))
    (W : World) (J Jx : List (Fin (mg a b).length) → World → Prop) (hab : AbidesFrom W.heap.size J)
    (hY : ∀ pre x W, J pre W → pre.length < (mg a b).length → YieldAt Fence.wide (n - 1) Try.prog l (encP (mg a b) x) W fun e W' =>
      (e = .returned (.bool true) ∧ J (pre ++ [x]) W' ∧ FrB n₀ S W W') ∨ (e = .returned (.bool false) ∧ Jx (pre ++ [x]) W'))
    (hB1 : W.cell? ⟨B1, 0, none⟩ = some (.slice ao a.length ca)) (hB2 : W.cell? ⟨B2, 0, none⟩ = some (.slice bo b.length cb)) (hn₀ : n₀ ≤ W.heap.size) (h1 : B1 < n₀ ∧ B1 ∉ S) (h2 : B2 < n₀ ∧ B2 ∉ S)
    (ha : Rd W 2 ao a.length (a.flatMap clV)) (hb : Rd W 2 bo b.length (b.flatMap clV)) (ha1 : ∀ k ∈ blk ao, k < n₀ ∧ k ∉ S) (hb1 : ∀ k ∈ blk bo, k < n₀ ∧ k ∉ S) (h0 : J [] W) :
    CallsIn Fence.wide n Try.prog 51 #[.func (.yield l) #[] #[], .pointer (some ⟨B1, 0, none⟩), .pointer (some ⟨B2, 0, none⟩)] W fun e W' => (∃ v, e = .returned v) ∧
      ((∃ ys, ys = fw (mg a b).length (mg a b).length ∧ J ys W') ∨ (∃ pre, True ∧ Jx pre W')) := by
  have hla : a.length ≤ 9223372036854775807 := by have := ha.2.1; unfold maxLen at *; omega
  have hlb : b.length ≤ 9223372036854775807 := by have := hb.2.1; unfold maxLen at *; omega
  have HAB := Lib.hid hab
  have HY := Lib.hid hY
  have HAR := Lib.hid (fun (u : World) (hu : FrB n₀ S W u) => (ha.kept fun k hk => hu.block k (ha1 k hk).1 (ha1 k hk).2 : Rd u 2 ao a.length (a.flatMap clV)))
  have HBR := Lib.hid (fun (u : World) (hu : FrB n₀ S W u) => (hb.kept fun k hk => hu.block k (hb1 k hk).1 (hb1 k hk).2 : Rd u 2 bo b.length (b.flatMap clV)))
  have HC1 := Lib.hid (fun (u : World) (hu : FrB n₀ S W u) => (hu.cell (p := ⟨B1, 0, none⟩) h1.1 h1.2).trans hB1)
  have HC2 := Lib.hid (fun (u : World) (hu : FrB n₀ S W u) => (hu.cell (p := ⟨B2, 0, none⟩) h2.1 h2.2).trans hB2)
  have HJ0 := Lib.hid h0
  have HL1 := Lib.hid h1.1
  have HL2 := Lib.hid h2.1
  clear hab hY ha hb ha1 hb1 h1 h2 h0
  refine callsIn_of_wp Try.func51 rfl trivial ?_ rfl
  simp only [Try.ntmps51, List.size_toArray, List.length_cons, List.length_nil, Nat.reduceAdd, Nat.reduceSub, Array.replicate_succ, Array.replicate_zero, List.push_toArray, List.append_toArray, List.nil_append, List.cons_append]
  gi_wp2
  gi_loopw [4, 5] (fun iv jv wr => ∃ i j k : Nat, i ≤ a.length ∧ j ≤ b.length ∧ iv = .int .i64 i ∧ jv = .int .i64 j ∧ (mg a b).drop k = mg (a.drop i) (b.drop j) ∧ J (fw (mg a b).length k) wr ∧ FrB n₀ S W wr ∧ k ≤ i + j)
    (fun iv jv _ => a.length + b.length - (intOf iv).toNat - (intOf jv).toNat)
  case atStart => exact ⟨0, 0, 0, by omega, by omega, rfl, rfl, rfl, HJ0.out, FrB.refl _ _ _, by omega⟩
  case round =>
    obtain ⟨i, j, k, hi, hj, rfl, rfl, hd, hJ, hfr, hk⟩ := hrel
    have c1 := HC1.out _ hfr
    have c2 := HC2.out _ hfr
    have hl1 : B1 < wr.heap.size := by have := hfr.size; have := HL1.out; omega
    have hl2 : B2 < wr.heap.size := by have := hfr.size; have := HL2.out; omega
    have HJ := Lib.hid hJ
    have HFR := Lib.hid hfr
    have HD := Lib.hid hd
    clear hJ hfr hd
    by_cases hil : i < a.length
    · obtain ⟨g, off, rfl, hg, ca0, ca1⟩ := (HAR.out _ HFR.out).cel hil
      obtain ⟨x, hx⟩ : ∃ x, x = a[i] := ⟨_, rfl⟩
      rw [← hx] at ca0 ca1
      have HX := Lib.hid hx
      clear hx
      have hine : ((i : Int) == (a.length : Int)) = false := beq_eq_false_iff_ne.2 (by omega)
      by_cases hjl : j < b.length
      · obtain ⟨g2, off2, rfl, hg2, cb0, cb1⟩ := (HBR.out _ HFR.out).cel hjl
        obtain ⟨y, hyy⟩ : ∃ y, y = b[j] := ⟨_, rfl⟩
        rw [← hyy] at cb0 cb1
        have HYY := Lib.hid hyy
        clear hyy
        have hjne : ((j : Int) == (b.length : Int)) = false := beq_eq_false_iff_ne.2 (by omega)
        by_cases hlt : x.1 < y.1
        · have hle : x.1 ≤ y.1 := by omega
          have hnle : ¬ y.1 ≤ x.1 := by omega
          have hd1 : decide (x.1 ≤ y.1) = true := decide_eq_true hle
          have hd2 : decide (y.1 ≤ x.1) = false := decide_eq_false hnle
          clear hlt hle hnle
          have HLT := Lib.hid (of_decide_eq_false hd2)
          gi_wp2
          refine wpIn_wide.2 ?_
          refine wp_still_tail 24 (by kernel_rfl) (by kernel_rfl) ?_
          simp only [List.take_succ_cons, List.take_zero, List.drop_succ_cons, List.drop_zero]
          repeat still_step
          refine wpStill_nil ?_
          go_wp2
          gi_wp2
          refine wpIn_wide.2 ?_
          refine wp_still_tail 24 (by kernel_rfl) (by kernel_rfl) ?_
          simp only [List.take_succ_cons, List.take_zero, List.drop_succ_cons, List.drop_zero]
          repeat still_step
          refine wpStill_nil ?_
          go_wp2
          gi_upto_region 11 with fail
          obtain ⟨hkl, hpk, hdk⟩ := mg_step (p := prB x) (r := mg (a.drop (i + 1)) (b.drop (j))) HD.out (by
            rw [List.drop_eq_getElem_cons hil, List.drop_eq_getElem_cons hjl, ← HX.out, ← HYY.out, mg_lt (by have := HLT.out; omega)])
          have hbk : ((wr.alloc (pC (prB x))).drew.drew).heap[wr.heap.size]? = some (pC (prB x)) := alloc_new wr (pC (prB x))
          have hfy : Fr [] wr ((wr.alloc (pC (prB x))).drew.drew) := (((Fr.refl _ _).alloc _).drew).drew
          unfold pC prB at hbk hfy
          simp only at hbk hfy
          obtain ⟨Wy, hWy⟩ : ∃ Wy, Wy = (wr.alloc (.cells #[.int .i64 x.1, .int .i64 x.2, .int .i64 0, .int .i64 0, .bool true, .bool false] 66)).drew.drew := ⟨_, rfl⟩
          rw [← hWy] at hbk hfy ⊢
          clear hWy
          have z0 := cell_blk hbk 0
          have z1 := cell_blk hbk 1
          have z2 := cell_blk hbk 2
          have z3 := cell_blk hbk 3
          have z4 := cell_blk hbk 4
          have z5 := cell_blk hbk 5
          simp at z0 z1 z2 z3 z4 z5
          obtain ⟨fn, tmps, assign, body, hy, hR⟩ := HY.out _ ⟨k, hkl⟩ Wy (HAB.out _ _ _ none HJ.out hfy.grown0 (fun r e => by cases e)) (by rw [fw_length _ _ (by omega)]; exact hkl)
          simp only [encP, Fin.getElem_fin] at hy
          rw [hpk] at hy
          simp only [pV, prB] at hy
          have HR := Lib.hid hR
          have HFY := Lib.hid hfy
          have HDK := Lib.hid hdk
          clear hR hfy hdk hbk hpk
          gi_wp2
          refine HR.out.mono ?_
          rintro e W3 (⟨rfl, hJ3, hk3⟩ | ⟨rfl, hJx3⟩)
          · have HJ3 := Lib.hid hJ3
            have HK3 := Lib.hid hk3
            clear hJ3 hk3
            gi_wp2
            go_roundw
            case rel => exact ⟨i + 1, j, k + 1, by omega, by omega, by go_num, by go_num, HDK.out, by rw [fw_succ _ _ hkl]; exact HJ3.out, (HFR.out.trans (FrB.ofFr (HFY.out.mono (by simp)) (by have := HFR.out.size; omega))).trans HK3.out, by omega⟩
            case measure => simp [intOf]; omega
          · gi_wp2
            refine bodyPost_ret (results_none rfl _ _ _) rfl ?_
            exact ⟨⟨_, rfl⟩, .inr ⟨_, trivial, hJx3⟩⟩
        · by_cases hgt : y.1 < x.1
          · have hle : y.1 ≤ x.1 := by omega
            have hnle : ¬ x.1 ≤ y.1 := by omega
            have hd1 : decide (y.1 ≤ x.1) = true := decide_eq_true hle
            have hd2 : decide (x.1 ≤ y.1) = false := decide_eq_false hnle
            clear hgt hle hnle hlt
            have HLT := Lib.hid (of_decide_eq_false hd2)
            gi_wp2
            refine wpIn_wide.2 ?_
            refine wp_still_tail 24 (by kernel_rfl) (by kernel_rfl) ?_
            simp only [List.take_succ_cons, List.take_zero, List.drop_succ_cons, List.drop_zero]
            repeat still_step
            refine wpStill_nil ?_
            go_wp2
            gi_wp2
            refine wpIn_wide.2 ?_
            refine wp_still_tail 24 (by kernel_rfl) (by kernel_rfl) ?_
            simp only [List.take_succ_cons, List.take_zero, List.drop_succ_cons, List.drop_zero]
            repeat still_step
            refine wpStill_nil ?_
            go_wp2
            gi_upto_region 11 with fail
            obtain ⟨hkl, hpk, hdk⟩ := mg_step (p := prA y) (r := mg (a.drop (i)) (b.drop (j + 1))) HD.out (by
              rw [List.drop_eq_getElem_cons hil, List.drop_eq_getElem_cons hjl, ← HX.out, ← HYY.out, mg_gt (by have := HLT.out; omega)])
            have hbk : ((wr.alloc (pC (prA y))).drew.drew).heap[wr.heap.size]? = some (pC (prA y)) := alloc_new wr (pC (prA y))
            have hfy : Fr [] wr ((wr.alloc (pC (prA y))).drew.drew) := (((Fr.refl _ _).alloc _).drew).drew
            unfold pC prA at hbk hfy
            simp only at hbk hfy
            obtain ⟨Wy, hWy⟩ : ∃ Wy, Wy = (wr.alloc (.cells #[.int .i64 0, .int .i64 0, .int .i64 y.1, .int .i64 y.2, .bool false, .bool true] 66)).drew.drew := ⟨_, rfl⟩
            rw [← hWy] at hbk hfy ⊢
            clear hWy
            have z0 := cell_blk hbk 0
            have z1 := cell_blk hbk 1
            have z2 := cell_blk hbk 2
            have z3 := cell_blk hbk 3
            have z4 := cell_blk hbk 4
            have z5 := cell_blk hbk 5
            simp at z0 z1 z2 z3 z4 z5
            obtain ⟨fn, tmps, assign, body, hy, hR⟩ := HY.out _ ⟨k, hkl⟩ Wy (HAB.out _ _ _ none HJ.out hfy.grown0 (fun r e => by cases e)) (by rw [fw_length _ _ (by omega)]; exact hkl)
            simp only [encP, Fin.getElem_fin] at hy
            rw [hpk] at hy
            simp only [pV, prA] at hy
            have HR := Lib.hid hR
            have HFY := Lib.hid hfy
            have HDK := Lib.hid hdk
            clear hR hfy hdk hbk hpk
            gi_wp2
            refine HR.out.mono ?_
            rintro e W3 (⟨rfl, hJ3, hk3⟩ | ⟨rfl, hJx3⟩)
            · have HJ3 := Lib.hid hJ3
              have HK3 := Lib.hid hk3
              clear hJ3 hk3
              gi_wp2
              go_roundw
              case rel => exact ⟨i, j + 1, k + 1, by omega, by omega, by go_num, by go_num, HDK.out, by rw [fw_succ _ _ hkl]; exact HJ3.out, (HFR.out.trans (FrB.ofFr (HFY.out.mono (by simp)) (by have := HFR.out.size; omega))).trans HK3.out, by omega⟩
              case measure => simp [intOf]; omega
            · gi_wp2
              refine bodyPost_ret (results_none rfl _ _ _) rfl ?_
              exact ⟨⟨_, rfl⟩, .inr ⟨_, trivial, hJx3⟩⟩
          · have hle : x.1 ≤ y.1 := by omega
            have hle2 : y.1 ≤ x.1 := by omega
            gi_wp2
            refine wpIn_wide.2 ?_
            refine wp_still_tail 24 (by kernel_rfl) (by kernel_rfl) ?_
            simp only [List.take_succ_cons, List.take_zero, List.drop_succ_cons, List.drop_zero]
            repeat still_step
            refine wpStill_nil ?_
            go_wp2
            gi_wp2
            refine wpIn_wide.2 ?_
            refine wp_still_tail 24 (by kernel_rfl) (by kernel_rfl) ?_
            simp only [List.take_succ_cons, List.take_zero, List.drop_succ_cons, List.drop_zero]
            repeat still_step
            refine wpStill_nil ?_
            go_wp2
            gi_upto_region 11 with fail
            obtain ⟨hkl, hpk, hdk⟩ := mg_step (p := prX x y) (r := mg (a.drop (i + 1)) (b.drop (j + 1))) HD.out (by
              rw [List.drop_eq_getElem_cons hil, List.drop_eq_getElem_cons hjl, ← HX.out, ← HYY.out, mg_eq (by omega)])
            have hbk : ((wr.alloc (pC (prX x y))).drew.drew).heap[wr.heap.size]? = some (pC (prX x y)) := alloc_new wr (pC (prX x y))
            have hfy : Fr [] wr ((wr.alloc (pC (prX x y))).drew.drew) := (((Fr.refl _ _).alloc _).drew).drew
            unfold pC prX at hbk hfy
            simp only at hbk hfy
            obtain ⟨Wy, hWy⟩ : ∃ Wy, Wy = (wr.alloc (.cells #[.int .i64 x.1, .int .i64 x.2, .int .i64 y.1, .int .i64 y.2, .bool true, .bool true] 66)).drew.drew := ⟨_, rfl⟩
            rw [← hWy] at hbk hfy ⊢
            clear hWy
            have z0 := cell_blk hbk 0
            have z1 := cell_blk hbk 1
            have z2 := cell_blk hbk 2
            have z3 := cell_blk hbk 3
            have z4 := cell_blk hbk 4
            have z5 := cell_blk hbk 5
            simp at z0 z1 z2 z3 z4 z5
            obtain ⟨fn, tmps, assign, body, hy, hR⟩ := HY.out _ ⟨k, hkl⟩ Wy (HAB.out _ _ _ none HJ.out hfy.grown0 (fun r e => by cases e)) (by rw [fw_length _ _ (by omega)]; exact hkl)
            simp only [encP, Fin.getElem_fin] at hy
            rw [hpk] at hy
            simp only [pV, prX] at hy
            have HR := Lib.hid hR
            have HFY := Lib.hid hfy
            have HDK := Lib.hid hdk
            clear hR hfy hdk hbk hpk
            gi_wp2
            refine HR.out.mono ?_
            rintro e W3 (⟨rfl, hJ3, hk3⟩ | ⟨rfl, hJx3⟩)
            · have HJ3 := Lib.hid hJ3
              have HK3 := Lib.hid hk3
              clear hJ3 hk3
              gi_wp2
              go_roundw
              case rel => exact ⟨i + 1, j + 1, k + 1, by omega, by omega, by go_num, by go_num, HDK.out, by rw [fw_succ _ _ hkl]; exact HJ3.out, (HFR.out.trans (FrB.ofFr (HFY.out.mono (by simp)) (by have := HFR.out.size; omega))).trans HK3.out, by omega⟩
              case measure => simp [intOf]; omega
            · gi_wp2
              refine bodyPost_ret (results_none rfl _ _ _) rfl ?_
              exact ⟨⟨_, rfl⟩, .inr ⟨_, trivial, hJx3⟩⟩
      · have hje : ((j : Int) == (b.length : Int)) = true := beq_iff_eq.2 (by omega)
        gi_wp2
        refine wpIn_wide.2 ?_
        refine wp_still_tail 24 (by kernel_rfl) (by kernel_rfl) ?_
        simp only [List.take_succ_cons, List.take_zero, List.drop_succ_cons, List.drop_zero]
        repeat still_step
        refine wpStill_nil ?_
        go_wp2
        gi_wp2
        refine wpIn_wide.2 ?_
        refine wp_still_tail 24 (by kernel_rfl) (by kernel_rfl) ?_
        simp only [List.take_succ_cons, List.take_zero, List.drop_succ_cons, List.drop_zero]
        repeat still_step
        refine wpStill_nil ?_
        go_wp2
        gi_upto_region 11 with fail
        obtain ⟨hkl, hpk, hdk⟩ := mg_step (p := prB x) (r := mg (a.drop (i + 1)) (b.drop (j))) HD.out (by
          rw [List.drop_of_length_le (show b.length ≤ j by omega), List.drop_eq_getElem_cons hil, ← HX.out, mg_nil', mg_nil', List.map_cons])
        have hbk : ((wr.alloc (pC (prB x))).drew.drew).heap[wr.heap.size]? = some (pC (prB x)) := alloc_new wr (pC (prB x))
        have hfy : Fr [] wr ((wr.alloc (pC (prB x))).drew.drew) := (((Fr.refl _ _).alloc _).drew).drew
        unfold pC prB at hbk hfy
        simp only at hbk hfy
        obtain ⟨Wy, hWy⟩ : ∃ Wy, Wy = (wr.alloc (.cells #[.int .i64 x.1, .int .i64 x.2, .int .i64 0, .int .i64 0, .bool true, .bool false] 66)).drew.drew := ⟨_, rfl⟩
        rw [← hWy] at hbk hfy ⊢
        clear hWy
        have z0 := cell_blk hbk 0
        have z1 := cell_blk hbk 1
        have z2 := cell_blk hbk 2
        have z3 := cell_blk hbk 3
        have z4 := cell_blk hbk 4
        have z5 := cell_blk hbk 5
        simp at z0 z1 z2 z3 z4 z5
        obtain ⟨fn, tmps, assign, body, hy, hR⟩ := HY.out _ ⟨k, hkl⟩ Wy (HAB.out _ _ _ none HJ.out hfy.grown0 (fun r e => by cases e)) (by rw [fw_length _ _ (by omega)]; exact hkl)
        simp only [encP, Fin.getElem_fin] at hy
        rw [hpk] at hy
        simp only [pV, prB] at hy
        have HR := Lib.hid hR
        have HFY := Lib.hid hfy
        have HDK := Lib.hid hdk
        clear hR hfy hdk hbk hpk
        gi_wp2
        refine HR.out.mono ?_
        rintro e W3 (⟨rfl, hJ3, hk3⟩ | ⟨rfl, hJx3⟩)
        · have HJ3 := Lib.hid hJ3
          have HK3 := Lib.hid hk3
          clear hJ3 hk3
          gi_wp2
          go_roundw
          case rel => exact ⟨i + 1, j, k + 1, by omega, by omega, by go_num, by go_num, HDK.out, by rw [fw_succ _ _ hkl]; exact HJ3.out, (HFR.out.trans (FrB.ofFr (HFY.out.mono (by simp)) (by have := HFR.out.size; omega))).trans HK3.out, by omega⟩
          case measure => simp [intOf]; omega
        · gi_wp2
          refine bodyPost_ret (results_none rfl _ _ _) rfl ?_
          exact ⟨⟨_, rfl⟩, .inr ⟨_, trivial, hJx3⟩⟩
    · have hie : ((i : Int) == (a.length : Int)) = true := beq_iff_eq.2 (by omega)
      by_cases hjl : j < b.length
      · obtain ⟨g2, off2, rfl, hg2, cb0, cb1⟩ := (HBR.out _ HFR.out).cel hjl
        obtain ⟨y, hyy⟩ : ∃ y, y = b[j] := ⟨_, rfl⟩
        rw [← hyy] at cb0 cb1
        have HYY := Lib.hid hyy
        clear hyy
        gi_wp2
        refine wpIn_wide.2 ?_
        refine wp_still_tail 24 (by kernel_rfl) (by kernel_rfl) ?_
        simp only [List.take_succ_cons, List.take_zero, List.drop_succ_cons, List.drop_zero]
        repeat still_step
        refine wpStill_nil ?_
        go_wp2
        gi_wp2
        refine wpIn_wide.2 ?_
        refine wp_still_tail 24 (by kernel_rfl) (by kernel_rfl) ?_
        simp only [List.take_succ_cons, List.take_zero, List.drop_succ_cons, List.drop_zero]
        repeat still_step
        refine wpStill_nil ?_
        go_wp2
        gi_upto_region 11 with fail
        obtain ⟨hkl, hpk, hdk⟩ := mg_step (p := prA y) (r := mg (a.drop (i)) (b.drop (j + 1))) HD.out (by
          rw [List.drop_of_length_le (show a.length ≤ i by omega), List.drop_eq_getElem_cons hjl, ← HYY.out, mg_nil, mg_nil, List.map_cons])
        have hbk : ((wr.alloc (pC (prA y))).drew.drew).heap[wr.heap.size]? = some (pC (prA y)) := alloc_new wr (pC (prA y))
        have hfy : Fr [] wr ((wr.alloc (pC (prA y))).drew.drew) := (((Fr.refl _ _).alloc _).drew).drew
        unfold pC prA at hbk hfy
        simp only at hbk hfy
        obtain ⟨Wy, hWy⟩ : ∃ Wy, Wy = (wr.alloc (.cells #[.int .i64 0, .int .i64 0, .int .i64 y.1, .int .i64 y.2, .bool false, .bool true] 66)).drew.drew := ⟨_, rfl⟩
        rw [← hWy] at hbk hfy ⊢
        clear hWy
        have z0 := cell_blk hbk 0
        have z1 := cell_blk hbk 1
        have z2 := cell_blk hbk 2
        have z3 := cell_blk hbk 3
        have z4 := cell_blk hbk 4
        have z5 := cell_blk hbk 5
        simp at z0 z1 z2 z3 z4 z5
        obtain ⟨fn, tmps, assign, body, hy, hR⟩ := HY.out _ ⟨k, hkl⟩ Wy (HAB.out _ _ _ none HJ.out hfy.grown0 (fun r e => by cases e)) (by rw [fw_length _ _ (by omega)]; exact hkl)
        simp only [encP, Fin.getElem_fin] at hy
        rw [hpk] at hy
        simp only [pV, prA] at hy
        have HR := Lib.hid hR
        have HFY := Lib.hid hfy
        have HDK := Lib.hid hdk
        clear hR hfy hdk hbk hpk
        gi_wp2
        refine HR.out.mono ?_
        rintro e W3 (⟨rfl, hJ3, hk3⟩ | ⟨rfl, hJx3⟩)
        · have HJ3 := Lib.hid hJ3
          have HK3 := Lib.hid hk3
          clear hJ3 hk3
          gi_wp2
          go_roundw
          case rel => exact ⟨i, j + 1, k + 1, by omega, by omega, by go_num, by go_num, HDK.out, by rw [fw_succ _ _ hkl]; exact HJ3.out, (HFR.out.trans (FrB.ofFr (HFY.out.mono (by simp)) (by have := HFR.out.size; omega))).trans HK3.out, by omega⟩
          case measure => simp [intOf]; omega
        · gi_wp2
          refine bodyPost_ret (results_none rfl _ _ _) rfl ?_
          exact ⟨⟨_, rfl⟩, .inr ⟨_, trivial, hJx3⟩⟩
      · have hend : (mg a b).length ≤ k := by
          have h := HD.out
          rw [List.drop_of_length_le (show a.length ≤ i by omega), List.drop_of_length_le (show b.length ≤ j by omega), mg_nil, List.map_nil] at h
          exact List.drop_eq_nil_iff.1 h
        have HJE := Lib.hid (by rw [← fw_all _ _ hend]; exact HJ.out : J (fw (mg a b).length (mg a b).length) wr)
        clear hend
        gi_wp2
        go_end0
        exact ⟨⟨_, rfl⟩, .inl ⟨_, rfl, HJE.out⟩⟩
end Go.Proofs.Ytcgndeggemceaaa
