/- Mg28, MgS28, Gap28, DifP28, RoundH, DifI28 (merged by merge.py). -/
import Derived.RangeFuncNested
import Derived.RangeFuncBox
import Derived.RangeFuncLeaves
import Derived.Shelf.Abstract
import Derived.OwnWalkIn
import Derived.TacticsInMore
import Derived.LoopNIn
import Derived.LoopIn
import Derived.BigRegionIn
import Derived.Deep.Quiet
import Derived.BigQuiet
import Derived.Sort.CutIn
import Derived.Test.YtodfeaipoagphaaZ303
import Derived.Test.YtodfeaipoagphaaZ301
import Derived.Deep.RegionHeld3
import Derived.Test.YtodfeaipoagphaaZ302
/- Package snapshot: merge's iterator. -/
namespace Go.Proofs.Ytodfeaipoagphaa
open Go.RowKit Go.Shelf

attribute [local go_sem] Oper.semAt_some

def pV (p : Pr) : Value := .agg #[.int .i64 p.bi, .int .i64 p.bv, .int .i64 p.ai, .int .i64 p.av, .bool p.ib, .bool p.ia]
def pC (p : Pr) : Obj := .cells #[.int .i64 p.bi, .int .i64 p.bv, .int .i64 p.ai, .int .i64 p.av, .bool p.ib, .bool p.ia] 92
def encP (t : List Pr) (i : Fin t.length) : Array Value := #[pV t[i]]
def fw (n k : Nat) : List (Fin n) := (List.finRange n).take k
theorem fw_succ (n k : Nat) (h : k < n) : fw n (k + 1) = fw n k ++ [⟨k, h⟩] := by
  unfold fw
  rw [List.take_succ_eq_append_getElem (by simpa using h)]
  simp
theorem fw_length (n k : Nat) (h : k ≤ n) : (fw n k).length = k := by simp [fw, h]
theorem fw_all (n k : Nat) (h : n ≤ k) : fw n k = fw n n := by
  unfold fw
  rw [List.take_of_length_le (by simpa using h), List.take_of_length_le (by simp)]
/-- one step of the merge -/
theorem mg_step {a b : List (Int × Int)} {i j k : Nat} {p : Pr} {r : List Pr} (h : (mg a b).drop k = mg (a.drop i) (b.drop j)) (hp : mg (a.drop i) (b.drop j) = p :: r) : ∃ hk : k < (mg a b).length, (mg a b)[k] = p ∧ (mg a b).drop (k + 1) = r := by
  have e : (mg a b).drop k = p :: r := h.trans hp
  have hk : k < (mg a b).length := by
    rcases Nat.lt_or_ge k (mg a b).length with q | q
    · exact q
    · rw [List.drop_of_length_le q] at e; cases e
  refine ⟨hk, ?_, ?_⟩
  · rw [List.drop_eq_getElem_cons hk] at e; injection e
  · rw [List.drop_eq_getElem_cons hk] at e; injection e
theorem Fr.grown0 {w w' : World} (h : Fr [] w w') : w.grownBy w' none := ⟨h.os, h.tape, h.output, h.size, fun k hk _ => h.block k hk (by simp)⟩

section
variable {P : Program} {ops : Array Oper} {W : World}
theorem still_of_quiet {o : Oper} {a : Act} {K : Act → Prop} (h : o.quiet P a (fun u => u = W) K) : o.still P a W K := by
  obtain ⟨v, h1, h2⟩ := h
  have h3 := h1 W rfl
  unfold Oper.quietAt at h3
  unfold Oper.still
  generalize (execOp a.eval o).run P W = r at *
  cases r with
  | ok n w' =>
    cases n <;> simp only [Oper.quietUpon] at h3 <;> simp only [Oper.stillUpon]
    case value u => obtain ⟨rfl, rfl⟩ := h3; exact ⟨rfl, h2⟩
    case skip => obtain ⟨rfl, rfl⟩ := h3; exact ⟨rfl, h2⟩
    case enter f args => obtain ⟨rfl, hc⟩ := h3; exact ⟨rfl, v, hc, h2⟩
  | halt x w' => simp only [Oper.quietUpon] at h3
theorem wpStill_of_quiet {Q : Act → Prop} : ∀ (l : List Oper) (a : Act), wpQuiet P ops (fun u => u = W) Q l a → wpStill P ops W Q l a
  | [], a, h => h
  | o :: rest, a, h => by
    unfold wpQuiet at h
    unfold wpStill
    split
    · rename_i hw
      rw [if_pos hw] at h
      exact still_of_quiet (Oper.quiet_mono (fun a' ha => wpStill_of_quiet rest a' ha) h)
    · rename_i hw
      rw [if_neg hw] at h
      exact wpStill_of_quiet rest _ h
end

attribute [local irreducible] wpStill
set_option maxRecDepth 100000 in
set_option maxHeartbeats 8000000 in
theorem merge1_in (n : Nat) (hn : 1 ≤ n) (l B1 B2 n₀ : Nat) (S : List Nat) (ao bo : Option Addr) (ca cb : Nat) (a b : List (Int × Int))
    (W : World) (J Jx : List (Fin (mg a b).length) → World → Prop) (hab : AbidesFrom W.heap.size J)
    (hY : ∀ pre x W, J pre W → pre.length < (mg a b).length → YieldAt Fence.wide (n - 1) Try.prog l (encP (mg a b) x) W fun e W' =>
      (e = .returned (.bool true) ∧ J (pre ++ [x]) W' ∧ FrB n₀ S W W') ∨ (e = .returned (.bool false) ∧ Jx (pre ++ [x]) W'))
    (hB1 : W.cell? ⟨B1, 0, none⟩ = some (.slice ao a.length ca)) (hB2 : W.cell? ⟨B2, 0, none⟩ = some (.slice bo b.length cb)) (hn₀ : n₀ ≤ W.heap.size) (h1 : B1 < n₀ ∧ B1 ∉ S) (h2 : B2 < n₀ ∧ B2 ∉ S)
    (ha : Rd W 2 ao a.length (a.flatMap clV)) (hb : Rd W 2 bo b.length (b.flatMap clV)) (ha1 : ∀ k ∈ blk ao, k < n₀ ∧ k ∉ S) (hb1 : ∀ k ∈ blk bo, k < n₀ ∧ k ∉ S) (h0 : J [] W) :
    CallsIn Fence.wide n Try.prog 56 #[.func (.yield l) #[] #[], .pointer (some ⟨B1, 0, none⟩), .pointer (some ⟨B2, 0, none⟩)] W fun e W' => (∃ v, e = .returned v) ∧
      ((∃ ys, ys = fw (mg a b).length (mg a b).length ∧ J ys W') ∨ (∃ pre, True ∧ Jx pre W')) := by
  have hla : a.length ≤ 9223372036854775807 := by have := ha.2.1; unfold maxLen at *; omega
  have hlb : b.length ≤ 9223372036854775807 := by have := hb.2.1; unfold maxLen at *; omega
  have HAB := Lib.hid hab
  have HY := Lib.hid hY
  have HAR := Lib.hid (fun (u : World) (hu : FrB n₀ S W u) => (ha.kept fun k hk => hu.block k (ha1 k hk).1 (ha1 k hk).2 : Rd u 2 ao a.length (a.flatMap clV)))
  have HBR := Lib.hid (fun (u : World) (hu : FrB n₀ S W u) => (hb.kept fun k hk => hu.block k (hb1 k hk).1 (hb1 k hk).2 : Rd u 2 bo b.length (b.flatMap clV)))
  have HC1 := Lib.hid (fun (u : World) (hu : FrB n₀ S W u) => (hu.cell (p := ⟨B1, 0, none⟩) h1.1 h1.2).trans hB1)
  have HC2 := Lib.hid (fun (u : World) (hu : FrB n₀ S W u) => (hu.cell (p := ⟨B2, 0, none⟩) h2.1 h2.2).trans hB2)
  have HJ0 := Lib.hid h0
  have HL1 := Lib.hid h1.1
  have HL2 := Lib.hid h2.1
  clear hab hY ha hb ha1 hb1 h1 h2 h0
  refine callsIn_of_wp Try.func56 rfl trivial ?_ rfl
  simp only [Try.ntmps56, List.size_toArray, List.length_cons, List.length_nil, Nat.reduceAdd, Nat.reduceSub, Array.replicate_succ, Array.replicate_zero, List.push_toArray, List.append_toArray, List.nil_append, List.cons_append]
  gi_wp2
  gi_loopw [4, 5] (fun iv jv wr => ∃ i j k : Nat, i ≤ a.length ∧ j ≤ b.length ∧ iv = .int .i64 i ∧ jv = .int .i64 j ∧ (mg a b).drop k = mg (a.drop i) (b.drop j) ∧ J (fw (mg a b).length k) wr ∧ FrB n₀ S W wr ∧ k ≤ i + j)
    (fun iv jv _ => a.length + b.length - (intOf iv).toNat - (intOf jv).toNat)
  case atStart => exact ⟨0, 0, 0, by omega, by omega, rfl, rfl, rfl, HJ0.out, FrB.refl _ _ _, by omega⟩
  case round =>
    obtain ⟨i, j, k, hi, hj, rfl, rfl, hd, hJ, hfr, hk⟩ := hrel
    have c1 := HC1.out _ hfr
    have c2 := HC2.out _ hfr
    have hl1 : B1 < wr.heap.size := by have := hfr.size; have := HL1.out; omega
    have hl2 : B2 < wr.heap.size := by have := hfr.size; have := HL2.out; omega
    have HJ := Lib.hid hJ
    have HFR := Lib.hid hfr
    have HD := Lib.hid hd
    clear hJ hfr hd
    by_cases hil : i < a.length
    · obtain ⟨g, off, rfl, hg, ca0, ca1⟩ := (HAR.out _ HFR.out).cel hil
      obtain ⟨x, hx⟩ : ∃ x, x = a[i] := ⟨_, rfl⟩
      rw [← hx] at ca0 ca1
      have HX := Lib.hid hx
      clear hx
      have hine : ((i : Int) == (a.length : Int)) = false := beq_eq_false_iff_ne.2 (by omega)
      by_cases hjl : j < b.length
      · obtain ⟨g2, off2, rfl, hg2, cb0, cb1⟩ := (HBR.out _ HFR.out).cel hjl
        obtain ⟨y, hyy⟩ : ∃ y, y = b[j] := ⟨_, rfl⟩
        rw [← hyy] at cb0 cb1
        have HYY := Lib.hid hyy
        clear hyy
        have hjne : ((j : Int) == (b.length : Int)) = false := beq_eq_false_iff_ne.2 (by omega)
        by_cases hlt : x.1 < y.1
        · have hle : x.1 ≤ y.1 := by omega
          have hnle : ¬ y.1 ≤ x.1 := by omega
          have hd1 : decide (x.1 ≤ y.1) = true := decide_eq_true hle
          have hd2 : decide (y.1 ≤ x.1) = false := decide_eq_false hnle
          clear hlt hle hnle
          have HLT := Lib.hid (of_decide_eq_false hd2)
          gi_wp2
          refine wpIn_wide.2 ?_
          refine wp_still_tail 24 (by kernel_rfl) (by kernel_rfl) ?_
          simp only [List.take_succ_cons, List.take_zero, List.drop_succ_cons, List.drop_zero]
          repeat still_step
          refine wpStill_nil ?_
          go_wp2
          gi_wp2
          refine wpIn_wide.2 ?_
          refine wp_still_tail 24 (by kernel_rfl) (by kernel_rfl) ?_
          simp only [List.take_succ_cons, List.take_zero, List.drop_succ_cons, List.drop_zero]
          repeat still_step
          refine wpStill_nil ?_
          go_wp2
          gi_upto_region 11 with fail
          obtain ⟨hkl, hpk, hdk⟩ := mg_step (p := prB x) (r := mg (a.drop (i + 1)) (b.drop (j))) HD.out (by
            rw [List.drop_eq_getElem_cons hil, List.drop_eq_getElem_cons hjl, ← HX.out, ← HYY.out, mg_lt (by have := HLT.out; omega)])
          have hbk : ((wr.alloc (pC (prB x))).drew.drew).heap[wr.heap.size]? = some (pC (prB x)) := alloc_new wr (pC (prB x))
          have hfy : Fr [] wr ((wr.alloc (pC (prB x))).drew.drew) := (((Fr.refl _ _).alloc _).drew).drew
          unfold pC prB at hbk hfy
          simp only at hbk hfy
          obtain ⟨Wy, hWy⟩ : ∃ Wy, Wy = (wr.alloc (.cells #[.int .i64 x.1, .int .i64 x.2, .int .i64 0, .int .i64 0, .bool true, .bool false] 92)).drew.drew := ⟨_, rfl⟩
          rw [← hWy] at hbk hfy ⊢
          clear hWy
          have z0 := cell_blk hbk 0
          have z1 := cell_blk hbk 1
          have z2 := cell_blk hbk 2
          have z3 := cell_blk hbk 3
          have z4 := cell_blk hbk 4
          have z5 := cell_blk hbk 5
          simp at z0 z1 z2 z3 z4 z5
          obtain ⟨fn, tmps, assign, body, hy, hR⟩ := HY.out _ ⟨k, hkl⟩ Wy (HAB.out _ _ _ none HJ.out hfy.grown0 (fun r e => by cases e)) (by rw [fw_length _ _ (by omega)]; exact hkl)
          simp only [encP, Fin.getElem_fin] at hy
          rw [hpk] at hy
          simp only [pV, prB] at hy
          have HR := Lib.hid hR
          have HFY := Lib.hid hfy
          have HDK := Lib.hid hdk
          clear hR hfy hdk hbk hpk
          gi_wp2
          refine HR.out.mono ?_
          rintro e W3 (⟨rfl, hJ3, hk3⟩ | ⟨rfl, hJx3⟩)
          · have HJ3 := Lib.hid hJ3
            have HK3 := Lib.hid hk3
            clear hJ3 hk3
            gi_wp2
            go_roundw
            case rel => exact ⟨i + 1, j, k + 1, by omega, by omega, by go_num, by go_num, HDK.out, by rw [fw_succ _ _ hkl]; exact HJ3.out, (HFR.out.trans (FrB.ofFr (HFY.out.mono (by simp)) (by have := HFR.out.size; omega))).trans HK3.out, by omega⟩
            case measure => simp [intOf]; omega
          · gi_wp2
            refine bodyPost_ret (results_none rfl _ _ _) rfl ?_
            exact ⟨⟨_, rfl⟩, .inr ⟨_, trivial, hJx3⟩⟩
        · by_cases hgt : y.1 < x.1
          · have hle : y.1 ≤ x.1 := by omega
            have hnle : ¬ x.1 ≤ y.1 := by omega
            have hd1 : decide (y.1 ≤ x.1) = true := decide_eq_true hle
            have hd2 : decide (x.1 ≤ y.1) = false := decide_eq_false hnle
            clear hgt hle hnle hlt
            have HLT := Lib.hid (of_decide_eq_false hd2)
            gi_wp2
            refine wpIn_wide.2 ?_
            refine wp_still_tail 24 (by kernel_rfl) (by kernel_rfl) ?_
            simp only [List.take_succ_cons, List.take_zero, List.drop_succ_cons, List.drop_zero]
            repeat still_step
            refine wpStill_nil ?_
            go_wp2
            gi_wp2
            refine wpIn_wide.2 ?_
            refine wp_still_tail 24 (by kernel_rfl) (by kernel_rfl) ?_
            simp only [List.take_succ_cons, List.take_zero, List.drop_succ_cons, List.drop_zero]
            repeat still_step
            refine wpStill_nil ?_
            go_wp2
            gi_upto_region 11 with fail
            obtain ⟨hkl, hpk, hdk⟩ := mg_step (p := prA y) (r := mg (a.drop (i)) (b.drop (j + 1))) HD.out (by
              rw [List.drop_eq_getElem_cons hil, List.drop_eq_getElem_cons hjl, ← HX.out, ← HYY.out, mg_gt (by have := HLT.out; omega)])
            have hbk : ((wr.alloc (pC (prA y))).drew.drew).heap[wr.heap.size]? = some (pC (prA y)) := alloc_new wr (pC (prA y))
            have hfy : Fr [] wr ((wr.alloc (pC (prA y))).drew.drew) := (((Fr.refl _ _).alloc _).drew).drew
            unfold pC prA at hbk hfy
            simp only at hbk hfy
            obtain ⟨Wy, hWy⟩ : ∃ Wy, Wy = (wr.alloc (.cells #[.int .i64 0, .int .i64 0, .int .i64 y.1, .int .i64 y.2, .bool false, .bool true] 92)).drew.drew := ⟨_, rfl⟩
            rw [← hWy] at hbk hfy ⊢
            clear hWy
            have z0 := cell_blk hbk 0
            have z1 := cell_blk hbk 1
            have z2 := cell_blk hbk 2
            have z3 := cell_blk hbk 3
            have z4 := cell_blk hbk 4
            have z5 := cell_blk hbk 5
            simp at z0 z1 z2 z3 z4 z5
            obtain ⟨fn, tmps, assign, body, hy, hR⟩ := HY.out _ ⟨k, hkl⟩ Wy (HAB.out _ _ _ none HJ.out hfy.grown0 (fun r e => by cases e)) (by rw [fw_length _ _ (by omega)]; exact hkl)
            simp only [encP, Fin.getElem_fin] at hy
            rw [hpk] at hy
            simp only [pV, prA] at hy
            have HR := Lib.hid hR
            have HFY := Lib.hid hfy
            have HDK := Lib.hid hdk
            clear hR hfy hdk hbk hpk
            gi_wp2
            refine HR.out.mono ?_
            rintro e W3 (⟨rfl, hJ3, hk3⟩ | ⟨rfl, hJx3⟩)
            · have HJ3 := Lib.hid hJ3
              have HK3 := Lib.hid hk3
              clear hJ3 hk3
              gi_wp2
              go_roundw
              case rel => exact ⟨i, j + 1, k + 1, by omega, by omega, by go_num, by go_num, HDK.out, by rw [fw_succ _ _ hkl]; exact HJ3.out, (HFR.out.trans (FrB.ofFr (HFY.out.mono (by simp)) (by have := HFR.out.size; omega))).trans HK3.out, by omega⟩
              case measure => simp [intOf]; omega
            · gi_wp2
              refine bodyPost_ret (results_none rfl _ _ _) rfl ?_
              exact ⟨⟨_, rfl⟩, .inr ⟨_, trivial, hJx3⟩⟩
          · have hle : x.1 ≤ y.1 := by omega
            have hle2 : y.1 ≤ x.1 := by omega
            gi_wp2
            refine wpIn_wide.2 ?_
            refine wp_still_tail 24 (by kernel_rfl) (by kernel_rfl) ?_
            simp only [List.take_succ_cons, List.take_zero, List.drop_succ_cons, List.drop_zero]
            repeat still_step
            refine wpStill_nil ?_
            go_wp2
            gi_wp2
            refine wpIn_wide.2 ?_
            refine wp_still_tail 24 (by kernel_rfl) (by kernel_rfl) ?_
            simp only [List.take_succ_cons, List.take_zero, List.drop_succ_cons, List.drop_zero]
            repeat still_step
            refine wpStill_nil ?_
            go_wp2
            gi_upto_region 11 with fail
            obtain ⟨hkl, hpk, hdk⟩ := mg_step (p := prX x y) (r := mg (a.drop (i + 1)) (b.drop (j + 1))) HD.out (by
              rw [List.drop_eq_getElem_cons hil, List.drop_eq_getElem_cons hjl, ← HX.out, ← HYY.out, mg_eq (by omega)])
            have hbk : ((wr.alloc (pC (prX x y))).drew.drew).heap[wr.heap.size]? = some (pC (prX x y)) := alloc_new wr (pC (prX x y))
            have hfy : Fr [] wr ((wr.alloc (pC (prX x y))).drew.drew) := (((Fr.refl _ _).alloc _).drew).drew
            unfold pC prX at hbk hfy
            simp only at hbk hfy
            obtain ⟨Wy, hWy⟩ : ∃ Wy, Wy = (wr.alloc (.cells #[.int .i64 x.1, .int .i64 x.2, .int .i64 y.1, .int .i64 y.2, .bool true, .bool true] 92)).drew.drew := ⟨_, rfl⟩
            rw [← hWy] at hbk hfy ⊢
            clear hWy
            have z0 := cell_blk hbk 0
            have z1 := cell_blk hbk 1
            have z2 := cell_blk hbk 2
            have z3 := cell_blk hbk 3
            have z4 := cell_blk hbk 4
            have z5 := cell_blk hbk 5
            simp at z0 z1 z2 z3 z4 z5
            obtain ⟨fn, tmps, assign, body, hy, hR⟩ := HY.out _ ⟨k, hkl⟩ Wy (HAB.out _ _ _ none HJ.out hfy.grown0 (fun r e => by cases e)) (by rw [fw_length _ _ (by omega)]; exact hkl)
            simp only [encP, Fin.getElem_fin] at hy
            rw [hpk] at hy
            simp only [pV, prX] at hy
            have HR := Lib.hid hR
            have HFY := Lib.hid hfy
            have HDK := Lib.hid hdk
            clear hR hfy hdk hbk hpk
            gi_wp2
            refine HR.out.mono ?_
            rintro e W3 (⟨rfl, hJ3, hk3⟩ | ⟨rfl, hJx3⟩)
            · have HJ3 := Lib.hid hJ3
              have HK3 := Lib.hid hk3
              clear hJ3 hk3
              gi_wp2
              go_roundw
              case rel => exact ⟨i + 1, j + 1, k + 1, by omega, by omega, by go_num, by go_num, HDK.out, by rw [fw_succ _ _ hkl]; exact HJ3.out, (HFR.out.trans (FrB.ofFr (HFY.out.mono (by simp)) (by have := HFR.out.size; omega))).trans HK3.out, by omega⟩
              case measure => simp [intOf]; omega
            · gi_wp2
              refine bodyPost_ret (results_none rfl _ _ _) rfl ?_
              exact ⟨⟨_, rfl⟩, .inr ⟨_, trivial, hJx3⟩⟩
      · have hje : ((j : Int) == (b.length : Int)) = true := beq_iff_eq.2 (by omega)
        gi_wp2
        refine wpIn_wide.2 ?_
        refine wp_still_tail 24 (by kernel_rfl) (by kernel_rfl) ?_
        simp only [List.take_succ_cons, List.take_zero, List.drop_succ_cons, List.drop_zero]
        repeat still_step
        refine wpStill_nil ?_
        go_wp2
        gi_wp2
        refine wpIn_wide.2 ?_
        refine wp_still_tail 24 (by kernel_rfl) (by kernel_rfl) ?_
        simp only [List.take_succ_cons, List.take_zero, List.drop_succ_cons, List.drop_zero]
        repeat still_step
        refine wpStill_nil ?_
        go_wp2
        gi_upto_region 11 with fail
        obtain ⟨hkl, hpk, hdk⟩ := mg_step (p := prB x) (r := mg (a.drop (i + 1)) (b.drop (j))) HD.out (by
          rw [List.drop_of_length_le (show b.length ≤ j by omega), List.drop_eq_getElem_cons hil, ← HX.out, mg_nil', mg_nil', List.map_cons])
        have hbk : ((wr.alloc (pC (prB x))).drew.drew).heap[wr.heap.size]? = some (pC (prB x)) := alloc_new wr (pC (prB x))
        have hfy : Fr [] wr ((wr.alloc (pC (prB x))).drew.drew) := (((Fr.refl _ _).alloc _).drew).drew
        unfold pC prB at hbk hfy
        simp only at hbk hfy
        obtain ⟨Wy, hWy⟩ : ∃ Wy, Wy = (wr.alloc (.cells #[.int .i64 x.1, .int .i64 x.2, .int .i64 0, .int .i64 0, .bool true, .bool false] 92)).drew.drew := ⟨_, rfl⟩
        rw [← hWy] at hbk hfy ⊢
        clear hWy
        have z0 := cell_blk hbk 0
        have z1 := cell_blk hbk 1
        have z2 := cell_blk hbk 2
        have z3 := cell_blk hbk 3
        have z4 := cell_blk hbk 4
        have z5 := cell_blk hbk 5
        simp at z0 z1 z2 z3 z4 z5
        obtain ⟨fn, tmps, assign, body, hy, hR⟩ := HY.out _ ⟨k, hkl⟩ Wy (HAB.out _ _ _ none HJ.out hfy.grown0 (fun r e => by cases e)) (by rw [fw_length _ _ (by omega)]; exact hkl)
        simp only [encP, Fin.getElem_fin] at hy
        rw [hpk] at hy
        simp only [pV, prB] at hy
        have HR := Lib.hid hR
        have HFY := Lib.hid hfy
        have HDK := Lib.hid hdk
        clear hR hfy hdk hbk hpk
        gi_wp2
        refine HR.out.mono ?_
        rintro e W3 (⟨rfl, hJ3, hk3⟩ | ⟨rfl, hJx3⟩)
        · have HJ3 := Lib.hid hJ3
          have HK3 := Lib.hid hk3
          clear hJ3 hk3
          gi_wp2
          go_roundw
          case rel => exact ⟨i + 1, j, k + 1, by omega, by omega, by go_num, by go_num, HDK.out, by rw [fw_succ _ _ hkl]; exact HJ3.out, (HFR.out.trans (FrB.ofFr (HFY.out.mono (by simp)) (by have := HFR.out.size; omega))).trans HK3.out, by omega⟩
          case measure => simp [intOf]; omega
        · gi_wp2
          refine bodyPost_ret (results_none rfl _ _ _) rfl ?_
          exact ⟨⟨_, rfl⟩, .inr ⟨_, trivial, hJx3⟩⟩
    · have hie : ((i : Int) == (a.length : Int)) = true := beq_iff_eq.2 (by omega)
      by_cases hjl : j < b.length
      · obtain ⟨g2, off2, rfl, hg2, cb0, cb1⟩ := (HBR.out _ HFR.out).cel hjl
        obtain ⟨y, hyy⟩ : ∃ y, y = b[j] := ⟨_, rfl⟩
        rw [← hyy] at cb0 cb1
        have HYY := Lib.hid hyy
        clear hyy
        gi_wp2
        refine wpIn_wide.2 ?_
        refine wp_still_tail 24 (by kernel_rfl) (by kernel_rfl) ?_
        simp only [List.take_succ_cons, List.take_zero, List.drop_succ_cons, List.drop_zero]
        repeat still_step
        refine wpStill_nil ?_
        go_wp2
        gi_wp2
        refine wpIn_wide.2 ?_
        refine wp_still_tail 24 (by kernel_rfl) (by kernel_rfl) ?_
        simp only [List.take_succ_cons, List.take_zero, List.drop_succ_cons, List.drop_zero]
        repeat still_step
        refine wpStill_nil ?_
        go_wp2
        gi_upto_region 11 with fail
        obtain ⟨hkl, hpk, hdk⟩ := mg_step (p := prA y) (r := mg (a.drop (i)) (b.drop (j + 1))) HD.out (by
          rw [List.drop_of_length_le (show a.length ≤ i by omega), List.drop_eq_getElem_cons hjl, ← HYY.out, mg_nil, mg_nil, List.map_cons])
        have hbk : ((wr.alloc (pC (prA y))).drew.drew).heap[wr.heap.size]? = some (pC (prA y)) := alloc_new wr (pC (prA y))
        have hfy : Fr [] wr ((wr.alloc (pC (prA y))).drew.drew) := (((Fr.refl _ _).alloc _).drew).drew
        unfold pC prA at hbk hfy
        simp only at hbk hfy
        obtain ⟨Wy, hWy⟩ : ∃ Wy, Wy = (wr.alloc (.cells #[.int .i64 0, .int .i64 0, .int .i64 y.1, .int .i64 y.2, .bool false, .bool true] 92)).drew.drew := ⟨_, rfl⟩
        rw [← hWy] at hbk hfy ⊢
        clear hWy
        have z0 := cell_blk hbk 0
        have z1 := cell_blk hbk 1
        have z2 := cell_blk hbk 2
        have z3 := cell_blk hbk 3
        have z4 := cell_blk hbk 4
        have z5 := cell_blk hbk 5
        simp at z0 z1 z2 z3 z4 z5
        obtain ⟨fn, tmps, assign, body, hy, hR⟩ := HY.out _ ⟨k, hkl⟩ Wy (HAB.out _ _ _ none HJ.out hfy.grown0 (fun r e => by cases e)) (by rw [fw_length _ _ (by omega)]; exact hkl)
        simp only [encP, Fin.getElem_fin] at hy
        rw [hpk] at hy
        simp only [pV, prA] at hy
        have HR := Lib.hid hR
        have HFY := Lib.hid hfy
        have HDK := Lib.hid hdk
        clear hR hfy hdk hbk hpk
        gi_wp2
        refine HR.out.mono ?_
        rintro e W3 (⟨rfl, hJ3, hk3⟩ | ⟨rfl, hJx3⟩)
        · have HJ3 := Lib.hid hJ3
          have HK3 := Lib.hid hk3
          clear hJ3 hk3
          gi_wp2
          go_roundw
          case rel => exact ⟨i, j + 1, k + 1, by omega, by omega, by go_num, by go_num, HDK.out, by rw [fw_succ _ _ hkl]; exact HJ3.out, (HFR.out.trans (FrB.ofFr (HFY.out.mono (by simp)) (by have := HFR.out.size; omega))).trans HK3.out, by omega⟩
          case measure => simp [intOf]; omega
        · gi_wp2
          refine bodyPost_ret (results_none rfl _ _ _) rfl ?_
          exact ⟨⟨_, rfl⟩, .inr ⟨_, trivial, hJx3⟩⟩
      · have hend : (mg a b).length ≤ k := by
          have h := HD.out
          rw [List.drop_of_length_le (show a.length ≤ i by omega), List.drop_of_length_le (show b.length ≤ j by omega), mg_nil, List.map_nil] at h
          exact List.drop_eq_nil_iff.1 h
        have HJE := Lib.hid (by rw [← fw_all _ _ hend]; exact HJ.out : J (fw (mg a b).length (mg a b).length) wr)
        clear hend
        gi_wp2
        go_end0
        exact ⟨⟨_, rfl⟩, .inl ⟨_, rfl, HJE.out⟩⟩
end Go.Proofs.Ytodfeaipoagphaa
/- Package snapshot: merge, and its iterator as the range over a function takes it. -/
namespace Go.Proofs.Ytodfeaipoagphaa
open Go.RowKit Go.Shelf

theorem merge_in (n : Nat) (ao bo : Option Addr) (la ca lb cb : Nat) (w : World) :
    CallsIn Fence.wide n Try.prog 41 #[.slice ao la ca, .slice bo lb cb] w fun e w' => e = .returned (.func (.func 56) #[] #[.pointer (some ⟨w.heap.size, 0, none⟩), .pointer (some ⟨w.heap.size + 1, 0, none⟩)]) ∧ w' = (w.alloc (.cells #[.slice ao la ca] 30)).alloc (.cells #[.slice bo lb cb] 30) := by
  refine callsIn_of_wp Try.func41 rfl trivial ?_ rfl
  simp only [Try.ntmps41, List.size_toArray, List.length_cons, List.length_nil, Nat.reduceAdd, Nat.reduceSub, Array.replicate_succ, Array.replicate_zero, List.push_toArray, List.append_toArray, List.nil_append, List.cons_append]
  gi_wp2
  go_ret
  exact ⟨rfl, rfl⟩

theorem merge_stops (n : Nat) (hn : 1 ≤ n) (B1 B2 : Nat) (S : List Nat) (ao bo : Option Addr) (ca cb : Nat) (a b : List (Int × Int)) (w : World)
    (hB1 : w.cell? ⟨B1, 0, none⟩ = some (.slice ao a.length ca)) (hB2 : w.cell? ⟨B2, 0, none⟩ = some (.slice bo b.length cb)) (h1 : B1 < w.heap.size ∧ B1 ∉ S) (h2 : B2 < w.heap.size ∧ B2 ∉ S)
    (ha : Rd w 2 ao a.length (a.flatMap clV)) (hb : Rd w 2 bo b.length (b.flatMap clV)) (ha1 : ∀ k ∈ blk ao, k < w.heap.size ∧ k ∉ S) (hb1 : ∀ k ∈ blk bo, k < w.heap.size ∧ k ∉ S) :
    SeqStopsK Fence.wide n Try.prog 56 #[.pointer (some ⟨B1, 0, none⟩), .pointer (some ⟨B2, 0, none⟩)] (encP (mg a b)) (FrB w.heap.size S) (fun ys => ys = fw (mg a b).length (mg a b).length) (fun _ => True) (mg a b).length w := fun l J Jx W hW hab _ hY h0 =>
  merge1_in n hn l B1 B2 w.heap.size S ao bo ca cb a b W J Jx hab hY ((hW.cell (p := ⟨B1, 0, none⟩) h1.1).trans hB1) ((hW.cell (p := ⟨B2, 0, none⟩) h2.1).trans hB2) hW.size h1 h2
    (ha.kept fun k hk => hW.block k (ha1 k hk).1) (hb.kept fun k hk => hW.block k (hb1 k hk).1) ha1 hb1 h0
end Go.Proofs.Ytodfeaipoagphaa
/- Package snapshot: the closure that gaps returns, for any two indices. -/
namespace Go.Proofs.Ytodfeaipoagphaa
open Go.RowKit

def gpN (prev k : Int) : Nat := ((k - prev - 1) % 18446744073709551616).toNat
theorem gpN_lt (prev k : Int) : gpN prev k < 18446744073709551616 := by unfold gpN; omega
theorem gpN_up {prev k : Int} (h0 : -1 ≤ prev) (h : prev < k) (h2 : k ≤ 2147483647) : gpN prev k = (k - prev - 1).toNat := by unfold gpN; omega
set_option maxHeartbeats 1000000 in
theorem gap_gen (w : World) (p : Nat) (prev k : Int) (hp : w.heap[p]? = some (.cells #[.int .i64 prev] 3 (0, 0))) (h0 : -1 ≤ prev) (h1 : prev ≤ 2147483647) (h2 : 0 ≤ k) (h3 : k ≤ 2147483647) :
    Calls Try.prog 55 #[.int .i64 k, .pointer (some ⟨p, 0, none⟩)] w fun e w' => e = .returned (.int .u64 ((gpN prev k : Nat) : Int)) ∧ w' = w.setCell ⟨p, 0, none⟩ (.int .i64 k) := by
  have c := cell_blk hp 0
  have f := frozen_blk hp 0
  simp at c
  have hm : IntKind.u64.wrap (k - prev - 1) = ((gpN prev k : Nat) : Int) := by rw [IntKind.wrap_u64]; unfold gpN; omega
  have w1 : IntKind.i64.wrap (k - prev) = k - prev := IntWalk.i64_in _ (by omega)
  have w2 : IntKind.i64.wrap (k - prev - 1) = k - prev - 1 := IntWalk.i64_in _ (by omega)
  obtain ⟨m, hmm⟩ : ∃ m, m = gpN prev k := ⟨_, rfl⟩
  rw [← hmm] at hm ⊢
  clear hp hmm
  go_enter Try.func55, Try.ntmps55
  go_wp2
  go_ret
  exact ⟨rfl, rfl⟩
end Go.Proofs.Ytodfeaipoagphaa
/- Chapter 28, plain: the bytes that Diff gathers, place by place, for pairs in any order. -/
namespace Go.Proofs.Ytodfeaipoagphaa
open Go.RowKit

def lastI (prev : Int) (l : List Int) : Int := l.getLastD prev
theorem lastI_snoc (prev : Int) (l : List Int) (k : Int) : lastI prev (l ++ [k]) = k := by simp [lastI]
theorem lastI_cons (prev k : Int) (l : List Int) : lastI prev (k :: l) = lastI k l := by cases l <;> rfl
def gG (prev : Int) : List Int → List Nat
  | [] => []
  | k :: r => varN (gpN prev k) ++ gG k r
def gD (prev : Int) : List (Int × Int × Int) → List Nat
  | [] => []
  | y :: r => varN (gpN prev y.1) ++ varN (zz (wrap64 (y.2.1 - y.2.2))) ++ gD y.1 r
theorem gG_snoc : ∀ (l : List Int) (prev k : Int), gG prev (l ++ [k]) = gG prev l ++ varN (gpN (lastI prev l) k)
  | [], prev, k => by simp [gG, lastI]
  | x :: l, prev, k => by rw [List.cons_append, gG, gG_snoc l x k, lastI_cons, gG, List.append_assoc]
theorem gD_snoc : ∀ (l : List (Int × Int × Int)) (prev : Int) (y : Int × Int × Int), gD prev (l ++ [y]) = gD prev l ++ varN (gpN (lastI prev (l.map (·.1))) y.1) ++ varN (zz (wrap64 (y.2.1 - y.2.2)))
  | [], prev, y => by simp [gD, lastI]
  | x :: l, prev, y => by rw [List.cons_append, gD, gD_snoc l x.1 y, List.map_cons, lastI_cons, gD]; simp only [List.append_assoc]
theorem gG_enc : ∀ (l : List Int) (prev : Int), -1 ≤ prev → l.Pairwise (· < ·) → (∀ k ∈ l, prev < k ∧ k ≤ 2147483647) → gG prev l = encG prev l
  | [], _, _, _, _ => rfl
  | k :: l, prev, h0, hp, hk => by
    have h1 := hk k (by simp)
    rw [gG, encG, gpN_up h0 h1.1 h1.2, gG_enc l k (by omega) (List.pairwise_cons.1 hp).2 (fun x hx => ⟨(List.pairwise_cons.1 hp).1 x hx, (hk x (by simp [hx])).2⟩)]
theorem gD_enc : ∀ (l : List (Int × Int × Int)) (prev : Int), -1 ≤ prev → l.Pairwise (fun x y => x.1 < y.1) → (∀ k ∈ l, prev < k.1 ∧ k.1 ≤ 2147483647) → gD prev l = encD prev l
  | [], _, _, _, _ => rfl
  | k :: l, prev, h0, hp, hk => by
    have h1 := hk k (by simp)
    rw [gD, encD, gpN_up h0 h1.1 h1.2, gD_enc l k.1 (by omega) (List.pairwise_cons.1 hp).2 (fun x hx => ⟨(List.pairwise_cons.1 hp).1 x hx, (hk x (by simp [hx])).2⟩)]
end Go.Proofs.Ytodfeaipoagphaa
/- A region that draws its order, inside a round of a range over a function, walked under a condition that holds all the way (calls allowed). -/
namespace Go.Proofs.Ytodfeaipoagphaa
open Go.RowKit

def noDef (ops : Array Oper) : Bool := ops.all fun o => match o.op with | .defer _ => false | _ => true
theorem noDef_spec {ops : Array Oper} (h : noDef ops = true) {i : Nat} {o : Oper} (ho : ops[i]? = some o) : ∀ c, o.op ≠ .defer c := by
  intro c hc
  have h1 := Array.all_eq_true.1 h i (Array.getElem?_eq_some_iff.1 ho).1
  rw [(Array.getElem?_eq_some_iff.1 ho).2, hc] at h1
  cases h1
theorem opsInC_of_ops {l n : Nat} {P : Program} {ops : Array Oper} {Q : Exit → Act → World → Prop} (hd : noDef ops = true) (L : List Nat) :
    ∀ (a : Act) (w : World), wpOps P ops (onlyNormal Q) L a w → wpOpsIn (Fence.wide.inRound l) n P ops Q L a w := by
  induction L with
  | nil => intro a w h; exact h.2
  | cons i rest ih =>
    intro a w h
    simp only [wpOps] at h
    simp only [wpOpsIn]
    cases ho : ops[i]? with
    | none => simp only [ho] at h ⊢; exact ih a w h
    | some o =>
      simp only [ho] at h ⊢
      by_cases hw : Region.wanted o (yielded ops a.tmps) = true
      · simp only [hw, if_true] at h ⊢
        rcases h with h | ⟨_, a₀, w₀, hq⟩
        case inr => exact absurd hq.1 (by intro e; cases e)
        refine ⟨fun _ _ => trivial, ?_⟩
        rw [Fence.inRound_round, Oper.semAt_some l a.eval o (noDef_spec hd ho)]
        unfold Oper.wp at h
        generalize (execOp a.eval o).run P w = r at h ⊢
        cases r with
        | ok x w' =>
          cases x <;> simp only [Oper.upon, Oper.uponIn] at h ⊢
          case value v => exact ih _ _ h
          case skip => exact ih _ _ h
          case defer d => exact ih _ _ h
          case enter f args =>
            refine ⟨fun he => by simp [Fence.wide, Fence.inRound] at he, CallsIn.inRound l ((callsIn_wide.2 h).mono fun e w'' he => ?_)⟩
            cases e with
            | returned v => exact ih _ _ he
            | panicked chain => exact absurd he.1 (by intro e; cases e)
            | outgrown => obtain ⟨a₀, w₀, hq⟩ := he; exact absurd hq.1 (by intro e; cases e)
          case row rw' args =>
            refine ⟨fun he => by simp [Fence.wide, Fence.inRound] at he, fun c cs _ => ?_⟩
            obtain ⟨v, w'', hv, hs⟩ := h c cs
            exact ⟨v, w'', ih _ _ hv, stepsIn_wide.2 hs⟩
        | halt x w' => cases x <;> simp only [Oper.upon, Oper.uponIn] at h ⊢ <;> exact absurd h.1 (by intro e; cases e)
      · simp only [hw, if_false, Bool.false_eq_true] at h ⊢
        exact ⟨fun _ _ => trivial, ih _ _ h⟩
theorem wpIn_round_held {l n : Nat} {P : Program} {id : Nat} {L : List Oper} {Q : Exit → Act → World → Prop} {a : Act} {w : World} {S : World → Prop} (hm : P.follows .mixedOrders = true) (hd : noDef L.toArray = true) (hS : S w.drew)
    (h : S w.drew → wpAnyH P .any L.toArray (onlyNormal Q) S L.toArray.size (Array.replicate L.toArray.size false) a w.drew) :
    (Code.region id L.toArray true).wpIn (Fence.wide.inRound l) n P Q a w :=
  wpIn_region_draw fun t => by
    simp only [Region.schedule, hm, Bool.true_or, if_true]
    exact opsInC_of_ops hd _ _ _ (wpAny_sound _ t _ a _ (wpAny_of_held _ _ _ _ (h hS)))
theorem wpIn_round_list {l n : Nat} {P : Program} {id : Nat} {L : List Oper} {Q : Exit → Act → World → Prop} {a : Act} {w : World} (hd : noDef L.toArray = true) (h : wpList P L.toArray (onlyNormal Q) L a w) :
    (Code.region id L.toArray false).wpIn (Fence.wide.inRound l) n P Q a w :=
  wpIn_region (by
    refine opsInC_of_ops hd _ a w ?_
    rw [List.range_eq_range', ← Array.length_toList, wpOps_eq_wpList L.toArray.toList 0 (by simp)]
    exact h)
end Go.Proofs.Ytodfeaipoagphaa
/- Package snapshot: what Diff's loop keeps; append of what a slice reads as. -/
namespace Go.Proofs.Ytodfeaipoagphaa
open Go.RowKit Go.Shelf

/-! ### append(x, y...) where y is any slice that reads as some cells -/
theorem run_append_rd {P : Program} (w : World) (t ty e : TypeId) (i : TypeInfo) (z : Value) (size bytes : Nat) (ht : P.underlying t = some (.slice e)) (hi : P.info? e = some i) (hz : i.zero = some z)
    (hsize : i.size = size) (hby : i.bytes = bytes) (hzs : z.cells.size = size) (hsz : 0 < size)
    (ao : Option Addr) (n cap : Nat) (xs : List Value) (hseg : Seg w e size ao n cap xs)
    (xo : Option Addr) (m c : Nat) (news : List Value) (hx : Rd w size xo m news) (h1 : ∀ u ∈ news, u.oneCell' = true)
    (h63 : n + m ≤ maxLen) (hbytes : (n + m) * bytes ≤ 140737488355328) :
    ∃ ao' cap' w', (Builtin.append_ #[t, t] ty #[.slice ao n cap, .slice xo m c]).run P w = .ok (.slice ao' (n + m) cap') w' ∧ Seg w' e size ao' (n + m) cap' (xs ++ news) ∧
      Fr (blk ao) w w' ∧ Ext (blk ao) w (blk ao') := by
  rcases Nat.eq_zero_or_pos m with h0 | h0
  · subst h0
    have hn : news = [] := List.eq_nil_of_length_eq_zero (by simpa using hx.1)
    subst hn
    refine ⟨ao, cap, w, ?_, by simpa using hseg, Fr.refl _ _, Ext.refl _ _⟩
    have hc : n ≤ cap := hseg.2.2.1
    cases ao <;> cases xo <;> simp [Builtin.append_, run_underlying ht, sizeOf, typeInfo, hi, Builtin.lenOf, Builtin.firstCells, loadCells, loadCellsFrom, hc, storeCells]
  · obtain ⟨g, off, rfl, hg, hc⟩ := hx.at h0
    refine run_append_seg w t ty e i z size bytes ht hi hz hsize hby hzs hsz ao n cap xs hseg ⟨g, off, none⟩ m c news hx.1 (fun j u hu => ?_) h1 h63 hbytes
    have hj : j < m * size := by have := (List.getElem?_eq_some_iff.1 hu).1; rw [hx.1] at this; exact this
    rw [Addr.add_mid, hc j hj]; exact hu
theorem wpList_append_rd {P : Program} {ops : Array Oper} {rest : List Oper} {o : Oper} {a : Act} {w : World} {Q : Exit → Act → World → Prop} (hgd : o.guard = none) (s x : Operand) (t : TypeId)
    (ho : o.op = .call { callee := .builtin .append, args := #[s, x], argTypes := #[t, t] })
    (e : TypeId) (i : TypeInfo) (z : Value) (size bytes : Nat) (ht : P.underlying t = some (.slice e)) (hi : P.info? e = some i) (hz : i.zero = some z)
    (hsize : i.size = size) (hby : i.bytes = bytes) (hzs : z.cells.size = size) (hsz : 0 < size)
    (ao : Option Addr) (n cap : Nat) (xs : List Value) (hs : a.eval s = .slice ao n cap) (hseg : Seg w e size ao n cap xs)
    (xo : Option Addr) (m c : Nat) (news : List Value) (hx : a.eval x = .slice xo m c) (hr : Rd w size xo m news) (h1 : ∀ u ∈ news, u.oneCell' = true)
    (h63 : n + m ≤ maxLen) (hbytes : (n + m) * bytes ≤ 140737488355328)
    (h : ∀ ao' cap' w', Seg w' e size ao' (n + m) cap' (xs ++ news) → Fr (blk ao) w w' → Ext (blk ao) w (blk ao') → wpList P ops Q rest (a.put o.dst (.slice ao' (n + m) cap')) w') :
    wpList P ops Q (o :: rest) a w := by
  refine wpList_plain hgd fun K hK => ?_
  obtain ⟨ao', cap', w', hrun, h2, h3, h4⟩ := run_append_rd (P := P) w t o.type e i z size bytes ht hi hz hsize hby hzs hsz ao n cap xs hseg xo m c news hr h1 h63 hbytes
  unfold Oper.wp execOp
  simp only [ho, resolve, invoke, builtin, Sem.run_bind, Sem.run_pure, Result.andThen_ok, List.map_toArray, List.map_cons, List.map_nil, hs, hx, hrun]
  exact hK _ _ (h ao' cap' w' h2 h3 h4)

/-! ### what the loop keeps -/
structure DifI (s : Nat) (go co : Option Addr) (gc cc : Nat) (G C : List Nat) (ng nc : Nat) (pg pc : Int) (W : World) : Prop where
  h5 : W.heap[s]? = some (.cells #[.slice go G.length gc] 33 (0, 0))
  h6 : W.heap[s + 1]? = some (.cells #[.slice co C.length cc] 33 (0, 0))
  h7 : W.heap[s + 2]? = some (.cells #[.int .i64 (ng : Int)] 3 (0, 0))
  h8 : W.heap[s + 3]? = some (.cells #[.int .i64 (nc : Int)] 3 (0, 0))
  hg : W.heap[s + 4]? = some (.cells #[.int .i64 pg] 3 (0, 0))
  hc : W.heap[s + 5]? = some (.cells #[.int .i64 pc] 3 (0, 0))
  h9 : W.heap[s + 6]? = some (.cells #[.func (.func 55) #[] #[.pointer (some ⟨s + 4, 0, none⟩)]] 86 (0, 0))
  h10 : W.heap[s + 7]? = some (.cells #[.func (.func 55) #[] #[.pointer (some ⟨s + 5, 0, none⟩)]] 86 (0, 0))
  sg : Seg W 5 1 go G.length gc (bts G)
  sc : Seg W 5 1 co C.length cc (bts C)
  gn : ∀ k ∈ blk go, s + 10 ≤ k
  cn : ∀ k ∈ blk co, s + 10 ≤ k
  dis : ∀ k ∈ blk go, k ∉ blk co
  sz : s + 10 ≤ W.heap.size

section
variable {s : Nat} {go co : Option Addr} {gc cc : Nat} {G C : List Nat} {ng nc : Nat} {pg pc : Int} {W W' : World}
/-- all the blocks that DifI tells of are blocks of cells and are kept -/
theorem DifI.kept (h : DifI s go co gc cc G C ng nc pg pc W) (hz : W.heap.size ≤ W'.heap.size) (hk : ∀ (k : Nat) (o : Obj), W.heap[k]? = some o → o.isCells = true → k ≠ s + 8 → W'.heap[k]? = some o) : DifI s go co gc cc G C ng nc pg pc W' :=
  have hs : ∀ {e : TypeId} {ao : Option Addr} {n cap : Nat} {xs : List Value}, Seg W e 1 ao n cap xs → (∀ k ∈ blk ao, s + 10 ≤ k) → Seg W' e 1 ao n cap xs := fun hs hb => by
    rcases hs.2.2.2 with ⟨rfl, h1⟩ | ⟨g, off, cur, rfl, hg, h1⟩
    · exact hs.same (fun k hk => by simp [blk] at hk)
    · refine hs.same (fun k hk' => ?_)
      simp [blk] at hk'
      subst hk'
      rw [hg]; exact hk _ _ hg rfl (by have := hb k (by simp [blk]); omega)
  ⟨hk _ _ h.h5 rfl (by omega), hk _ _ h.h6 rfl (by omega), hk _ _ h.h7 rfl (by omega), hk _ _ h.h8 rfl (by omega), hk _ _ h.hg rfl (by omega), hk _ _ h.hc rfl (by omega), hk _ _ h.h9 rfl (by omega), hk _ _ h.h10 rfl (by omega), hs h.sg h.gn, hs h.sc h.cn, h.gn, h.cn, h.dis, Nat.le_trans h.sz hz⟩
theorem DifI.fr (h : DifI s go co gc cc G C ng nc pg pc W) (hf : Fr [] W W') : DifI s go co gc cc G C ng nc pg pc W' := h.kept hf.size fun _ _ hk _ _ => hf.blk hk (by simp)
theorem DifI.set7 (h : DifI s go co gc cc G C ng nc pg pc W) (m : Nat) : DifI s go co gc cc G C m nc pg pc (W.setCell ⟨s + 2, 0, none⟩ (.int .i64 (m : Int))) := by
  refine ⟨(setCell_ne (by simp)).trans h.h5, (setCell_ne (by simp)).trans h.h6, setCell_blk h.h7 0 _, (setCell_ne (by simp)).trans h.h8, (setCell_ne (by simp)).trans h.hg, (setCell_ne (by simp)).trans h.hc, (setCell_ne (by simp)).trans h.h9, (setCell_ne (by simp)).trans h.h10, h.sg.setCell_other (fun hm => ?_), h.sc.setCell_other (fun hm => ?_), h.gn, h.cn, h.dis, by simpa using h.sz⟩
  · have := h.gn _ hm; simp at this
  · have := h.cn _ hm; simp at this
theorem DifI.set8 (h : DifI s go co gc cc G C ng nc pg pc W) (m : Nat) : DifI s go co gc cc G C ng m pg pc (W.setCell ⟨s + 3, 0, none⟩ (.int .i64 (m : Int))) := by
  refine ⟨(setCell_ne (by simp)).trans h.h5, (setCell_ne (by simp)).trans h.h6, (setCell_ne (by simp)).trans h.h7, setCell_blk h.h8 0 _, (setCell_ne (by simp)).trans h.hg, (setCell_ne (by simp)).trans h.hc, (setCell_ne (by simp)).trans h.h9, (setCell_ne (by simp)).trans h.h10, h.sg.setCell_other (fun hm => ?_), h.sc.setCell_other (fun hm => ?_), h.gn, h.cn, h.dis, by simpa using h.sz⟩
  · have := h.gn _ hm; simp at this
  · have := h.cn _ hm; simp at this
theorem DifI.setg (h : DifI s go co gc cc G C ng nc pg pc W) (k : Int) : DifI s go co gc cc G C ng nc k pc (W.setCell ⟨s + 4, 0, none⟩ (.int .i64 k)) := by
  refine ⟨(setCell_ne (by simp)).trans h.h5, (setCell_ne (by simp)).trans h.h6, (setCell_ne (by simp)).trans h.h7, (setCell_ne (by simp)).trans h.h8, setCell_blk h.hg 0 _, (setCell_ne (by simp)).trans h.hc, (setCell_ne (by simp)).trans h.h9, (setCell_ne (by simp)).trans h.h10, h.sg.setCell_other (fun hm => ?_), h.sc.setCell_other (fun hm => ?_), h.gn, h.cn, h.dis, by simpa using h.sz⟩
  · have := h.gn _ hm; simp at this
  · have := h.cn _ hm; simp at this
theorem DifI.setc (h : DifI s go co gc cc G C ng nc pg pc W) (k : Int) : DifI s go co gc cc G C ng nc pg k (W.setCell ⟨s + 5, 0, none⟩ (.int .i64 k)) := by
  refine ⟨(setCell_ne (by simp)).trans h.h5, (setCell_ne (by simp)).trans h.h6, (setCell_ne (by simp)).trans h.h7, (setCell_ne (by simp)).trans h.h8, (setCell_ne (by simp)).trans h.hg, setCell_blk h.hc 0 _, (setCell_ne (by simp)).trans h.h9, (setCell_ne (by simp)).trans h.h10, h.sg.setCell_other (fun hm => ?_), h.sc.setCell_other (fun hm => ?_), h.gn, h.cn, h.dis, by simpa using h.sz⟩
  · have := h.gn _ hm; simp at this
  · have := h.cn _ hm; simp at this
theorem DifI.app5 (h : DifI s go co gc cc G C ng nc pg pc W) {go' : Option Addr} {gc' : Nat} {G' : List Nat} (hs : Seg W' 5 1 go' G'.length gc' (bts G')) (hf : Fr (blk go) W W') (hx : Ext (blk go) W (blk go')) :
    DifI s go' co gc' cc G' C ng nc pg pc (W'.setCell ⟨s, 0, none⟩ (.slice go' G'.length gc')) := by
  have hsz := h.sz
  have hb : ∀ k, k < s + 10 → k ∉ blk go := fun k hk hm => by have := h.gn k hm; omega
  have gn' : ∀ k ∈ blk go', s + 10 ≤ k := fun k hk => by
    rcases hx k hk with h1 | h1
    · exact h.gn k h1
    · omega
  refine ⟨setCell_blk (hf.blk h.h5 (hb _ (by omega))) 0 _, (setCell_ne (by simp)).trans (hf.blk h.h6 (hb _ (by omega))), (setCell_ne (by simp)).trans (hf.blk h.h7 (hb _ (by omega))), (setCell_ne (by simp)).trans (hf.blk h.h8 (hb _ (by omega))), (setCell_ne (by simp)).trans (hf.blk h.hg (hb _ (by omega))), (setCell_ne (by simp)).trans (hf.blk h.hc (hb _ (by omega))), (setCell_ne (by simp)).trans (hf.blk h.h9 (hb _ (by omega))), (setCell_ne (by simp)).trans (hf.blk h.h10 (hb _ (by omega))), hs.setCell_other (fun hm => ?_), (h.sc.fr hf (fun k hk hm => h.dis k hm hk)).setCell_other (fun hm => ?_), gn', h.cn, fun k hk hm => ?_, by simp; have := hf.size; omega⟩
  · have := gn' _ hm; simp at this; omega
  · have := h.cn _ hm; simp at this; omega
  · rcases hx k hk with h1 | h1
    · exact h.dis k h1 hm
    · have := h.sc.lt k hm; omega
theorem DifI.app6 (h : DifI s go co gc cc G C ng nc pg pc W) {co' : Option Addr} {cc' : Nat} {C' : List Nat} (hs : Seg W' 5 1 co' C'.length cc' (bts C')) (hf : Fr (blk co) W W') (hx : Ext (blk co) W (blk co')) :
    DifI s go co' gc cc' G C' ng nc pg pc (W'.setCell ⟨s + 1, 0, none⟩ (.slice co' C'.length cc')) := by
  have hsz := h.sz
  have hb : ∀ k, k < s + 10 → k ∉ blk co := fun k hk hm => by have := h.cn k hm; omega
  have cn' : ∀ k ∈ blk co', s + 10 ≤ k := fun k hk => by
    rcases hx k hk with h1 | h1
    · exact h.cn k h1
    · omega
  refine ⟨(setCell_ne (by simp)).trans (hf.blk h.h5 (hb _ (by omega))), setCell_blk (hf.blk h.h6 (hb _ (by omega))) 0 _, (setCell_ne (by simp)).trans (hf.blk h.h7 (hb _ (by omega))), (setCell_ne (by simp)).trans (hf.blk h.h8 (hb _ (by omega))), (setCell_ne (by simp)).trans (hf.blk h.hg (hb _ (by omega))), (setCell_ne (by simp)).trans (hf.blk h.hc (hb _ (by omega))), (setCell_ne (by simp)).trans (hf.blk h.h9 (hb _ (by omega))), (setCell_ne (by simp)).trans (hf.blk h.h10 (hb _ (by omega))), (h.sg.fr hf (fun k hk hm => h.dis k hk hm)).setCell_other (fun hm => ?_), hs.setCell_other (fun hm => ?_), h.gn, cn', fun k hk hm => ?_, by simp; have := hf.size; omega⟩
  · have := h.gn _ hm; simp at this
  · have := cn' _ hm; simp at this
  · rcases hx k hm with h1 | h1
    · exact h.dis k hk h1
    · have := h.sg.lt k hk; omega
end
theorem Fr.others {S : List Nat} {w w' : World} (h : Fr S w w') (hS : ∀ k ∈ S, ∀ o, w.heap[k]? = some o → o.isCells = true) : KeepsOthers w w' := ⟨h.size, fun k o hk ho => h.blk hk (fun hm => by rw [hS k hm o hk] at ho; cases ho)⟩

/-! ### plain: the numbers are in range; one pair more -/
theorem goneP_snoc (T : List Pr) (p : Pr) : goneP (T ++ [p]) = goneP T ++ (if isGone p then [p.bi] else []) := by
  unfold goneP
  rw [List.filter_append, List.map_append]
  congr 1
  by_cases h : isGone p = true <;> simp [h]
theorem chgP_snoc (T : List Pr) (p : Pr) : chgP' (T ++ [p]) = chgP' T ++ (if isChg p then [(p.ai, p.av, p.bv)] else []) := by
  unfold chgP'
  rw [List.filter_append, List.map_append]
  congr 1
  by_cases h : isChg p = true <;> simp [h]
structure PrOk (p : Pr) : Prop where
  b : p.ia = false → idxOk p.bi
  a : p.ia = true → idxOk p.ai
  v : bd64 p.av ∧ bd64 p.bv
theorem bd0 : bd64 0 := by unfold bd64; omega
theorem mg_ok : ∀ (a b : List (Int × Int)), (∀ x ∈ a, idxOk x.1 ∧ bd64 x.2) → (∀ x ∈ b, idxOk x.1 ∧ bd64 x.2) → ∀ p ∈ mg a b, PrOk p
  | [], b, _, hb, p, hp => by
    rw [mg_nil] at hp
    obtain ⟨y, hy, rfl⟩ := List.mem_map.1 hp
    exact ⟨fun h => (by cases h), fun _ => (hb y hy).1, (hb y hy).2, bd0⟩
  | x :: a, [], ha, _, p, hp => by
    rw [mg_nil'] at hp
    obtain ⟨y, hy, rfl⟩ := List.mem_map.1 hp
    exact ⟨fun _ => (ha y hy).1, fun h => (by cases h), bd0, (ha y hy).2⟩
  | x :: a, y :: b, ha, hb, p, hp => by
    have ha' : ∀ z ∈ a, idxOk z.1 ∧ bd64 z.2 := fun z hz => ha z (by simp [hz])
    have hb' : ∀ z ∈ b, idxOk z.1 ∧ bd64 z.2 := fun z hz => hb z (by simp [hz])
    have hx := ha x (by simp)
    have hy := hb y (by simp)
    rcases Int.lt_trichotomy x.1 y.1 with h | h | h
    · rw [mg_lt h] at hp
      rcases List.mem_cons.1 hp with rfl | hp
      · exact ⟨fun _ => hx.1, fun h => (by cases h), bd0, hx.2⟩
      · exact mg_ok a (y :: b) ha' hb p hp
    · rw [mg_eq h] at hp
      rcases List.mem_cons.1 hp with rfl | hp
      · exact ⟨fun h => (by cases h), fun _ => hy.1, hy.2, hx.2⟩
      · exact mg_ok a b ha' hb' p hp
    · rw [mg_gt h] at hp
      rcases List.mem_cons.1 hp with rfl | hp
      · exact ⟨fun h => (by cases h), fun _ => hy.1, hy.2, bd0⟩
      · exact mg_ok (x :: a) b ha hb' p hp
termination_by a b => a.length + b.length
theorem gG_len : ∀ (l : List Int) (prev : Int), (gG prev l).length ≤ 10 * l.length
  | [], _ => by simp [gG]
  | k :: l, prev => by rw [gG, List.length_append, List.length_cons]; have := gG_len l k; have := varN_len (gpN_lt prev k); omega
theorem gD_len : ∀ (l : List (Int × Int × Int)) (prev : Int), (gD prev l).length ≤ 20 * l.length
  | [], _ => by simp [gD]
  | k :: l, prev => by rw [gD, List.length_append, List.length_append, List.length_cons]; have := gD_len l k.1; have := varN_len (gpN_lt prev k.1); have := varN_len (zz_fit (k.2.1 - k.2.2)); omega
theorem lastI_bd : ∀ (l : List Int), (∀ k ∈ l, idxOk k) → -1 ≤ lastI (-1) l ∧ lastI (-1) l ≤ 2147483647 := fun l h => by
  rcases List.eq_nil_or_concat l with rfl | ⟨m, k, rfl⟩
  · simp [lastI]
  · have := h k (by simp)
    rw [List.concat_eq_append, lastI_snoc]
    unfold idxOk at this
    omega
theorem goneP_len (T : List Pr) : (goneP T).length ≤ T.length := by unfold goneP; rw [List.length_map]; exact List.length_filter_le _ _
theorem chgP_len (T : List Pr) : (chgP' T).length ≤ T.length := by unfold chgP'; rw [List.length_map]; exact List.length_filter_le _ _
theorem goneP_ok {T : List Pr} (h : ∀ p ∈ T, PrOk p) : ∀ k ∈ goneP T, idxOk k := fun k hk => by
  obtain ⟨p, hp, rfl⟩ := List.mem_map.1 hk
  have h2 := List.mem_filter.1 hp
  exact (h p h2.1).b (by simpa [isGone] using h2.2)
theorem chgP_ok {T : List Pr} (h : ∀ p ∈ T, PrOk p) : ∀ k ∈ (chgP' T).map (·.1), idxOk k := fun k hk => by
  obtain ⟨y, hy, rfl⟩ := List.mem_map.1 hk
  obtain ⟨p, hp, rfl⟩ := List.mem_map.1 hy
  have h2 := List.mem_filter.1 hp
  have h3 : p.ia = true := by
    have := h2.2
    unfold isChg at this
    simp only [Bool.and_eq_true] at this
    exact this.1
  exact (h p h2.1).a h3
theorem fw_map {α : Type} (t : List α) : (fw t.length t.length).map (fun i => t[i]) = t := by
  unfold fw
  rw [List.take_of_length_le (by simp)]
  apply List.ext_getElem
  · simp
  · intro i h1 h2; simp
end Go.Proofs.Ytodfeaipoagphaa
