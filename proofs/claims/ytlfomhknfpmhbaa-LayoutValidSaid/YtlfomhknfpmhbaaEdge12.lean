/- shape.edges: the pairs (i, i+1 mod n), as the range over a function takes them. -/
import Derived.RangeFuncNested
import Derived.RangeFuncBox
import Derived.RangeFuncLeaves
import Derived.Shelf.Abstract
import Derived.OwnWalkIn
import Derived.TacticsInMore
import Derived.LoopNIn
import Derived.LoopIn
import Derived.BigRegionIn
import Derived.Deep.Quiet
import Derived.BigQuiet
import Derived.Sort.CutIn
import Derived.Test.YtlfomhknfpmhbaaSide12
import Derived.Test.YtlfomhknfpmhbaaFrB
namespace Go.Proofs.Ytlfomhknfpmhbaa
open Go.RowKit Go.Shelf

def fw (n k : Nat) : List (Fin n) := (List.finRange n).take k
theorem fw_succ (n k : Nat) (h : k < n) : fw n (k + 1) = fw n k ++ [⟨k, h⟩] := by
  unfold fw
  rw [List.take_succ_eq_append_getElem (by simpa using h)]
  simp
theorem fw_length (n k : Nat) (h : k ≤ n) : (fw n k).length = k := by simp [fw, h]
/-- the end of the edge that starts at i -/
def nx (n i : Nat) : Nat := (i + 1) % n
theorem nx_lt {n i : Nat} (h : i < n) : nx n i < n := Nat.mod_lt _ (by omega)
theorem nx_mod (n i : Nat) : ((i : Int) + 1) % (n : Int) = (nx n i : Int) := by
  unfold nx
  rw [Int.natCast_emod]; rfl
def encX (n : Nat) (i : Fin n) : Array Value := #[.int .i64 (i.val : Int), .int .i64 (nx n i.val : Int)]

set_option maxRecDepth 100000 in
set_option maxHeartbeats 2000000 in
theorem edge1_in (n : Nat) (hn : 1 ≤ n) (l Bs n₀ : Nat) (S : List Nat) (N : Nat) (hN : N ≤ 1000000)
    (J Jx : List (Fin N) → World → Prop)
    (hY : ∀ pre x W, J pre W → pre.length < N → YieldAt Fence.wide (n - 1) Try.prog l (encX N x) W fun e W' =>
      (e = .returned (.bool true) ∧ J (pre ++ [x]) W' ∧ FrB n₀ S W W') ∨ (e = .returned (.bool false) ∧ Jx (pre ++ [x]) W'))
    (W : World) (hBs : W.cell? ⟨Bs, 0, none⟩ = some (.int .i64 (N : Int))) (hB1 : Bs < n₀) (hB2 : Bs ∉ S) (hn₀ : n₀ ≤ W.heap.size) (h0 : J [] W) :
    CallsIn Fence.wide n Try.prog 58 #[.func (.yield l) #[] #[], .pointer (some ⟨Bs, 0, none⟩)] W fun e W' => (∃ v, e = .returned v) ∧
      ((∃ ys, ys = fw N N ∧ J ys W') ∨ (∃ pre, True ∧ Jx pre W')) := by
  refine callsIn_of_wp Try.func58 rfl trivial ?_ rfl
  simp only [Try.ntmps58, List.size_toArray, List.length_cons, List.length_nil, Nat.reduceAdd, Nat.reduceSub, Array.replicate_succ, Array.replicate_zero, List.push_toArray, List.append_toArray, List.nil_append, List.cons_append]
  gi_wp2
  gi_loopw [5] (fun i wr => FrB n₀ S W wr ∧ ∃ m : Nat, m ≤ N ∧ i = .int .i64 (m : Int) ∧ J (fw N m) wr) (fun i _ => N - (intOf i).toNat)
  case atStart => exact ⟨FrB.refl _ _ _, 0, by omega, rfl, h0⟩
  case round =>
    obtain ⟨hfr, m, hm, rfl, hJ⟩ := hrel
    have hcb := (hfr.cell (p := ⟨Bs, 0, none⟩) hB1 hB2).trans hBs
    by_cases hlt : m < N
    · obtain ⟨fn, tmps, assign, body, hy, hR⟩ := hY _ ⟨m, hlt⟩ wr hJ (by rw [fw_length _ _ hm]; exact hlt)
      simp only [encX] at hy
      have ht := nx_mod N m
      have hne : ((N : Int) == 0) = false := beq_eq_false_iff_ne.2 (by omega)
      obtain ⟨x, hx⟩ : ∃ x, x = nx N m := ⟨_, rfl⟩
      rw [← hx] at ht hy
      clear hx
      gi_wp2
      refine hR.mono ?_
      rintro e W3 (⟨rfl, hJ3, hk3⟩ | ⟨rfl, hJx3⟩)
      · gi_wp2
        go_roundw
        case rel =>
          refine ⟨hfr.trans hk3, m + 1, by omega, by go_num, ?_⟩
          rw [fw_succ _ _ hlt]; exact hJ3
        case measure => simp [intOf]; omega
      · gi_wp2
        refine bodyPost_ret (results_none rfl _ _ _) rfl ?_
        exact ⟨⟨_, rfl⟩, .inr ⟨_, trivial, hJx3⟩⟩
    · gi_wp2
      go_end0
      have e : m = N := by omega
      rw [e] at hJ
      exact ⟨⟨_, rfl⟩, .inl ⟨_, rfl, hJ⟩⟩

theorem edges_in (n : Nat) (N : Nat) (w : World) :
    CallsIn Fence.wide n Try.prog 55 #[.int .i64 (N : Int)] w fun e w' => e = .returned (.func (.func 58) #[] #[.pointer (some ⟨w.heap.size, 0, none⟩)]) ∧ w' = w.alloc (.cells #[.int .i64 (N : Int)] 3) := by
  refine callsIn_of_wp Try.func55 rfl trivial ?_ rfl
  simp only [Try.ntmps55, List.size_toArray, List.length_cons, List.length_nil, Nat.reduceAdd, Nat.reduceSub, Array.replicate_succ, Array.replicate_zero, List.push_toArray, List.append_toArray, List.nil_append, List.cons_append]
  gi_wp2
  go_ret
  exact ⟨rfl, rfl⟩

theorem edge_stops (n : Nat) (hn : 1 ≤ n) (Bs : Nat) (S : List Nat) (N : Nat) (hN : N ≤ 1000000) (w : World)
    (hBs : w.cell? ⟨Bs, 0, none⟩ = some (.int .i64 (N : Int))) (hB1 : Bs < w.heap.size) (hB2 : Bs ∉ S) :
    SeqStopsK Fence.wide n Try.prog 58 #[.pointer (some ⟨Bs, 0, none⟩)] (encX N) (FrB w.heap.size S) (fun ys => ys = fw N N) (fun _ => True) N w := fun l J Jx W hW _ _ hY h0 =>
  edge1_in n hn l Bs w.heap.size S N hN J Jx hY W ((hW.cell (p := ⟨Bs, 0, none⟩) hB1).trans hBs) hB1 hB2 hW.size h0
end Go.Proofs.Ytlfomhknfpmhbaa
