/- Package snapshot: merge, and its iterator as the range over a function takes it. -/
import Derived.Test.YtcgndeggemceaaaMg28
namespace Go.Proofs.Ytcgndeggemceaaa
open Go.RowKit Go.Shelf

theorem merge_in (n : Nat) (ao bo : Option Addr) (la ca lb cb : Nat) (w : World) :
    CallsIn Fence.wide n Try.prog 31 #[.slice ao la ca, .slice bo lb cb] w fun e w' => e = .returned (.func (.func 51) #[] #[.pointer (some ⟨w.heap.size, 0, none⟩), .pointer (some ⟨w.heap.size + 1, 0, none⟩)]) ∧ w' = (w.alloc (.cells #[.slice ao la ca] 23)).alloc (.cells #[.slice bo lb cb] 23) := by
  refine callsIn_of_wp Try.func31 rfl trivial ?_ rfl
  simp only [Try.ntmps31, List.size_toArray, List.length_cons, List.length_nil, Nat.reduceAdd, Nat.reduceSub, Array.replicate_succ, Array.replicate_zero, List.push_toArray, List.append_toArray, List.nil_append, List.cons_append]
  gi_wp2
  go_ret
  exact ⟨rfl, rfl⟩

theorem merge_stops (n : Nat) (hn : 1 ≤ n) (B1 B2 : Nat) (S : List Nat) (ao bo : Option Addr) (ca cb : Nat) (a b : List (Int × Int)) (w : World)
    (hB1 : w.cell? ⟨B1, 0, none⟩ = some (.slice ao a.length ca)) (hB2 : w.cell? ⟨B2, 0, none⟩ = some (.slice bo b.length cb)) (h1 : B1 < w.heap.size ∧ B1 ∉ S) (h2 : B2 < w.heap.size ∧ B2 ∉ S)
    (ha : Rd w 2 ao a.length (a.flatMap clV)) (hb : Rd w 2 bo b.length (b.flatMap clV)) (ha1 : ∀ k ∈ blk ao, k < w.heap.size ∧ k ∉ S) (hb1 : ∀ k ∈ blk bo, k < w.heap.size ∧ k ∉ S) :
    SeqStopsK Fence.wide n Try.prog 51 #[.pointer (some ⟨B1, 0, none⟩), .pointer (some ⟨B2, 0, none⟩)] (encP (mg a b)) (FrB w.heap.size S) (fun ys => ys = fw (mg a b).length (mg a b).length) (fun _ => True) (mg a b).length w := fun l J Jx W hW hab _ hY h0 =>
  merge1_in n hn l B1 B2 w.heap.size S ao bo ca cb a b W J Jx hab hY ((hW.cell (p := ⟨B1, 0, none⟩) h1.1).trans hB1) ((hW.cell (p := ⟨B2, 0, none⟩) h2.1).trans hB2) hW.size h1 h2
    (ha.kept fun k hk => hW.block k (ha1 k hk).1) (hb.kept fun k hk => hW.block k (hb1 k hk).1) ha1 hb1 h0
end Go.Proofs.Ytcgndeggemceaaa
