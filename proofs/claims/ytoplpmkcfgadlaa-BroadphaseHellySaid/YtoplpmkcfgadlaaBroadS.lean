/- Package broadphase: the sort of the pairs. -/
import Derived.Test.YtoplpmkcfgadlaaBroadE
namespace Go.Proofs.Ytoplpmkcfgadlaa
open Go.RowKit Go.Sort Go.Lib Go.Shelf

def encP (p : Nat × Nat) : List Value := [.int .i64 (p.1 : Int), .int .i64 (p.2 : Int)]
def cfP (x y : Nat × Nat) : Int := orL [compareInt (x.1 : Int) (y.1 : Int), compareInt (x.2 : Int) (y.2 : Int)]
theorem cfP_lt (x y : Nat × Nat) : cfP x y < 0 ↔ lexP x y := by
  unfold cfP lexP
  rw [or2N, cmpN, cmp0, cmpN]
  omega
theorem ltP (x y : Nat × Nat) : ltOf cfP x y = decide (cfP x y < 0) := rfl
theorem swoP : SWO (ltOf cfP) := {
  irrefl := fun x => by rw [ltP, decide_eq_false_iff_not, cfP_lt]; unfold lexP; omega
  trans := fun x y z h1 h2 => by rw [ltP, decide_eq_true_eq, cfP_lt] at *; unfold lexP at *; omega
  ntrans := fun x y z h1 h2 => by rw [ltP, decide_eq_false_iff_not, cfP_lt] at *; unfold lexP at *; omega }
theorem grow3 (W : World) (a b c : Obj) : ∃ q os', ((((W.alloc a).alloc b).alloc c).drew) = grow (W.drewN q) os' := ⟨1, #[a] ++ (#[b] ++ #[c]), by rw [alloc_eq_grow, alloc_eq_grow, alloc_eq_grow, grow_grow, grow_grow]; rfl⟩
theorem alloc3_drew (W : World) (a b c : Obj) : ((((W.alloc a).alloc b).alloc c).drew).heap[W.heap.size + 1 + 1]? = some c := by
  have h := alloc_new ((W.alloc a).alloc b) c
  rwa [show ((W.alloc a).alloc b).heap.size = W.heap.size + 1 + 1 by simp] at h

set_option maxRecDepth 100000 in
set_option maxHeartbeats 4000000 in
theorem pairs1_any (W : World) (x y : Nat × Nat) :
    Calls Try.prog 29 #[.agg #[.int .i64 (x.1 : Int), .int .i64 (x.2 : Int)], .agg #[.int .i64 (y.1 : Int), .int .i64 (y.2 : Int)]] W fun r w' => r = .returned (.int .i64 (cfP x y)) ∧ ∃ q os', w' = grow (W.drewN q) os' := by
  obtain ⟨x1, x2⟩ := x
  obtain ⟨y1, y2⟩ := y
  have hcon := fun x y (W' : World) => AnyG.cmp_Compare_int cmpI x y W'
  change ∀ x y W', Calls Try.prog 31 _ _ _ at hcon
  have HC := Lib.hid hcon
  have HOR := Lib.hid (fun u c k (l : List Int) (h : u.heap[k]? = some (.cells (intsB l).toArray 3 (0, 0))) hl => or_any u k c l h hl)
  unfold cfP
  simp only
  obtain ⟨X1, hX1⟩ : ∃ z : Int, z = x1 := ⟨_, rfl⟩
  obtain ⟨X2, hX2⟩ : ∃ z : Int, z = x2 := ⟨_, rfl⟩
  obtain ⟨Y1, hY1⟩ : ∃ z : Int, z = y1 := ⟨_, rfl⟩
  obtain ⟨Y2, hY2⟩ : ∃ z : Int, z = y2 := ⟨_, rfl⟩
  rw [← hX1, ← hX2, ← hY1, ← hY2]
  clear hcon hX1 hX2 hY1 hY2
  go_enter Try.func29, Try.ntmps29
  go_upto_region 1 with fail
  refine wp_still_tail 10 (by kernel_rfl) (by kernel_rfl) ?_
  simp only [List.take_succ_cons, List.take_zero, List.drop_succ_cons, List.drop_zero]
  repeat still_step
  still_call (HC.out _ _ _)
  repeat still_step
  still_call (HC.out _ _ _)
  refine wpStill_nil ?_
  go_wp2_with (go_at_call 30; refine (HOR.out _ _ _ [_, _] (alloc3_drew W _ _ _) (by simp)).mono ?_; rintro r w' ⟨rfl, rfl⟩)
  go_ret
  exact ⟨rfl, grow3 W _ _ _⟩

def SortPTo (w : World) (ao : Option Addr) (cap : Nat) (t : List (Nat × Nat)) (e : Ending) (w' : World) : Prop :=
  e = .returned (.tuple #[]) ∧ ∃ t' : List (Nat × Nat), t'.Perm t ∧ t'.length = t.length ∧ t'.Pairwise (fun x y => ¬ lexP y x) ∧ Seg w' 39 2 ao t'.length cap (t'.flatMap encP) ∧ Fr (blk ao) w w'
theorem sort_pairs (w : World) (ao : Option Addr) (cap : Nat) (t : List (Nat × Nat)) (h : Seg w 39 2 ao t.length cap (t.flatMap encP)) (ht : t.length ≤ 1099511627776) :
    Calls Try.prog 28 #[.slice ao t.length cap, .func (.func 29) #[] #[]] w (SortPTo w ao cap t) := by
  have hc := sort_seg sortP 2 (by omega) Try.isAgg39 Try.sizeOf39 encP (fun _ => rfl) (fun x v hv => by simp [encP] at hv; rcases hv with rfl | rfl <;> rfl) cfP swoP 29 #[] w
    (enters_of Try.func29 (by kernel_rfl) rfl) h (by omega) (fun b off _ _ _ _ _ x y => pairs1_any _ x y)
  refine Calls.mono hc ?_
  rintro e w' ⟨h1, t', h2, h3, h4, h5⟩
  refine ⟨h1, t', h2, h2.length_eq, h3.imp ?_, h4, h5⟩
  intro x y hxy
  rw [ltP, decide_eq_false_iff_not, cfP_lt] at hxy
  exact hxy

theorem infoPair : (Try.prog.info? 39).map (fun i => (i.zero, i.size, i.bytes)) = some (some (.agg #[.int .i64 0, .int .i64 0]), 2, 16) := by kernel_rfl
theorem undM : Try.prog.underlying 47 = some (.map 3 23) := Try.underlying47
theorem encP_one (t : List (Nat × Nat)) : ∀ u ∈ t.flatMap encP, u.oneCell' = true := by
  intro u hu
  obtain ⟨x, -, hx⟩ := List.mem_flatMap.1 hu
  simp [encP] at hx
  rcases hx with rfl | rfl <;> rfl
end Go.Proofs.Ytoplpmkcfgadlaa
