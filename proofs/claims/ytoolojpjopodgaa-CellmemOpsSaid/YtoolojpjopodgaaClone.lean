/- Package cellmem: what Changed calls: slices.Clone, slices.SortFunc with its closure. -/
import Derived.Test.YtoolojpjopodgaaChgP
import Derived.Test.YtoolojpjopodgaaSortK
import Derived.Test.YtoolojpjopodgaaShelf09
namespace Go.Proofs.Ytoolojpjopodgaa
open Go.RowKit Go.Sort Go.Lib Go.Shelf

theorem Seg.pair {w : World} {e : TypeId} {g off n cap : Nat} {l : List (Int × Int)} (h : Seg w e 2 (some ⟨g, off, none⟩) n cap (pairs l)) {k : Nat} (hk : k < l.length) :
    w.cell? ⟨g, off + k * 2, none⟩ = some (.int .i64 l[k].1) ∧ w.cell? ⟨g, off + k * 2 + 1, none⟩ = some (.int .i64 l[k].2) := by
  have hl := h.1
  rw [pairs_length] at hl
  obtain ⟨g', off', cur, ha, _, _, hc, _⟩ := h.at (by have := h.2.2.1; omega)
  cases ha
  constructor
  · rw [hc _ (by omega), pairs_get0, List.getElem?_eq_getElem hk]; rfl
  · rw [Nat.add_assoc, hc _ (by omega), pairs_get1, List.getElem?_eq_getElem hk]; rfl

theorem Seg.somewhere {w : World} {e : TypeId} {size n cap : Nat} {ao : Option Addr} {xs : List Value} (h : Seg w e size ao n cap xs) (hn : 0 < n) : ∃ g off, ao = some ⟨g, off, none⟩ := by
  obtain ⟨g, off, _, ha, _⟩ := h.at (by have := h.2.2.1; omega)
  exact ⟨g, off, ha⟩

def encE2 (x : Int × Int) : List Value := [.int .i64 x.1, .int .i64 x.2]
theorem pairs_flat (l : List (Int × Int)) : pairs l = l.flatMap encE2 := rfl

def SegOf (w : World) (xs : List (Int × Int)) (e : Ending) (w' : World) : Prop := ∃ bo bc, e = .returned (.slice bo xs.length bc) ∧ Seg w' 68 2 bo xs.length bc (pairs xs) ∧ Fr [] w w' ∧ ∀ k ∈ blk bo, w.heap.size ≤ k

set_option maxRecDepth 100000 in
set_option maxHeartbeats 1000000 in
theorem clone_any (w : World) (ao : Option Addr) (cap : Nat) (t : List (Int × Int)) (h : Seg w 68 2 ao t.length cap (pairs t)) (ht : t.length ≤ 1099511627776) :
    Calls Try.prog 41 #[.slice ao t.length cap] w (SegOf w t) := by
  obtain ⟨i0, hi, hz0, hz1, hz2⟩ := info_parts infoEntry
  have hp : (pairs t).length = t.length * 2 := pairs_length t
  rcases h.2.2.2 with ⟨rfl, hn, hc⟩ | ⟨g, off, cur, rfl, hg, h2, h3⟩
  · have : t = [] := List.eq_nil_of_length_eq_zero hn
    subst this
    subst hc
    have HS := Lib.hid h
    have q : ∀ u : World, (binOp .eql 63 (.slice none 0 0) (.slice none 0 0)).run Try.prog u = .ok (.bool true) u := fun u => run_eql_slice_nil u _ _ none 0 0 0 0 Try.underlying63
    clear h hp hn
    go_enter Try.func41, Try.ntmps41
    go_wp2
    go_ret
    exact ⟨none, 0, rfl, HS.out, Fr.refl _ _, by simp [blk]⟩
  · have hone := Seg.one w.heap.size #[] 68 2 0 (alloc_new w (.cells #[] 68)) rfl (by unfold maxLen; omega)
    have HO := Lib.hid hone
    have HN := Lib.hid (h.alloc (.cells #[] 68)).news
    have H1 := Lib.hid (pairs_one t)
    have HP := Lib.hid hp
    have q : ∀ u : World, (binOp .eql 63 (.slice (some ⟨g, off, none⟩) t.length cap) (.slice none 0 0)).run Try.prog u = .ok (.bool false) u := fun u => run_eql_slice_nil u _ _ _ _ _ _ _ Try.underlying63
    clear h hone hp hg h2 h3
    go_enter Try.func41, Try.ntmps41
    go_wp2_with (at_builtin; refine wpList_append_seg rfl _ _ 63 rfl 68 i0 _ 2 16 Try.underlying63 hi hz0 hz1 hz2 rfl (by decide) (some ⟨w.heap.size, 0, none⟩) 0 0 [] rfl HO.out ⟨g, off, none⟩ t.length cap (pairs t) rfl HP.out HN.out H1.out (by unfold maxLen; omega) (by omega) ?_; intro ao' cap' w5 hs5 hf5 hx5; have HF5 := Lib.hid hf5; have HX5 := Lib.hid hx5; have HS5 := Lib.hid hs5; clear hs5 hf5 hx5)
    go_ret
    refine ⟨ao', cap', by simp, ?_, ((Fr.refl [] w).alloc _).trans HF5.out (fun k hk => .inr (by simp [blk] at hk; omega)), fun k hk => ?_⟩
    · have := HS5.out; simpa using this
    · rcases HX5.out k hk with h | h
      · simp [blk] at h; omega
      · simp at h; omega

def cfE (x y : Int × Int) : Int := compareInt x.1 y.1

theorem ltE (x y : Int × Int) : ltOf cfE x y = decide (x.1 < y.1) := by
  unfold ltOf cfE compareInt
  by_cases h1 : x.1 < y.1
  · simp [h1]
  · by_cases h2 : y.1 < x.1 <;> simp [h1, h2]
theorem swoE : SWO (ltOf cfE) := {
  irrefl := fun x => by rw [ltE]; simp
  trans := fun x y z h1 h2 => by rw [ltE] at *; simp at *; omega
  ntrans := fun x y z h1 h2 => by rw [ltE] at *; simp at *; omega }

set_option maxRecDepth 100000 in
set_option maxHeartbeats 1000000 in
theorem closE (x y : Int × Int) (W : World) : Calls Try.prog 43 #[.agg #[.int .i64 x.1, .int .i64 x.2], .agg #[.int .i64 y.1, .int .i64 y.2]] W fun e w' => e = .returned (.int .i64 (cfE x y)) ∧ ∃ q os', w' = grow (W.drewN q) os' := by
  have hcon := fun W' => AnyG.cmp_Compare_int cmpI x.1 y.1 W'
  change ∀ W', Calls Try.prog 44 _ _ _ at hcon
  unfold cfE
  generalize compareInt x.1 y.1 = r at hcon ⊢
  go_enter Try.func43, Try.ntmps43
  go_wp2_with (go_at_call 44; refine (hcon _).mono ?_; rintro e w' ⟨rfl, rfl⟩)
  go_ret
  exact ⟨rfl, 0, _, by rw [alloc_eq_grow, alloc_eq_grow, grow_grow]; rfl⟩

def SortTo (w : World) (ao : Option Addr) (cap : Nat) (t : List (Int × Int)) (e : Ending) (w' : World) : Prop :=
  e = .returned (.tuple #[]) ∧ ∃ t' : List (Int × Int), t'.Perm t ∧ t'.Pairwise (fun x y => x.1 ≤ y.1) ∧ Seg w' 68 2 ao t'.length cap (pairs t') ∧ Fr (blk ao) w w'

theorem sort_any (w : World) (ao : Option Addr) (cap : Nat) (t : List (Int × Int)) (h : Seg w 68 2 ao t.length cap (pairs t)) (ht : t.length ≤ 1099511627776) :
    Calls Try.prog 42 #[.slice ao t.length cap, .func (.func 43) #[] #[]] w (SortTo w ao cap t) := by
  have hc := sort_seg sortE 2 (by omega) Try.isAgg68 Try.sizeOf68 encE2 (fun _ => rfl) (fun x v hv => by simp [encE2] at hv; rcases hv with rfl | rfl <;> rfl) cfE swoE 43 #[] w
    (enters_of Try.func43 (by kernel_rfl) rfl) h (by omega) (fun b off _ _ _ _ _ x y => closE x y _)
  refine Calls.mono hc ?_
  rintro e w' ⟨h1, t', h2, h3, h4, h5⟩
  refine ⟨h1, t', h2, h3.imp ?_, h4, h5⟩
  intro x y hxy
  rw [ltE] at hxy
  simpa using hxy
end Go.Proofs.Ytoolojpjopodgaa
