/- Chapter 28: the maps that Apply makes: int → int and the set of int. -/
import Derived.Test.YtcgndeggemceaaaIdx28
import Derived.Maps.OwnSet
import Derived.WalkArith
namespace Go.Proofs.Ytcgndeggemceaaa
open Go.RowKit Go.Maps

theorem lawI : Keyed Try.prog 3 := int_keyed Try.underlying3
theorem zeroI (w : World) : (zeroValue 3).run Try.prog w = .ok (.int .i64 0) w := by kernel_rfl
theorem zeroU (w : World) : (zeroValue 80).run Try.prog w = .ok (.agg #[]) w := by kernel_rfl
theorem WF {k : Int} (h : bd64 k) : (Lit.int .i64 k).wf = true := WalkArith.wf_i64 h
theorem keyI {k : Int} (h : bd64 k) : keyOf Try.prog 3 (.int .i64 k) = some (.int .i64 k) := keyOf_int_mk Try.underlying3 (WF h)
/-- block b is a map of at most n entries in which just the k with hs k lie, and gv k is what k holds (zero else) -/
def IsM (w : World) (b n : Nat) (hs : Int → Bool) (gv : Int → Int) : Prop := ∃ D : DataW Unit, w.ownsMap Try.prog 3 (plainElem Try.prog 3) b n D ∧ ∀ k, bd64 k → Maps.has D (.int .i64 k) = hs k ∧ D.atKey (.int .i64 k) (.lit (.int .i64 0)) = .lit (.int .i64 (gv k))
def IsS (w : World) (b n : Nat) (hs : Int → Bool) : Prop := ∃ D : DataW Unit, w.ownsMap Try.prog 3 unitElem b n D ∧ ∀ k, bd64 k → Maps.has D (.int .i64 k) = hs k
theorem IsM.lt {w : World} {b n : Nat} {hs : Int → Bool} {gv : Int → Int} (h : IsM w b n hs gv) : b < w.heap.size := let ⟨_, h1, _⟩ := h; h1.lt
theorem IsS.lt {w : World} {b n : Nat} {hs : Int → Bool} (h : IsS w b n hs) : b < w.heap.size := let ⟨_, h1, _⟩ := h; h1.lt
theorem IsM.fr {w w' : World} {b n : Nat} {hs : Int → Bool} {gv : Int → Int} {S : List Nat} (h : IsM w b n hs gv) (hf : Fr S w w') (hb : b ∉ S) : IsM w' b n hs gv := by
  obtain ⟨D, ⟨es, clock, h1, h2⟩, h3⟩ := h
  exact ⟨D, ⟨es, clock, hf.blk h1 hb, h2⟩, h3⟩
theorem IsS.fr {w w' : World} {b n : Nat} {hs : Int → Bool} {S : List Nat} (h : IsS w b n hs) (hf : Fr S w w') (hb : b ∉ S) : IsS w' b n hs := by
  obtain ⟨D, ⟨es, clock, h1, h2⟩, h3⟩ := h
  exact ⟨D, ⟨es, clock, hf.blk h1 hb, h2⟩, h3⟩
theorem IsM.congr {w : World} {b n m : Nat} {hs hs' : Int → Bool} {gv gv' : Int → Int} (h : IsM w b n hs gv) (hn : n ≤ m) (h1 : ∀ k, bd64 k → hs k = hs' k) (h2 : ∀ k, bd64 k → gv k = gv' k) : IsM w b m hs' gv' := by
  obtain ⟨D, a, c⟩ := h
  exact ⟨D, a.mono hn, fun k hk => ⟨by rw [← h1 k hk]; exact (c k hk).1, by rw [← h2 k hk]; exact (c k hk).2⟩⟩
theorem IsS.congr {w : World} {b n m : Nat} {hs hs' : Int → Bool} (h : IsS w b n hs) (hn : n ≤ m) (h1 : ∀ k, bd64 k → hs k = hs' k) : IsS w b m hs' := by
  obtain ⟨D, a, c⟩ := h
  exact ⟨D, a.mono hn, fun k hk => by rw [← h1 k hk]; exact c k hk⟩
theorem mapTurned_fr {w w' : World} {b : Nat} (h : w.mapTurned w' b) : Fr [b] w w' := by
  obtain ⟨es, clock, es', clock', hb, rfl⟩ := h
  refine ⟨rfl, rfl, rfl, by simp [ChangeMaps.setBlock], fun k hk hn => ?_⟩
  exact ChangeMaps.heap_setBlock_other hb _ (by simpa using hn)
theorem IsM.look {w : World} {b n : Nat} {hs : Int → Bool} {gv : Int → Int} (h : IsM w b n hs gv) {k : Int} (hk : bd64 k) : (Instr.lookup 72 (.map (some b)) (.int .i64 k) true).run Try.prog w = .ok (.tuple #[.int .i64 (gv k), .bool (hs k)]) w := by
  obtain ⟨D, a, c⟩ := h
  obtain ⟨c1, c2⟩ := c k hk
  obtain ⟨v, ps, hr, hv⟩ := a.look_ok lawI Try.underlying72 (zeroI w) (plainElem_int (a := 0) Try.underlying3 (by decide)) (keyI hk)
  rw [hr, c1]
  obtain ⟨x, rfl, hx, -⟩ := plainElem_int_inv Try.underlying3 hv
  rw [c2] at hx
  cases hx
  rfl
theorem IsS.look {w : World} {b n : Nat} {hs : Int → Bool} (h : IsS w b n hs) {k : Int} (hk : bd64 k) : (Instr.lookup 76 (.map (some b)) (.int .i64 k) true).run Try.prog w = .ok (.tuple #[.agg #[], .bool (hs k)]) w := by
  obtain ⟨D, a, c⟩ := h
  obtain ⟨v, ps, hr, hv⟩ := a.look_ok lawI Try.underlying76 (zeroU w) unitElem_mk (keyI hk)
  rw [hr, c k hk]
  obtain ⟨rfl, -⟩ := unitElem_inv hv
  rfl
theorem key_is {k : Int} : WideAt.IsKeyLit (.int .i64 k) := by trivial
theorem key_ne {x k : Int} (h : x ≠ k) : (Lit.int .i64 x) ≠ (Lit.int .i64 k) := fun e => h (by cases e; rfl)
theorem IsM.store {w : World} {b n : Nat} {hs : Int → Bool} {gv : Int → Int} (h : IsM w b n hs gv) (hn : n < maxLen) {k v : Int} (hk : bd64 k) (hv : bd64 v) :
    ∃ w', (Instr.mapUpdate 72 (.map (some b)) (.int .i64 k) (.int .i64 v)).run Try.prog w = .ok () w' ∧ IsM w' b (n + 1) (fun x => x == k || hs x) (fun x => if x = k then v else gv x) ∧ Fr [b] w w' := by
  obtain ⟨D, a, c⟩ := h
  obtain ⟨w', hr, ho, ht⟩ := a.store lawI Try.underlying72 hn (keyI hk) (plainElem_int Try.underlying3 (WF hv))
  refine ⟨w', hr, ⟨_, ho, fun x hx => ?_⟩, mapTurned_fr ht⟩
  by_cases e : x = k
  · subst e
    exact ⟨by rw [has_put_same a.isMap key_is]; simp, by rw [atKey_put_same a.isMap key_is]; simp⟩
  · have e2 : (x == k) = false := beq_eq_false_iff_ne.2 e
    exact ⟨by rw [has_put_other (key_ne e)]; simp only [e2, Bool.false_or]; exact (c x hx).1, by rw [atKey_put_other (key_ne e)]; simp only [if_neg e]; exact (c x hx).2⟩
theorem IsS.store {w : World} {b n : Nat} {hs : Int → Bool} (h : IsS w b n hs) (hn : n < maxLen) {k : Int} (hk : bd64 k) :
    ∃ w', (Instr.mapUpdate 76 (.map (some b)) (.int .i64 k) (.agg #[])).run Try.prog w = .ok () w' ∧ IsS w' b (n + 1) (fun x => x == k || hs x) ∧ Fr [b] w w' := by
  obtain ⟨D, a, c⟩ := h
  obtain ⟨w', hr, ho, ht⟩ := a.store lawI Try.underlying76 hn (keyI hk) unitElem_mk
  refine ⟨w', hr, ⟨_, ho, fun x hx => ?_⟩, mapTurned_fr ht⟩
  by_cases e : x = k
  · subst e
    rw [has_put_same a.isMap key_is]; simp
  · have e2 : (x == k) = false := beq_eq_false_iff_ne.2 e
    rw [has_put_other (key_ne e)]; simp only [e2, Bool.false_or]; exact c x hx
theorem isM_made (w : World) : IsM (w.alloc (.map #[] 0)) w.heap.size 0 (fun _ => false) (fun _ => 0) := ⟨.map [], World.ownsMap_made _ _ _ _, fun _ _ => ⟨rfl, rfl⟩⟩
theorem isS_made (w : World) : IsS (w.alloc (.map #[] 0)) w.heap.size 0 (fun _ => false) := ⟨.map [], World.ownsMap_made _ _ _ _, fun _ _ => rfl⟩
end Go.Proofs.Ytcgndeggemceaaa
