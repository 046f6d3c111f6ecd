/- Laws: a struct's whole block stored, loaded. Generic over the program. -/
import Derived.Deep.RegionHeld3
import Derived.Test.YtlfomhknfpmhbaaBase
namespace Go.Proofs.Ytlfomhknfpmhbaa
open Go.RowKit

section
variable {P : Program} {ops : Array Oper} {rest : List Oper} {op : Oper} {a : Act} {w : World} {Q : Exit → Act → World → Prop}

theorem wpList_storeB (hgd : op.guard = none) (ty : TypeId) (x y : Operand) (ho : op.op = .store ty x y) (b n : Nat) (cells : Array Value) (hx : a.eval x = .pointer (some ⟨b, 0, none⟩)) (hy : a.eval y = .agg cells)
    (z : Array Value) (T : TypeId) (hb : w.heap[b]? = some (.cells z T (0, 0))) (hz : z.size = n) (hc : cells.size = n) (hi : (P.info? ty).map (·.size) = some n) (h1 : cells.all (·.oneCell') = true)
    (h : ∀ w', w'.heap[b]? = some (.cells cells T (0, 0)) → Fr [b] w w' → wpList P ops Q rest (a.put op.dst undef) w') : wpList P ops Q (op :: rest) a w := by
  refine wpList_store_mid hgd ty x y ho b 0 cells hx hy (fun j hj => ?_) (by rw [hc]; exact hi) h1 (h _ ?_ ?_)
  · rw [Nat.zero_add, cell_blk hb, Array.getElem?_eq_getElem (by omega)]
    exact ⟨rfl, frozen_blk hb j⟩
  · have h2 := setCells_blk cells.toList 0 w z hb (by simp; omega)
    rw [h2]
    congr 2
    apply Array.ext'
    simp only [List.take_zero, List.nil_append, Nat.zero_add]
    rw [List.drop_of_length_le (by simp; omega), List.append_nil]
  · exact (Fr.refl [b] w).setCells (.inl (by simp)) 0 cells.toList

theorem wpList_loadB (hgd : op.guard = none) (ty : TypeId) (x : Operand) (ho : op.op = .load ty x) (b n : Nat) (hx : a.eval x = .pointer (some ⟨b, 0, none⟩)) (c : Array Value) (T : TypeId) (f : Nat × Nat) (hb : w.heap[b]? = some (.cells c T f))
    (d : TypeDesc) (hu : P.underlying ty = some d) (hd : d.isRow = true) (hc : c.size = n) (hi : (P.info? ty).map (·.size) = some n)
    (h : wpList P ops Q rest (a.put op.dst (.agg c)) w) : wpList P ops Q (op :: rest) a w := by
  refine wpList_load_mid hgd ty x ho b 0 hx c.toList d (fun j v hv => ?_) hu hd (by rw [Array.length_toList, hc]; exact hi) h
  rw [Nat.zero_add, cell_blk hb, ← Array.getElem?_toList]
  exact hv

/-- the same at a guarded operation whose guard says yes -/
theorem wpList_loadG (hw : Region.wanted op (yielded ops a.tmps) = true) (ty : TypeId) (x : Operand) (ho : op.op = .load ty x) (b n : Nat) (hx : a.eval x = .pointer (some ⟨b, 0, none⟩)) (c : Array Value) (T : TypeId) (f : Nat × Nat) (hb : w.heap[b]? = some (.cells c T f))
    (d : TypeDesc) (hu : P.underlying ty = some d) (hd : d.isRow = true) (hc : c.size = n) (hi : (P.info? ty).map (·.size) = some n)
    (h : wpList P ops Q rest (a.put op.dst (.agg c)) w) : wpList P ops Q (op :: rest) a w :=
  BigFrame.wpList_want hw fun K hK => by
    refine wp_load_mid ty x ho b 0 hx c.toList d (fun j v hv => ?_) hu hd (by rw [Array.length_toList, hc]; exact hi) (hK _ _ h)
    rw [Nat.zero_add, cell_blk hb, ← Array.getElem?_toList]
    exact hv

theorem wp_storeB {K : Act → World → Prop} (ty : TypeId) (x y : Operand) (ho : op.op = .store ty x y) (b n : Nat) (cells : Array Value) (hx : a.eval x = .pointer (some ⟨b, 0, none⟩)) (hy : a.eval y = .agg cells)
    (z : Array Value) (T : TypeId) (hb : w.heap[b]? = some (.cells z T (0, 0))) (hz : z.size = n) (hc : cells.size = n) (hi : (P.info? ty).map (·.size) = some n) (h1 : cells.all (·.oneCell') = true)
    (h : ∀ w', w'.heap[b]? = some (.cells cells T (0, 0)) → Fr [b] w w' → K (a.put op.dst undef) w') : op.wp P a w K Q := by
  refine wp_store_mid ty x y ho b 0 cells hx hy (fun j hj => ?_) (by rw [hc]; exact hi) h1 (h _ ?_ ?_)
  · rw [Nat.zero_add, cell_blk hb, Array.getElem?_eq_getElem (by omega)]
    exact ⟨rfl, frozen_blk hb j⟩
  · have h2 := setCells_blk cells.toList 0 w z hb (by simp; omega)
    rw [h2]
    congr 2
    apply Array.ext'
    simp only [List.take_zero, List.nil_append, Nat.zero_add]
    rw [List.drop_of_length_le (by simp; omega), List.append_nil]
  · exact (Fr.refl [b] w).setCells (.inl (by simp)) 0 cells.toList
end

section
variable {P : Program} {l : List Oper} {Q : Exit → Act → World → Prop} {md : Region.Mode} {S : World → Prop}
theorem wpAnyH_takeL {i : Nat} {oi : Oper} {v : Value} {fuel : Nat} {listed : Array Bool} {a : Act} {w : World} (hi : l[i]? = some oi)
    (hs : Region.noSelect l.toArray = true) (hf : Region.free md l.toArray listed i = true) (hr : (Region.ready md l.toArray listed).contains i = true)
    (hQ : ∀ c a w, Q (.panic c) (a.put oi.dst v) w → Q (.panic c) a w) (hy : YieldsIf P l.toArray S oi v a) (hS : S w)
    (h : wpAnyH P md l.toArray Q S fuel (listed.setIfInBounds i true) (a.put oi.dst v) w) : wpAnyH P md l.toArray Q S (fuel + 1) listed a w :=
  wpAnyH_take (by simpa using hi) hs hf hr hQ hy hS h
theorem AllReadyH.consL {fuel : Nat} {listed : Array Bool} {a : Act} {w : World} {i : Nat} {o : Oper} {rs : List Nat} (ho : l[i]? = some o)
    (h : ∀ K' : Act → World → Prop, Shut (∀ a w, S w → (S w → wpAnyH P md l.toArray Q S fuel (listed.setIfInBounds i true) a w) → K' a w) → if Region.wanted o (yielded l.toArray a.tmps) = true then Oper.wp P o a w K' Q else K' (a.put o.dst undef) w)
    (hs : AllReadyH P md l.toArray Q S fuel listed a w rs) : AllReadyH P md l.toArray Q S fuel listed a w (i :: rs) := AllReadyH.cons (by simpa using ho) h hs
end
end Go.Proofs.Ytlfomhknfpmhbaa
