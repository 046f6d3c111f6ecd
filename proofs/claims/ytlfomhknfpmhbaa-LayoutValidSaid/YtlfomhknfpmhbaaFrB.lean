/- Below a bound only some blocks change (as XBack has it). -/
import Derived.RangeFuncNested
import Derived.RangeFuncBox
import Derived.Shelf.Abstract
import Derived.Test.YtlfomhknfpmhbaaBase
import Derived.Test.YtlfomhknfpmhbaaRound
namespace Go.Proofs.Ytlfomhknfpmhbaa
open Go.RowKit Go.Shelf

/-- below n₀ only the blocks of S may have changed -/
structure FrB (n₀ : Nat) (S : List Nat) (w w' : World) : Prop where
  os : w'.os = w.os
  tape : w'.tape = w.tape
  output : w'.output = w.output
  size : w.heap.size ≤ w'.heap.size
  block : ∀ k, k < n₀ → k ∉ S → w'.heap[k]? = w.heap[k]?

theorem FrB.refl (n₀ : Nat) (S : List Nat) (w : World) : FrB n₀ S w w := ⟨rfl, rfl, rfl, Nat.le_refl _, fun _ _ _ => rfl⟩
theorem FrB.trans {n₀ : Nat} {S : List Nat} {a b c : World} (h : FrB n₀ S a b) (k : FrB n₀ S b c) : FrB n₀ S a c :=
  ⟨k.os.trans h.os, k.tape.trans h.tape, k.output.trans h.output, Nat.le_trans h.size k.size, fun i hi hS => (k.block i hi hS).trans (h.block i hi hS)⟩
theorem FrB.ofFr {n₀ : Nat} {S : List Nat} {a b : World} (h : Fr S a b) (hn : n₀ ≤ a.heap.size) : FrB n₀ S a b := ⟨h.os, h.tape, h.output, h.size, fun k hk hS => h.block k (by omega) hS⟩
theorem FrB.grown {n₀ : Nat} {S : List Nat} {a b : World} {row : Option Nat} (hg : a.grownBy b row) (hn : n₀ ≤ a.heap.size) (hr : ∀ r, row = some r → n₀ ≤ r) : FrB n₀ S a b :=
  ⟨hg.os, hg.tape, hg.output, hg.size, fun k hk _ => hg.block k (by omega) (fun e => by have := hr k e.symm; omega)⟩
theorem FrB.cell {n₀ : Nat} {S : List Nat} {a b : World} (h : FrB n₀ S a b) {p : Addr} (hp : p.block < n₀) (hS : p.block ∉ S) : b.cell? p = a.cell? p := World.cell?_of_block (h.block p.block hp hS)
theorem FrB.frozen {n₀ : Nat} {S : List Nat} {a b : World} (h : FrB n₀ S a b) {p : Addr} (hp : p.block < n₀) (hS : p.block ∉ S) : b.frozen? p = a.frozen? p := World.frozen?_of_block (h.block p.block hp hS)

theorem frB_t {n₀ : Nat} {S : List Nat} {A B C : World} (h : FrB n₀ S A B) (k : FrB n₀ S B C) : FrB n₀ S A C := h.trans k
theorem frB_b {n₀ : Nat} {S : List Nat} {w : World} (hn : n₀ ≤ w.heap.size) (W : World) (l : Nat) (o o' : Obj) (hl : w.heap.size ≤ l) (h : W.heap[l]? = some o) (_ : o.isCells = false) (_ : o.isWalk = false) : FrB n₀ S W (W.putObj l o') :=
  FrB.grown (grownBy_putObj' W l o') (by have := lt_of_blk h; omega) (fun k e => by cases e; omega)


theorem Rd.kept {w w' : World} {size : Nat} {ao : Option Addr} {n : Nat} {xs : List Value} (h : Rd w size ao n xs) (hk : ∀ k ∈ blk ao, w'.heap[k]? = w.heap[k]?) : Rd w' size ao n xs := by
  obtain ⟨h1, h2, h3⟩ := h
  refine ⟨h1, h2, ?_⟩
  rcases h3 with h3 | ⟨g, off, ha, hg, hc⟩
  · exact .inl h3
  · subst ha
    have e := hk g (by simp [blk])
    refine .inr ⟨g, off, rfl, ?_, fun j hj => ?_⟩
    · have := Array.getElem?_eq_getElem hg
      rw [this] at e
      exact (Array.getElem?_eq_some_iff.1 e).1
    · rw [World.cell?_of_block (a := ⟨g, off + j, none⟩) e]; exact hc j hj
end Go.Proofs.Ytlfomhknfpmhbaa
