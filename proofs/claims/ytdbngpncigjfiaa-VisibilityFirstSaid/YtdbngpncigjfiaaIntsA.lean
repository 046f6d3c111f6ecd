/- arenanetref01.Ints; a slice of ints that came in. -/
import Derived.Test.YtdbngpncigjfiaaMem2
import Derived.Test.YtdbngpncigjfiaaRow
import Derived.Test.YtdbngpncigjfiaaAround
import Derived.Test.YtdbngpncigjfiaaMem3
namespace Go.Proofs.Ytdbngpncigjfiaa
open Go.RowKit

theorem Rd.news {w : World} {size : Nat} {ad : Addr} {n : Nat} {xs : List Value} (h : Rd w size (some ad) n xs) (h0 : 0 < n) : ∀ j u, xs[j]? = some u → w.cell? (ad.add j) = some u := by
  intro j u hu
  obtain ⟨g, off, ha, _, hc⟩ := h.at h0
  cases ha
  have hj : j < n * size := by have := (List.getElem?_eq_some_iff.1 hu).1; rw [h.1] at this; exact this
  rw [Addr.add_mid, hc j hj, hu]

/-- a slice of ints that came in -/
structure Srci (w : World) (ao : Option Addr) (cap : Nat) (l : List Int) : Prop where
  rd : Rd w 1 ao l.length (ints l)
  bnd : ∀ x ∈ l, bounded x
  fit : l.length ≤ cap
  capm : cap ≤ maxLen
  nil : ao = none → cap = 0 ∧ l = []

theorem Srci.old {w w' : World} {ao : Option Addr} {cap : Nat} {l : List Int} (h : Srci w ao cap l) (hf : Fr [] w w') : Srci w' ao cap l := ⟨h.rd.fr hf (by simp), h.bnd, h.fit, h.capm, h.nil⟩

theorem srci_of_row {w : World} {a : Option Addr} {len cap : Nat} {zs : List Int}
    (h : (a = none ∧ len = 0 ∧ cap = 0 ∧ zs = []) ∨
      ∃ x, a = some x ∧ len ≤ cap ∧ cap ≤ maxLen ∧ zs.length = cap ∧ (∀ i, i < zs.length → w.cell? (x.add i) = some (.int .i64 (zs.getD i 0))) ∧ ∀ n ∈ zs, (Lit.int .i64 n).wf = true) :
    ∃ l : List Int, l.length = len ∧ Srci w a cap l := by
  obtain ⟨l, hl, h1, h2⟩ := rd_of_row h
  refine ⟨l, hl, h1, h2, ?_, ?_, fun hn => ?_⟩
  · rcases h with ⟨rfl, rfl, rfl, rfl⟩ | ⟨x, rfl, h3, h4, _⟩ <;> omega
  · rcases h with ⟨rfl, rfl, rfl, rfl⟩ | ⟨x, rfl, h3, h4, _⟩
    · simp
    · exact h4
  · rcases h with ⟨rfl, rfl, rfl, rfl⟩ | ⟨x, rfl, h3, h4, _⟩
    · exact ⟨rfl, List.eq_nil_of_length_eq_zero hl⟩
    · cases hn

def IntsTo (w : World) (l : List Int) (e : Ending) (w' : World) : Prop := ∃ oa oc, e = .returned (.slice oa l.length oc) ∧ Seg w' 3 1 oa l.length oc (ints l) ∧ Fr [] w w' ∧ ∀ k ∈ blk oa, w.heap.size ≤ k


end Go.Proofs.Ytdbngpncigjfiaa
