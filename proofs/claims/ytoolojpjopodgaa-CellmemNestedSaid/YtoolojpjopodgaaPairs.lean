/- A slice of pairs (arrays of two ints) that came in, in the form of these texts. -/
import Derived.DataReads
import Derived.OpenShut
import Derived.Deep.Slices
import Derived.Test.YtoolojpjopodgaaHelp9
namespace Go.Proofs.Ytoolojpjopodgaa
open Go.RowKit Go.ChangeShapes Go.WideShapes Go.Deep

theorem open_pairs {H : Type} {enc : TypeId × Value → H} {P : Program} {w : World} {base : Nat} {spare : Nat → Bool} {held : Bool} {t ea e : TypeId} {fuel : Nat} {cs : List Value} {x : DataW H × List MemPlace}
    (ht : P.underlying t = some (.slice ea)) (hea : P.underlying ea = some (.array 2 e)) (hce : P.cellsOf ea = 2) (hc1 : P.cellsOf e = 1) (hint : P.underlying e = some (.int .i64))
    (h : DataW.trod enc P w base spare held fuel t cs = some x) :
    cs = [.slice none 0 0] ∨ ∃ (a : Addr) (len cap : Nat) (zs : List (Int × Int)), cs = [.slice (some a) len cap] ∧ len ≤ cap ∧ cap ≤ maxLen ∧ zs.length = len ∧
      ∀ i (hi : i < zs.length), w.cell? (a.add (i * 2)) = some (.int .i64 zs[i].1) ∧ w.cell? (a.add (i * 2 + 1)) = some (.int .i64 zs[i].2) ∧ bounded zs[i].1 ∧ bounded zs[i].2 := by
  rcases open_slice ht h with h0 | ⟨a, len, cap, m, n, D, Pl, hcs, hb, hl, hm, hmm, hx, hi⟩
  · exact .inl h0.1
  · right
    have hlm : len ≤ m := by rw [hmm]; split <;> omega
    have hex : ∀ i, ∃ z : Int × Int, i < len → w.cell? (a.add (i * 2)) = some (.int .i64 z.1) ∧ w.cell? (a.add (i * 2 + 1)) = some (.int .i64 z.2) ∧ bounded z.1 ∧ bounded z.2 := by
      intro i
      by_cases hil : i < len
      · obtain ⟨cs', hc, htr⟩ := hi i (by omega)
        rw [hce] at hc
        obtain ⟨xs, m', -, -, hlen, hxl, hel⟩ := DataW.trod_array hea htr
        rw [hce] at hlen
        rw [hc1] at hel
        match cs', hlen with
        | [c0, c1], _ =>
          obtain ⟨_, hcl, hat⟩ := World.cells?_some hc
          have e0 := hel 0 (by omega)
          have e1 := hel 1 (by omega)
          have s0 : xs[0]? = some (xs[0]'(by omega)) := List.getElem?_eq_getElem (by omega)
          have s1 : xs[1]? = some (xs[1]'(by omega)) := List.getElem?_eq_getElem (by omega)
          rw [s0] at e0
          rw [s1] at e1
          obtain ⟨n0, h0, -, w0⟩ := DataW.trod_int hint e0
          obtain ⟨n1, h1, -, w1⟩ := DataW.trod_int hint e1
          simp at h0 h1
          subst h0; subst h1
          have a0 := hat 0 (by omega)
          have a1 := hat 1 (by omega)
          refine ⟨(n0, n1), fun _ => ⟨?_, ?_, wf_bounded w0, wf_bounded w1⟩⟩
          · simpa [Addr.add] using a0
          · have h2 := a1
            rw [Go.Deep.add_add] at h2
            simpa using h2
      · exact ⟨(0, 0), fun h => absurd h hil⟩
    obtain ⟨f, hf⟩ := Classical.axiomOfChoice hex
    refine ⟨a, len, cap, (List.range len).map f, hcs, hl, hm, by simp, fun i hi => ?_⟩
    have hi' : i < len := by simpa using hi
    have := hf i hi'
    simpa using this

/-- the slice reads as the pairs zs -/
structure Srcp (w : World) (ao : Option Addr) (zs : List (Int × Int)) : Prop where
  rd : Rd w 2 ao zs.length (pairs zs)
  bnd : ∀ z ∈ zs, bounded z.1 ∧ bounded z.2

theorem srcp_of {w : World} {v : Value} {ao : Option Addr} {len cap : Nat} (hv : v = .slice ao len cap)
    (h : [v] = [.slice none 0 0] ∨ ∃ (a : Addr) (len cap : Nat) (zs : List (Int × Int)), [v] = [.slice (some a) len cap] ∧ len ≤ cap ∧ cap ≤ maxLen ∧ zs.length = len ∧
      ∀ i (hi : i < zs.length), w.cell? (a.add (i * 2)) = some (.int .i64 zs[i].1) ∧ w.cell? (a.add (i * 2 + 1)) = some (.int .i64 zs[i].2) ∧ bounded zs[i].1 ∧ bounded zs[i].2) :
    ∃ zs : List (Int × Int), zs.length = len ∧ Srcp w ao zs := by
  subst hv
  rcases h with h | ⟨a, len', cap', zs, h, hl, hm, hz, hc⟩
  · simp at h
    obtain ⟨rfl, rfl, rfl⟩ := h
    exact ⟨[], rfl, ⟨rfl, by simp, .inl rfl⟩, by simp⟩
  · simp at h
    obtain ⟨rfl, rfl, rfl⟩ := h
    refine ⟨zs, hz, ⟨by rw [pairs_length], by omega, ?_⟩, fun z hm => ?_⟩
    · rcases Nat.eq_zero_or_pos zs.length with h0 | h0
      · exact .inl h0
      · right
        have h1 := (hc 0 h0).1
        have hs : a.spot = none := by
          have := World.cell?_spot h1
          simpa [Addr.add] using this
        have hg : a.block < w.heap.size := by
          have h2 : w.cell? a = some (.int .i64 zs[0].1) := by simpa [Addr.add] using h1
          unfold World.cell? at h2
          cases hb : w.heap[a.block]? with
          | none => rw [hb] at h2; cases h2
          | some o => exact lt_of_blk hb
        obtain ⟨g, off, sp⟩ := a
        simp only at hs
        subst hs
        refine ⟨g, off, rfl, hg, fun j hj => ?_⟩
        have hj2 : j / 2 < zs.length := by omega
        obtain ⟨c0, c1, -, -⟩ := hc (j / 2) hj2
        rw [Addr.add_mid] at c0 c1
        rcases Nat.mod_two_eq_zero_or_one j with hp | hp
        · have e : j = j / 2 * 2 := by omega
          rw [e, pairs_get0, List.getElem?_eq_getElem hj2]
          exact c0
        · have e : j = j / 2 * 2 + 1 := by omega
          rw [e, pairs_get1, List.getElem?_eq_getElem hj2]
          exact c1
    · obtain ⟨i, hi, rfl⟩ := List.mem_iff_getElem.1 hm
      exact (hc i hi).2.2

theorem Srcp.pair {w : World} {ao : Option Addr} {zs : List (Int × Int)} (h : Srcp w ao zs) {w' : World} (hf : Fr [] w w') {i : Nat} (hi : i < zs.length) :
    ∃ g off, ao = some ⟨g, off, none⟩ ∧ w'.cell? ⟨g, off + i * 2, none⟩ = some (.int .i64 zs[i].1) ∧ w'.cell? ⟨g, off + i * 2 + 1, none⟩ = some (.int .i64 zs[i].2) := by
  obtain ⟨g, off, rfl, hg, hc⟩ := (h.rd.fr hf (by simp)).at (by omega)
  refine ⟨g, off, rfl, ?_, ?_⟩
  · rw [hc _ (by omega), pairs_get0, List.getElem?_eq_getElem hi]; rfl
  · rw [Nat.add_assoc, hc _ (by omega), pairs_get1, List.getElem?_eq_getElem hi]; rfl
end Go.Proofs.Ytoolojpjopodgaa
