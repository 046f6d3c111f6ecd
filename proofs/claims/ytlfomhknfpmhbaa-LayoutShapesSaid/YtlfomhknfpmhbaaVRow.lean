/- A slice of vectors that came in, in the form of these texts. -/
import Derived.DataReads
import Derived.OpenShut
import Derived.ChangeArms
import Derived.Deep.Slices
import Derived.Test.YtlfomhknfpmhbaaEdge12
namespace Go.Proofs.Ytlfomhknfpmhbaa
open Go.RowKit Go.ChangeShapes Go.WideShapes Go.Deep

theorem trod_vec {H : Type} {enc : TypeId × Value → H} {w : World} {base : Nat} {spare : Nat → Bool} {held : Bool} {fuel : Nat} {cs : List Value} {x : DataW H × List MemPlace}
    (h : DataW.trod enc Try.prog w base spare held fuel 29 cs = some x) : ∃ B : Int × Int, cs = drCells B ∧ bounded B.1 ∧ bounded B.2 := by
  have hc : Try.prog.cellsOf 29 = 2 := by kernel_rfl
  have h1 : Try.prog.cellsOf 3 = 1 := by kernel_rfl
  obtain ⟨xs, n, -, -, hlen, hxl, hf⟩ := DataW.trod_struct Try.underlying29 h
  rw [hc] at hlen
  have hx4 : xs.length = 2 := hxl
  match cs, hlen with
  | [c0, c1], _ =>
    have key : ∀ i (hi : i < 2) (c : Value) (f : Field), DataW.trod enc Try.prog w base spare held n 3 [c] = xs[i]? → ∃ z : Int, c = .int .i64 z ∧ bounded z := fun i hi c f hk => by
      rw [List.getElem?_eq_getElem (by omega)] at hk
      obtain ⟨z, hz, -, hw⟩ := DataW.trod_int Try.underlying3 hk
      simp at hz
      exact ⟨z, hz, wf_bounded hw⟩
    have e0 : DataW.trod enc Try.prog w base spare held n 3 ((([c0, c1] : List Value).drop 0).take (Try.prog.cellsOf 3)) = xs[0]? := hf 0 _ rfl
    have e1 : DataW.trod enc Try.prog w base spare held n 3 ((([c0, c1] : List Value).drop 1).take (Try.prog.cellsOf 3)) = xs[1]? := hf 1 _ rfl
    rw [h1] at e0 e1
    obtain ⟨z0, rfl, k0⟩ := key 0 (by omega) c0 default (by simpa using e0)
    obtain ⟨z1, rfl, k1⟩ := key 1 (by omega) c1 default (by simpa using e1)
    exact ⟨(z0, z1), rfl, k0, k1⟩

/-- a slice of vectors that came in -/
theorem open_vecs {H : Type} {enc : TypeId × Value → H} {w : World} {base : Nat} {spare : Nat → Bool} {held : Bool} {ao : Option Addr} {len cap : Nat} {d : DataW H} {ps : List MemPlace}
    (hd : DataW.Trod enc Try.prog w base spare held 46 (.slice ao len cap) d ps) : ∃ bs : List (Int × Int), bs.length = len ∧ Rd w 2 ao bs.length (vecs bs) ∧ ∀ b ∈ bs, bounded b.1 ∧ bounded b.2 := by
  obtain ⟨fuel, hf⟩ := hd
  have hc4 : Try.prog.cellsOf 29 = 2 := by kernel_rfl
  rcases open_slice Try.underlying46 hf with h0 | ⟨a, len', cap', m, n, D, Pl, hcs, hb, hl, hm, hmm, hx, hi⟩
  · have h := h0.1
    simp [Value.cells] at h
    obtain ⟨rfl, rfl, rfl⟩ := h
    exact ⟨[], rfl, ⟨rfl, by simp, .inl rfl⟩, by simp⟩
  · simp [Value.cells] at hcs
    obtain ⟨rfl, rfl, rfl⟩ := hcs
    have hlm : len ≤ m := by rw [hmm]; split <;> omega
    have hex : ∀ i, ∃ B : Int × Int, i < len → (∀ j, j < 2 → w.cell? (a.add (i * 2 + j)) = (drCells B)[j]?) ∧ bounded B.1 ∧ bounded B.2 := by
      intro i
      by_cases hil : i < len
      · obtain ⟨cs', hc, htr⟩ := hi i (by omega)
        rw [hc4] at hc
        obtain ⟨B, rfl, hB⟩ := trod_vec htr
        obtain ⟨_, hcl, hat⟩ := World.cells?_some hc
        refine ⟨B, fun _ => ⟨fun j hj => ?_, hB⟩⟩
        have h2 := hat j hj
        rw [Go.Deep.add_add] at h2
        exact h2
      · exact ⟨default, fun h => absurd h hil⟩
    obtain ⟨f, hf2⟩ := Classical.axiomOfChoice hex
    have hlen : ((List.range len).map f).length = len := by simp
    refine ⟨(List.range len).map f, hlen, ⟨by unfold vecs; rw [flat_len drCells 2 (fun _ => rfl)], by omega, ?_⟩, fun b hbm => ?_⟩
    · rcases Nat.eq_zero_or_pos len with h0 | h0
      · left; rw [hlen]; exact h0
      · right
        have h1 := (hf2 0 h0).1 0 (by omega)
        rw [show (drCells (f 0))[0]? = some (.int .i64 (f 0).1) from rfl] at h1
        have hs : a.spot = none := by
          have := World.cell?_spot h1
          simpa [Addr.add] using this
        have hg : a.block < w.heap.size := by
          have h2 : w.cell? a = some (.int .i64 (f 0).1) := by simpa [Addr.add] using h1
          unfold World.cell? at h2
          cases hbb : w.heap[a.block]? with
          | none => rw [hbb] at h2; cases h2
          | some o => exact lt_of_blk hbb
        obtain ⟨g, off, sp⟩ := a
        simp only at hs
        subst hs
        refine ⟨g, off, rfl, hg, fun j hj => ?_⟩
        rw [hlen] at hj
        have h3 := (hf2 (j / 2) (by omega)).1 (j % 2) (by omega)
        rw [Addr.add_mid, show j / 2 * 2 + j % 2 = j by omega] at h3
        have h4 := flat_get drCells 2 (fun _ => rfl) ((List.range len).map f) (j / 2) (j % 2) (by rw [hlen]; omega) (by omega)
        rw [show j / 2 * 2 + j % 2 = j by omega] at h4
        unfold vecs
        rw [h3, h4]
        simp
    · obtain ⟨i, hi2, rfl⟩ := List.mem_map.1 hbm
      exact (hf2 i (List.mem_range.1 hi2)).2
end Go.Proofs.Ytlfomhknfpmhbaa
