/- Boxes that came in, in the form of these texts. -/
import Derived.DataReads
import Derived.OpenShut
import Derived.ChangeArms
import Derived.Deep.Slices
import Derived.Test.YtoplpmkcfgadlaaBroadB
namespace Go.Proofs.Ytoplpmkcfgadlaa
open Go.RowKit Go.ChangeShapes Go.WideShapes Go.Deep

def BX.bnd (B : BX) : Prop := bounded B.x0 ∧ bounded B.y0 ∧ bounded B.x1 ∧ bounded B.y1
theorem trod_box {H : Type} {enc : TypeId × Value → H} {w : World} {base : Nat} {spare : Nat → Bool} {held : Bool} {fuel : Nat} {cs : List Value} {x : DataW H × List MemPlace}
    (h : DataW.trod enc Try.prog w base spare held fuel 23 cs = some x) : ∃ B : BX, cs = BX.cl B ∧ B.bnd := by
  have hc : Try.prog.cellsOf 23 = 4 := by kernel_rfl
  have h1 : Try.prog.cellsOf 3 = 1 := by kernel_rfl
  obtain ⟨xs, n, -, -, hlen, hxl, hf⟩ := DataW.trod_struct Try.underlying23 h
  rw [hc] at hlen
  have hx4 : xs.length = 4 := hxl
  match cs, hlen with
  | [c0, c1, c2, c3], _ =>
    have key : ∀ i (hi : i < 4) (c : Value) (f : Field), DataW.trod enc Try.prog w base spare held n 3 [c] = xs[i]? → ∃ z : Int, c = .int .i64 z ∧ bounded z := fun i hi c f hk => by
      rw [List.getElem?_eq_getElem (by omega)] at hk
      obtain ⟨z, hz, -, hw⟩ := DataW.trod_int Try.underlying3 hk
      simp at hz
      exact ⟨z, hz, wf_bounded hw⟩
    have e0 : DataW.trod enc Try.prog w base spare held n 3 ((([c0, c1, c2, c3] : List Value).drop 0).take (Try.prog.cellsOf 3)) = xs[0]? := hf 0 _ rfl
    have e1 : DataW.trod enc Try.prog w base spare held n 3 ((([c0, c1, c2, c3] : List Value).drop 1).take (Try.prog.cellsOf 3)) = xs[1]? := hf 1 _ rfl
    have e2 : DataW.trod enc Try.prog w base spare held n 3 ((([c0, c1, c2, c3] : List Value).drop 2).take (Try.prog.cellsOf 3)) = xs[2]? := hf 2 _ rfl
    have e3 : DataW.trod enc Try.prog w base spare held n 3 ((([c0, c1, c2, c3] : List Value).drop 3).take (Try.prog.cellsOf 3)) = xs[3]? := hf 3 _ rfl
    rw [h1] at e0 e1 e2 e3
    obtain ⟨z0, rfl, k0⟩ := key 0 (by omega) c0 default (by simpa using e0)
    obtain ⟨z1, rfl, k1⟩ := key 1 (by omega) c1 default (by simpa using e1)
    obtain ⟨z2, rfl, k2⟩ := key 2 (by omega) c2 default (by simpa using e2)
    obtain ⟨z3, rfl, k3⟩ := key 3 (by omega) c3 default (by simpa using e3)
    exact ⟨⟨z0, z1, z2, z3⟩, rfl, k0, k1, k2, k3⟩
theorem open_box {H : Type} {enc : TypeId × Value → H} {w : World} {base : Nat} {spare : Nat → Bool} {held : Bool} {r : Reach} {b0 : Nat} {v : Value} {d : DataW H} {ps : List MemPlace}
    (hval : Value.okWide Try.prog w r b0 23 v) (hd : DataW.Trod enc Try.prog w base spare held 23 v d ps) : ∃ B : BX, v = bxV B ∧ B.bnd := by
  obtain ⟨cs, rfl, hs⟩ := okWide_struct Try.underlying23 hval
  obtain ⟨fuel, hf⟩ := hd
  obtain ⟨B, hB, hb⟩ := trod_box hf
  refine ⟨B, ?_, hb⟩
  have h : cs.toList = BX.cl B := hB
  have h2 : cs = (BX.cl B).toArray := by rw [← h]
  rw [h2]; rfl

/-- a slice of boxes that came in -/
theorem open_boxes {H : Type} {enc : TypeId × Value → H} {w : World} {base : Nat} {spare : Nat → Bool} {held : Bool} {ao : Option Addr} {len cap : Nat} {d : DataW H} {ps : List MemPlace}
    (hd : DataW.Trod enc Try.prog w base spare held 27 (.slice ao len cap) d ps) : ∃ bs : List BX, bs.length = len ∧ Rd w 4 ao bs.length (bs.flatMap BX.cl) ∧ ∀ b ∈ bs, b.bnd := by
  obtain ⟨fuel, hf⟩ := hd
  have hc4 : Try.prog.cellsOf 23 = 4 := by kernel_rfl
  rcases open_slice Try.underlying27 hf with h0 | ⟨a, len', cap', m, n, D, Pl, hcs, hb, hl, hm, hmm, hx, hi⟩
  · have h := h0.1
    simp [Value.cells] at h
    obtain ⟨rfl, rfl, rfl⟩ := h
    exact ⟨[], rfl, ⟨rfl, by simp, .inl rfl⟩, by simp⟩
  · simp [Value.cells] at hcs
    obtain ⟨rfl, rfl, rfl⟩ := hcs
    have hlm : len ≤ m := by rw [hmm]; split <;> omega
    have hex : ∀ i, ∃ B : BX, i < len → (∀ j, j < 4 → w.cell? (a.add (i * 4 + j)) = (BX.cl B)[j]?) ∧ B.bnd := by
      intro i
      by_cases hil : i < len
      · obtain ⟨cs', hc, htr⟩ := hi i (by omega)
        rw [hc4] at hc
        obtain ⟨B, rfl, hB⟩ := trod_box htr
        obtain ⟨_, hcl, hat⟩ := World.cells?_some hc
        refine ⟨B, fun _ => ⟨fun j hj => ?_, hB⟩⟩
        have h2 := hat j hj
        rw [Go.Deep.add_add] at h2
        exact h2
      · exact ⟨default, fun h => absurd h hil⟩
    obtain ⟨f, hf2⟩ := Classical.axiomOfChoice hex
    have hlen : ((List.range len).map f).length = len := by simp
    refine ⟨(List.range len).map f, hlen, ⟨by rw [flat_len BX.cl 4 (fun _ => rfl)], by omega, ?_⟩, fun b hbm => ?_⟩
    · rcases Nat.eq_zero_or_pos len with h0 | h0
      · left; rw [hlen]; exact h0
      · right
        have h1 := (hf2 0 h0).1 0 (by omega)
        rw [show (BX.cl (f 0))[0]? = some (.int .i64 (f 0).x0) from rfl] at h1
        have hs : a.spot = none := by
          have := World.cell?_spot h1
          simpa [Addr.add] using this
        have hg : a.block < w.heap.size := by
          have h2 : w.cell? a = some (.int .i64 (f 0).x0) := by simpa [Addr.add] using h1
          unfold World.cell? at h2
          cases hbb : w.heap[a.block]? with
          | none => rw [hbb] at h2; cases h2
          | some o => exact lt_of_blk hbb
        obtain ⟨g, off, sp⟩ := a
        simp only at hs
        subst hs
        refine ⟨g, off, rfl, hg, fun j hj => ?_⟩
        rw [hlen] at hj
        have h3 := (hf2 (j / 4) (by omega)).1 (j % 4) (by omega)
        rw [Addr.add_mid, show j / 4 * 4 + j % 4 = j by omega] at h3
        rw [h3, flat_get BX.cl 4 (fun _ => rfl) (by omega) _ _ (by rw [hlen]; exact hj)]
        have h4 : ((List.range len).map f).toArray[j / 4]! = f (j / 4) := by
          rw [getElem!_pos _ _ (by simp; omega)]; simp
        rw [h4, List.getElem?_eq_getElem (by show j % 4 < 4; omega), getElem!_pos _ _ (by show j % 4 < 4; omega)]
    · obtain ⟨i, hi2, rfl⟩ := List.mem_map.1 hbm
      exact (hf2 i (List.mem_range.1 hi2)).2
end Go.Proofs.Ytoplpmkcfgadlaa
