/- slices.SortFunc by its contract, told in segments: elements of one cell. Generic over the program. -/
import Derived.Test.YtoplpmkcfgadlaaSortK
namespace Go.Proofs.Ytoplpmkcfgadlaa
open Go.RowKit Go.Sort Go.Lib Go.Shelf

section
variable {α : Type} [Inhabited α]
theorem flat1 (enc : α → Value) (d : Array α) : flatK (fun x => [enc x]) 1 d = d.map enc := by
  apply Array.ext
  · simp
  · intro i h1 h2
    have hi : i < d.size := by simpa using h2
    have h := get_flatK (fun x => [enc x]) 1 d i (by omega)
    rw [getElem!_pos _ i h1] at h
    rw [h, Array.getElem_map, Nat.div_one, getElem!_pos d i hi, Nat.mod_one]
    rfl
theorem put1 (enc : α → Value) (off : Nat) (d : Array α) (c : Array Value) : putCells enc off d c = putCells id off (d.map enc) c := by
  unfold putCells
  apply Array.ext
  · simp
  · intro i h1 h2
    simp only [Array.getElem_mapIdx, Array.size_map]
    split
    · rename_i h
      rw [getElem!_pos d (i - off) (by omega), getElem!_pos (d.map enc) (i - off) (by simp; omega)]
      simp
    · rfl
theorem sortWorld_one (enc : α → Value) (w : World) (blk off m : Nat) (dk : Array α) (os : Array Obj) : sortWorld enc w blk off m dk os = sortWorldK (fun x => [enc x]) 1 w blk off m dk os := by
  unfold sortWorld sortWorldK putRowK putRow
  rw [flat1]
  congr 2
  funext c
  exact put1 enc off dk c
theorem holds_one (enc : α → Value) {w : World} {b off : Nat} {d : Array α} (h : HoldsK (fun x => [enc x]) 1 w b off d) : Holds enc w b off d := by
  unfold HoldsK at h
  rw [flat1] at h
  intro j hj
  have := h j (by simpa using hj)
  rw [getElem!_pos (d.map enc) j (by simpa using hj)] at this
  rw [getElem!_pos d j hj]
  simpa using this

theorem sort1_seg {P : Program} {ρ : Ren} (L : SlLaysF.n6 P ρ) (enc : α → Value) (h1 : OneCell enc) (cf : α → α → Int) (hO : SWO (ltOf cf)) (g : Nat) (cb : Array Value)
    (w : World) (eg : ∀ args w, (callFunc g args).run P w = .ok (.enter g args) w) {e : TypeId} {b off cap : Nat} {t : List α} (hseg : Seg w e 1 (some ⟨b, off, none⟩) t.length cap (t.flatMap fun x => [enc x])) (hsz : t.length < 4611686018427387904)
    (hcmp : CmpLays1 P g cb enc cf b off t.length w) :
    Calls P (ρ.f 6) #[.slice (some ⟨b, off, none⟩) t.length cap, .func (.func g) #[] cb] w fun r w' =>
      r = .returned (.tuple #[]) ∧ ∃ t' : List α, t'.Perm t ∧ t'.Pairwise (fun x y => ltOf cf y x = false) ∧ Seg w' e 1 (some ⟨b, off, none⟩) t'.length cap (t'.flatMap fun x => [enc x]) ∧ Fr [b] w w' := by
  have hh := holds_one enc (holds_of_seg (fun x => [enc x]) 1 (fun _ => rfl) (by omega) hseg)
  have hlt : b < w.heap.size := hseg.lt b (by simp [blk])
  have h := Any.slices_SortFunc L enc h1 cf hO g cb b off cap t.toArray w eg (by simpa using hcmp) hh hlt (by simpa using hsz)
  simp only [List.size_toArray] at h
  refine h.mono ?_
  rintro r w' ⟨h4, d', m, os, hp, hs, rfl⟩
  have hsz' : d'.size = t.length := by simpa using hp.1
  obtain ⟨h5, h6⟩ := seg_of_sort (fun x => [enc x]) 1 (fun _ => rfl) (by omega) hseg m d' os hsz'
  rw [← sortWorld_one] at h5 h6
  have hpl := perm_of_in (d := t.toArray) (d' := d') (by simp only [List.size_toArray]; exact hp)
  refine ⟨h4, d'.toList, by simpa using hpl, pairwise_of_in (by rw [hsz']; exact hs), ?_, h6⟩
  rw [Array.length_toList, hsz']
  exact h5
end

/-! ### worlds that have only grown -/
theorem grown_of {W W' : World} (h1 : W'.os = W.os) (h2 : W'.tape = W.tape) (h3 : W'.output = W.output) (h4 : W.drawn ≤ W'.drawn) (h5 : W.heap.size ≤ W'.heap.size) (h6 : ∀ i, i < W.heap.size → W'.heap[i]? = W.heap[i]?) : ∃ q os', W' = grow (W.drewN q) os' := by
  refine ⟨W'.drawn - W.drawn, W'.heap.extract W.heap.size W'.heap.size, ?_⟩
  have hh : W'.heap = W.heap ++ W'.heap.extract W.heap.size W'.heap.size := by
    apply Array.ext_getElem?
    intro i
    by_cases hi : i < W.heap.size
    · rw [h6 i hi, Array.getElem?_append_left hi]
    · rw [Array.getElem?_append_right (by omega), Array.getElem?_extract]
      by_cases h7 : i < W'.heap.size
      · rw [if_pos (by omega)]; congr 1; omega
      · rw [if_neg (by omega), Array.getElem?_eq_none (by omega)]
  obtain ⟨h, t, d, o, u⟩ := W'
  obtain ⟨h', t', d', o', u'⟩ := W
  simp only at h1 h2 h3 h4 hh
  subst h1 h2 h3
  unfold grow World.drewN
  simp only [World.mk.injEq, true_and, and_true]
  exact ⟨hh, by omega⟩
end Go.Proofs.Ytoplpmkcfgadlaa
