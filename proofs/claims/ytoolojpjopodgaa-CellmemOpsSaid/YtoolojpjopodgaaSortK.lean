/- slices.SortFunc by its contract, told in segments: elements of k cells. Generic over the program. -/
import Derived.Shelf.SlSortCmp.NoneTotal
import Derived.Test.YtoolojpjopodgaaBase
namespace Go.Proofs.Ytoolojpjopodgaa
open Go.RowKit Go.Sort Go.Lib Go.Shelf

section
theorem flat_len {α : Type} (enc : α → List Value) (k : Nat) (hk : ∀ x, (enc x).length = k) (t : List α) : (t.flatMap enc).length = t.length * k := by
  induction t with
  | nil => simp
  | cons x t ih => rw [List.flatMap_cons, List.length_append, hk, ih, List.length_cons, Nat.add_mul]; omega

variable {α : Type} [Inhabited α]

theorem flat_get (enc : α → List Value) (k : Nat) (hk : ∀ x, (enc x).length = k) (hk0 : 0 < k) (t : List α) (j : Nat) (hj : j < t.length * k) :
    (t.flatMap enc)[j]? = some ((enc t.toArray[j / k]!)[j % k]!) := by
  induction t generalizing j with
  | nil => simp at hj
  | cons x t ih =>
    rw [List.flatMap_cons]
    by_cases h : j < k
    · rw [List.getElem?_append_left (by rw [hk]; exact h), Nat.div_eq_of_lt h, Nat.mod_eq_of_lt h, List.getElem?_eq_getElem (by rw [hk]; exact h)]
      simp [hk, h]
    · rw [List.getElem?_append_right (by rw [hk]; omega), hk]
      have e1 : j / k = (j - k) / k + 1 := by
        rw [← Nat.add_div_right _ hk0]; congr 1; omega
      have e2 : j % k = (j - k) % k := by
        conv => lhs; rw [show j = (j - k) + k by omega]
        exact Nat.add_mod_right _ _
      rw [ih (j - k) (by rw [List.length_cons, Nat.add_mul] at hj; omega), e1, e2]
      simp

theorem holds_of_seg (enc : α → List Value) (k : Nat) (hk : ∀ x, (enc x).length = k) (hk0 : 0 < k) {w : World} {e : TypeId} {g off cap : Nat} {t : List α} (h : Seg w e k (some ⟨g, off, none⟩) t.length cap (t.flatMap enc)) :
    HoldsK enc k w g off t.toArray := by
  intro j hj
  rw [size_flatK] at hj
  simp only [List.size_toArray] at hj
  rw [get_flatK _ _ _ _ (by simpa using hj)]
  rcases h.2.2.2 with ⟨hn, _⟩ | ⟨g', off', cur, ha, hg, h2, h3⟩
  · cases hn
  · cases ha
    refine ⟨?_, frozen_blk hg _⟩
    have h4 := flat_get enc k hk hk0 t j hj
    rw [cell_blk hg]
    rw [← h3, List.getElem?_take, if_pos hj, List.getElem?_drop, Array.getElem?_toList] at h4
    exact h4

theorem put_get (off : Nat) (F c : Array Value) (i : Nat) : (putCells id off F c)[i]? = c[i]?.map fun x => if off ≤ i ∧ i < off + F.size then F[i - off]! else x := by
  unfold putCells
  rw [Array.getElem?_mapIdx]
  rfl

theorem seg_of_sort (enc : α → List Value) (k : Nat) (hk : ∀ x, (enc x).length = k) (hk0 : 0 < k) {w : World} {e : TypeId} {g off cap n : Nat} {xs : List Value} (h : Seg w e k (some ⟨g, off, none⟩) n cap xs)
    (m : Nat) (d' : Array α) (os : Array Obj) (hd : d'.size = n) : Seg (sortWorldK enc k w g off m d' os) e k (some ⟨g, off, none⟩) n cap (d'.toList.flatMap enc) ∧ Fr [g] w (sortWorldK enc k w g off m d' os) := by
  rcases h.2.2.2 with ⟨hn, _⟩ | ⟨g', off', cur, ha, hg, h2, h3⟩
  · cases hn
  cases ha
  have hlt := lt_of_blk hg
  have hb : (sortWorldK enc k w g off m d' os).heap[g]? = some (.cells (putCells id off (flatK enc k d') cur) e (0, 0)) := by
    show ((w.heap.modify g _) ++ os)[g]? = _
    rw [Array.getElem?_append_left (by simpa using hlt), Array.getElem?_modify, if_pos rfl, hg]
    rfl
  have hl : n * k ≤ cap * k := Nat.mul_le_mul_right _ h.2.2.1
  have hcs : (putCells id off (flatK enc k d') cur).size = cur.size := by simp [putCells]
  refine ⟨⟨by rw [flat_len enc k hk]; simp [hd], h.2.1, h.2.2.1, .inr ⟨g, off, _, rfl, hb, by rw [hcs]; exact h2, ?_⟩⟩, ?_⟩
  · apply List.ext_getElem?
    intro j
    rw [List.getElem?_take]
    by_cases hj : j < n * k
    · rw [if_pos hj, List.getElem?_drop, Array.getElem?_toList, put_get, flat_get enc k hk hk0 _ _ (by simp [hd]; exact hj), Array.getElem?_eq_getElem (by omega)]
      simp only [Option.map_some]
      rw [if_pos (by rw [size_flatK, hd]; omega), show off + j - off = j by omega, get_flatK _ _ _ _ (by rw [hd]; exact hj)]
    · rw [if_neg hj, List.getElem?_eq_none (by rw [flat_len enc k hk]; simp [hd]; omega)]
  · refine ⟨rfl, rfl, rfl, ?_, fun i hi hS => ?_⟩
    · show _ ≤ ((w.heap.modify g _) ++ os).size
      simp
    · show ((w.heap.modify g _) ++ os)[i]? = _
      rw [Array.getElem?_append_left (by simpa using hi), Array.getElem?_modify, if_neg (by simp at hS; omega)]

theorem perm_of_in {d d' : Array α} (h : PermIn 0 d.size d d') : d'.toList.Perm d.toList := by
  obtain ⟨h1, _, h2⟩ := h
  have e1 : d'.extract 0 d.size = d' := by rw [← h1]; simp
  have e2 : d.extract 0 d.size = d := by simp
  rwa [e1, e2] at h2

theorem pairwise_of_in {lt : α → α → Bool} {d' : Array α} (h : SortedIn lt 0 d'.size d') : d'.toList.Pairwise fun x y => lt y x = false := by
  rw [List.pairwise_iff_getElem]
  intro i j hi hj hij
  have := h i j (by omega) hij (by simpa using hj)
  simp only [Array.length_toList] at hi hj
  rwa [getElem!_pos d' j hj, getElem!_pos d' i hi] at this

theorem sort_seg {P : Program} {ρ : Ren} (L : SlLaysF0.n6 P ρ) (k : Nat) (hk0 : 0 < k) (aE : ∀ w, (isAgg (ρ.t 24)).run P w = .ok true w) (zE : ∀ w, (Go.sizeOf (ρ.t 24)).run P w = .ok k w) (enc : α → List Value) (hk : ∀ x, (enc x).length = k) (h1 : ∀ x, ∀ v ∈ enc x, v.oneCell' = true) (cf : α → α → Int) (hO : SWO (ltOf cf)) (g : Nat) (cb : Array Value)
    (w : World) (eg : ∀ args w, (callFunc g args).run P w = .ok (.enter g args) w) {e : TypeId} {ao : Option Addr} {cap : Nat} {t : List α} (hseg : Seg w e k ao t.length cap (t.flatMap enc)) (hsz : t.length < 4611686018427387904)
    (hcmp : ∀ b off, ao = some ⟨b, off, none⟩ → CmpLays P g cb enc k cf b off t.length w) :
    Calls P (ρ.f 6) #[.slice ao t.length cap, .func (.func g) #[] cb] w fun r w' =>
      r = .returned (.tuple #[]) ∧ ∃ t' : List α, t'.Perm t ∧ t'.Pairwise (fun x y => ltOf cf y x = false) ∧ Seg w' e k ao t'.length cap (t'.flatMap enc) ∧ Fr (blk ao) w w' := by
  have hlen := hseg.2.2.1
  have hcap := hseg.2.1
  rcases hseg.2.2.2 with ⟨rfl, hn, hc⟩ | ⟨b, off, cur, rfl, hg, h2, h3⟩
  · have ht : t = [] := List.eq_nil_of_length_eq_zero hn
    subst ht
    refine (AnyF.slices_SortFunc_none L none cap _ w).mono ?_
    rintro r w' ⟨h1, rfl⟩
    exact ⟨h1, [], List.Perm.refl _, List.Pairwise.nil, hseg, Fr.refl _ _⟩
  · have hh := holds_of_seg enc k hk hk0 hseg
    have h := AnyQ.slices_SortFunc L k aE zE enc hk h1 cf hO g cb b off cap t.toArray w eg (by simpa using hcmp b off rfl) hh (lt_of_blk hg) (by simpa using hsz)
    simp only [List.size_toArray] at h
    refine h.mono ?_
    rintro r w' ⟨h4, d', m, os, hp, hs, rfl⟩
    have hsz' : d'.size = t.length := by simpa using hp.1
    obtain ⟨h5, h6⟩ := seg_of_sort enc k hk hk0 hseg m d' os hsz'
    have hpl := perm_of_in (d := t.toArray) (d' := d') (by simp only [List.size_toArray]; exact hp)
    refine ⟨h4, d'.toList, by simpa using hpl, pairwise_of_in (by rw [hsz']; exact hs), ?_, by simpa [blk] using h6⟩
    rw [Array.length_toList, hsz']
    exact h5
end
end Go.Proofs.Ytoolojpjopodgaa
