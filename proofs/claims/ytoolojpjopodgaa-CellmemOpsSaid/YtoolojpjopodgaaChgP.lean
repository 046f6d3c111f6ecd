/- Plain: the cells that a log speaks of, each once, in increasing order. -/
import Derived.Test.YtoolojpjopodgaaOwn9
namespace Go.Proofs.Ytoolojpjopodgaa
open Go.RowKit

def Incr (l : List Int) : Prop := l.Pairwise (· < ·)
def chgStep (acc : List Int) (x : Int) : List Int := if x = acc.getLastD (-1) then acc else acc ++ [x]
def chgF (l : List Int) : List Int := l.foldl chgStep []
theorem chgF_snoc (l : List Int) (x : Int) : chgF (l ++ [x]) = chgStep (chgF l) x := by simp [chgF]

theorem chgF_spec : ∀ (n : Nat) (l : List Int), l.length = n → (∀ x ∈ l, 0 ≤ x) → l.Pairwise (· ≤ ·) → Incr (chgF l) ∧ (∀ x, x ∈ chgF l ↔ x ∈ l) ∧ (∀ x ∈ l, x ≤ (chgF l).getLastD (-1)) ∧ ((chgF l).getLastD (-1) = -1 ∨ (chgF l).getLastD (-1) ∈ l)
  | 0, l, h, _, _ => by
    have : l = [] := List.eq_nil_of_length_eq_zero h
    subst this
    simp [chgF, Incr]
  | n + 1, l, h, h0, hs => by
    obtain ⟨L, b, rfl⟩ : ∃ L b, l = L ++ [b] := by
      refine ⟨l.dropLast, l.getLast (by intro e; subst e; simp at h), ?_⟩
      exact (List.dropLast_concat_getLast _).symm
    obtain ⟨h1, h2, h3, h4⟩ := chgF_spec n L (by simpa using h) (fun x hx => h0 x (by simp [hx])) (List.pairwise_append.1 hs).1
    have hLb : ∀ x ∈ L, x ≤ b := fun x hx => (List.pairwise_append.1 hs).2.2 x hx b (by simp)
    have hb0 : 0 ≤ b := h0 b (by simp)
    rw [chgF_snoc, chgStep]
    by_cases hb : b = (chgF L).getLastD (-1)
    · rw [if_pos hb]
      have hbL : b ∈ L := by
        rcases h4 with h4 | h4
        · omega
        · rwa [← hb] at h4
      refine ⟨h1, fun x => ?_, fun x hx => ?_, ?_⟩
      · rw [h2, List.mem_append, List.mem_singleton]
        constructor
        · exact .inl
        · rintro (h | rfl)
          · exact h
          · exact hbL
      · rw [List.mem_append, List.mem_singleton] at hx
        rcases hx with hx | rfl
        · exact h3 x hx
        · omega
      · right; rw [← hb]; simp
    · rw [if_neg hb]
      have hlt : ∀ x ∈ L, x < b := fun x hx => by
        have a1 := h3 x hx
        have a2 := hLb x hx
        rcases h4 with h4 | h4
        · omega
        · have a3 := hLb _ h4; omega
      refine ⟨?_, fun x => ?_, fun x hx => ?_, ?_⟩
      · rw [Incr, List.pairwise_append]
        refine ⟨h1, by simp, fun x hx y hy => ?_⟩
        simp only [List.mem_singleton] at hy
        subst hy
        exact hlt x ((h2 x).1 hx)
      · rw [List.mem_append, List.mem_append, h2]
      · rw [List.getLastD_eq_getLast?, List.getLast?_append]
        simp only [List.getLast?_singleton, Option.some_or, Option.getD_some]
        rw [List.mem_append, List.mem_singleton] at hx
        rcases hx with hx | rfl
        · exact Int.le_of_lt (hlt x hx)
        · omega
      · right
        rw [List.getLastD_eq_getLast?, List.getLast?_append]
        simp

theorem chgF_len (l : List Int) : (chgF l).length ≤ l.length := by
  unfold chgF
  suffices h : ∀ (l acc : List Int), (l.foldl chgStep acc).length ≤ acc.length + l.length by simpa using h l []
  intro l
  induction l with
  | nil => intro acc; simp
  | cons x l ih =>
    intro acc
    rw [List.foldl_cons, List.length_cons]
    have := ih (chgStep acc x)
    have h2 : (chgStep acc x).length ≤ acc.length + 1 := by unfold chgStep; split <;> simp
    omega

theorem incr_ext : ∀ (a b : List Int), Incr a → Incr b → (∀ x, x ∈ a ↔ x ∈ b) → a = b
  | [], [], _, _, _ => rfl
  | [], y :: b, _, _, h => by have := (h y).2 (by simp); simp at this
  | x :: a, [], _, _, h => by have := (h x).1 (by simp); simp at this
  | x :: a, y :: b, ha, hb, h => by
    obtain ⟨a1, a2⟩ := List.pairwise_cons.1 ha
    obtain ⟨b1, b2⟩ := List.pairwise_cons.1 hb
    have e : x = y := by
      have h1 := (h x).1 (by simp)
      have h2 := (h y).2 (by simp)
      simp only [List.mem_cons] at h1 h2
      rcases h1 with h1 | h1
      · exact h1
      · rcases h2 with h2 | h2
        · exact h2.symm
        · have := a1 y h2; have := b1 x h1; omega
    subst e
    congr 1
    refine incr_ext a b a2 b2 fun z => ?_
    have hz := h z
    simp only [List.mem_cons] at hz
    constructor
    · intro hm
      rcases hz.1 (.inr hm) with rfl | h3
      · have := a1 z hm; omega
      · exact h3
    · intro hm
      rcases hz.2 (.inr hm) with rfl | h3
      · have := b1 z hm; omega
      · exact h3

/-- the cells written since a mark -/
def MemS.chg (s : MemS) (m : Int) : List Int := ((List.range s.cells.length).filter fun i : Nat => (s.log.drop (m - s.base).toNat).any fun e => e.1 == (i : Int)).map fun i : Nat => (i : Int)

theorem MemS.chg_incr (s : MemS) (m : Int) : Incr (s.chg m) := by
  unfold Incr MemS.chg
  rw [List.pairwise_map]
  exact (List.Pairwise.filter _ List.pairwise_lt_range).imp fun h => by omega

theorem MemS.chg_mem {s : MemS} (hok : s.ok) (m : Int) (x : Int) : x ∈ s.chg m ↔ x ∈ (s.log.drop (m - s.base).toNat).map (·.1) := by
  unfold MemS.chg
  simp only [List.mem_map, List.mem_filter, List.mem_range, List.any_eq_true, beq_iff_eq]
  constructor
  · rintro ⟨i, ⟨h1, e, h2, h3⟩, rfl⟩
    exact ⟨e, h2, h3⟩
  · rintro ⟨e, h1, rfl⟩
    have := hok e (List.mem_of_mem_drop h1)
    exact ⟨e.1.toNat, ⟨by omega, e, h1, by omega⟩, by omega⟩

theorem MemS.chg_of {s : MemS} (hok : s.ok) (m : Int) (t : List (Int × Int)) (hp : t.Perm (s.log.drop (m - s.base).toNat)) (hs : t.Pairwise fun x y => x.1 ≤ y.1) : chgF (t.map (·.1)) = s.chg m := by
  obtain ⟨h1, h2, -, -⟩ := chgF_spec _ (t.map (·.1)) rfl (fun x hx => by
    obtain ⟨e, he, rfl⟩ := List.mem_map.1 hx
    exact (hok e (List.mem_of_mem_drop (hp.mem_iff.1 he))).1) (by rw [List.pairwise_map]; exact hs)
  refine incr_ext _ _ h1 (s.chg_incr m) fun x => ?_
  rw [h2, MemS.chg_mem hok]
  exact (hp.map _).mem_iff

theorem MemS.chg_len (s : MemS) (m : Int) : (s.chg m).length ≤ s.cells.length := by
  unfold MemS.chg
  rw [List.length_map]
  exact Nat.le_trans (List.length_filter_le _ _) (by simp)
end Go.Proofs.Ytoolojpjopodgaa
