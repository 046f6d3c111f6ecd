/- Chapter 28, plain: what Apply's first loop fills in; applyR by its two parts. -/
import Derived.Test.YtcgndeggemceaaaChgW28
import Derived.Test.YtcgndeggemceaaaDif28
namespace Go.Proofs.Ytcgndeggemceaaa
open Go.RowKit Go.Maps

theorem applyR_parts (a : List (Int × Int)) (b : List Nat) : applyR a b = match remR a b with
    | .bad e => .bad e
    | .ok gone r2 => match chgR a gone r2 with
      | .bad e => .bad e
      | .ok ch r4 => match r4 with
        | [] => .ok (mv a ch gone) []
        | _ :: _ => .bad 8 := by
  unfold applyR remR chgR
  cases readV b with
  | bad e => rfl
  | ok n1 r1 =>
    simp only
    cases remP a n1 (-1) r1 with
    | bad e => rfl
    | ok gone r2 =>
      simp only
      cases readV r2 with
      | bad e => rfl
      | ok n2 r3 => rfl
theorem has_snoc (l : List (Int × Int)) (y : Int × Int) (x : Int) : has (l ++ [y]) x = (x == y.1 || has l x) := by
  unfold has
  rw [List.any_append, Bool.or_comm]
  simp only [List.any_cons, List.any_nil, Bool.or_false]
  congr 1
  rw [Bool.eq_iff_iff, beq_iff_eq, beq_iff_eq]
  exact eq_comm
theorem getv_snoc : ∀ (l : List (Int × Int)) (y : Int × Int) (x : Int), has l y.1 = false → getv (l ++ [y]) x = if x = y.1 then y.2 else getv l x
  | [], y, x, _ => by
    simp only [List.nil_append, getv]
    by_cases h : y.1 = x
    · rw [if_pos h, if_pos h.symm]
    · rw [if_neg h, if_neg (fun e => h e.symm)]
  | z :: l, y, x, h => by
    rw [has_cons, Bool.or_eq_false_iff] at h
    rw [List.cons_append, getv, getv]
    by_cases hz : z.1 = x
    · rw [if_pos hz, if_pos hz, if_neg]
      intro e
      have := h.1
      rw [← e, hz] at this
      simp at this
    · rw [if_neg hz, if_neg hz, getv_snoc l y x h.2]
theorem has_take_lt {a : List (Int × Int)} (h : Srt a) {i : Nat} (hi : i < a.length) : has (a.take i) a[i].1 = false := by
  unfold has
  rw [List.any_eq_false]
  intro x hx
  obtain ⟨j, hj, rfl⟩ := List.mem_iff_getElem.1 hx
  rw [List.length_take] at hj
  rw [List.getElem_take]
  have := List.pairwise_iff_getElem.1 h j i (by omega) hi (by omega)
  simp
  omega
theorem IsM.step {w' : World} {b : Nat} {a : List (Int × Int)} (h : Srt a) {i : Nat} (hi : i < a.length) (hm : IsM w' b (i + 1) (fun x => x == a[i].1 || has (a.take i) x) (fun x => if x = a[i].1 then a[i].2 else getv (a.take i) x)) : IsM w' b (i + 1) (has (a.take (i + 1))) (getv (a.take (i + 1))) := by
  have e : a.take (i + 1) = a.take i ++ [a[i]] := by rw [List.take_succ_eq_append_getElem hi]
  refine hm.congr (Nat.le_refl _) (fun k _ => ?_) (fun k _ => ?_)
  · rw [e, has_snoc]
  · rw [e, getv_snoc _ _ _ (has_take_lt h hi)]
theorem outP_snoc (G : List Int) (T : List Pr) (p : Pr) : (T ++ [p]).filterMap (outP G) = T.filterMap (outP G) ++ (match outP G p with | some y => [y] | none => []) := by
  rw [List.filterMap_append]
  congr 1
  cases h : outP G p <;> simp [h]
theorem mg_ikey : ∀ (a b : List (Int × Int)), (∀ x ∈ a, bd64 x.1 ∧ bd64 x.2) → (∀ x ∈ b, bd64 x.1 ∧ bd64 x.2) → ∀ p ∈ mg a b, bd64 p.bi ∧ bd64 p.bv ∧ bd64 p.ai ∧ bd64 p.av
  | [], b, _, hb, p, hp => by
    rw [mg_nil] at hp
    obtain ⟨y, hy, rfl⟩ := List.mem_map.1 hp
    exact ⟨bd0, bd0, (hb y hy).1, (hb y hy).2⟩
  | x :: a, [], ha, _, p, hp => by
    rw [mg_nil'] at hp
    obtain ⟨y, hy, rfl⟩ := List.mem_map.1 hp
    exact ⟨(ha y hy).1, (ha y hy).2, bd0, bd0⟩
  | x :: a, y :: b, ha, hb, p, hp => by
    have ha' : ∀ z ∈ a, bd64 z.1 ∧ bd64 z.2 := fun z hz => ha z (by simp [hz])
    have hb' : ∀ z ∈ b, bd64 z.1 ∧ bd64 z.2 := fun z hz => hb z (by simp [hz])
    have hx := ha x (by simp)
    have hy := hb y (by simp)
    rcases Int.lt_trichotomy x.1 y.1 with h | h | h
    · rw [mg_lt h] at hp
      rcases List.mem_cons.1 hp with rfl | hp
      · exact ⟨hx.1, hx.2, bd0, bd0⟩
      · exact mg_ikey a (y :: b) ha' hb p hp
    · rw [mg_eq h] at hp
      rcases List.mem_cons.1 hp with rfl | hp
      · exact ⟨hx.1, hx.2, hy.1, hy.2⟩
      · exact mg_ikey a b ha' hb' p hp
    · rw [mg_gt h] at hp
      rcases List.mem_cons.1 hp with rfl | hp
      · exact ⟨bd0, bd0, hy.1, hy.2⟩
      · exact mg_ikey (x :: a) b ha hb' p hp
termination_by a b => a.length + b.length
end Go.Proofs.Ytcgndeggemceaaa
