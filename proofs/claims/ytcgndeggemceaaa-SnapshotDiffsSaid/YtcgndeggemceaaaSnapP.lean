/- Chapter 28, plain: views, the difference of two views, and what applying it leaves. -/
import Derived.Test.YtcgndeggemceaaaVarP
namespace Go.Proofs.Ytcgndeggemceaaa
open Go.RowKit

/-! ### views -/
def bd64 (x : Int) : Prop := -9223372036854775808 ≤ x ∧ x ≤ 9223372036854775807
def Srt (l : List (Int × Int)) : Prop := l.Pairwise fun a b => a.1 < b.1
def idxOk (k : Int) : Prop := 0 ≤ k ∧ k ≤ 2147483647
structure IsView (l : List (Int × Int)) : Prop where
  srt : Srt l
  idx : ∀ x ∈ l, idxOk x.1
  val : ∀ x ∈ l, bd64 x.2
def has (l : List (Int × Int)) (k : Int) : Bool := l.any fun x => x.1 == k
def getv : List (Int × Int) → Int → Int
  | [], _ => 0
  | x :: l, k => if x.1 = k then x.2 else getv l k

theorem has_mem {l : List (Int × Int)} {k : Int} : has l k = true ↔ ∃ v, (k, v) ∈ l := by
  unfold has
  rw [List.any_eq_true]
  constructor
  · rintro ⟨x, hx, h⟩; rw [beq_iff_eq] at h; exact ⟨x.2, by rw [← h]; exact hx⟩
  · rintro ⟨v, h⟩; exact ⟨_, h, by simp⟩
theorem has_cons (x : Int × Int) (l : List (Int × Int)) (k : Int) : has (x :: l) k = ((x.1 == k) || has l k) := rfl
theorem has_lt {l : List (Int × Int)} {k : Int} (h : ∀ x ∈ l, k < x.1) : has l k = false := by
  rw [Bool.eq_false_iff]
  intro h1
  obtain ⟨v, hv⟩ := has_mem.1 h1
  have := h _ hv
  simp only at this; omega
theorem Srt.tail {x : Int × Int} {l : List (Int × Int)} (h : Srt (x :: l)) : Srt l := (List.pairwise_cons.1 h).2
theorem Srt.head {x : Int × Int} {l : List (Int × Int)} (h : Srt (x :: l)) : ∀ y ∈ l, x.1 < y.1 := (List.pairwise_cons.1 h).1
theorem getv_mem {l : List (Int × Int)} (h : Srt l) {x : Int × Int} (hx : x ∈ l) : getv l x.1 = x.2 := by
  induction l with
  | nil => cases hx
  | cons y l ih =>
    unfold getv
    rcases List.mem_cons.1 hx with h1 | h1
    · subst h1; rw [if_pos rfl]
    · have := h.head x h1
      rw [if_neg (by omega)]; exact ih h.tail h1
theorem getv_none {l : List (Int × Int)} {k : Int} (h : has l k = false) : getv l k = 0 := by
  induction l with
  | nil => rfl
  | cons y l ih =>
    rw [has_cons, Bool.or_eq_false_iff] at h
    unfold getv
    rw [if_neg (by have := h.1; rw [beq_eq_false_iff_ne] at this; exact this)]
    exact ih h.2
theorem getv_bd {l : List (Int × Int)} (h : ∀ x ∈ l, bd64 x.2) (k : Int) : bd64 (getv l k) := by
  induction l with
  | nil => unfold getv bd64; omega
  | cons y l ih =>
    unfold getv
    split
    · exact h y (by simp)
    · exact ih fun x hx => h x (by simp [hx])
theorem getv_has {l : List (Int × Int)} {k : Int} (h : has l k = true) : (k, getv l k) ∈ l := by
  induction l with
  | nil => cases h
  | cons y l ih =>
    unfold getv
    by_cases e : y.1 = k
    · rw [if_pos e, ← e]; simp
    · rw [if_neg e]
      rw [has_cons, Bool.or_eq_true, beq_iff_eq] at h
      rcases h with h1 | h1
      · exact absurd h1 e
      · exact List.mem_cons_of_mem _ (ih h1)

/-- two lists in strictly rising order that hold the same elements -/
theorem srt_eq : ∀ {l m : List (Int × Int)}, Srt l → Srt m → (∀ x, x ∈ l ↔ x ∈ m) → l = m := by
  intro l
  induction l with
  | nil =>
    intro m _ _ h
    cases m with
    | nil => rfl
    | cons y m => exact absurd ((h y).2 (by simp)) (by simp)
  | cons x l ih =>
    intro m hl hm h
    cases m with
    | nil => exact absurd ((h x).1 (by simp)) (by simp)
    | cons y m =>
      have hxy : x = y := by
        have h1 := (h x).1 (by simp)
        have h2 := (h y).2 (by simp)
        rcases List.mem_cons.1 h1 with e | e
        · exact e
        · rcases List.mem_cons.1 h2 with e2 | e2
          · exact e2.symm
          · have a1 := hm.head x e
            have a2 := hl.head y e2
            omega
      subst hxy
      congr 1
      refine ih hl.tail hm.tail fun z => ?_
      constructor
      · intro hz
        rcases List.mem_cons.1 ((h z).1 (by simp [hz])) with e | e
        · subst e; have := hl.head z hz; omega
        · exact e
      · intro hz
        rcases List.mem_cons.1 ((h z).2 (by simp [hz])) with e | e
        · subst e; have := hm.head z hz; omega
        · exact e
theorem ints_eq {l m : List Int} (hl : l.Pairwise (· < ·)) (hm : m.Pairwise (· < ·)) (h : ∀ x, x ∈ l ↔ x ∈ m) : l = m := by
  have e : ∀ l : List Int, (l.map fun x => (x, (0 : Int))).map Prod.fst = l := fun l => by rw [List.map_map]; exact List.map_id _
  have h1 : (l.map fun x => (x, (0 : Int))) = m.map fun x => (x, (0 : Int)) := by
    refine srt_eq ?_ ?_ fun x => ?_
    · unfold Srt; rw [List.pairwise_map]; exact hl
    · unfold Srt; rw [List.pairwise_map]; exact hm
    · simp only [List.mem_map]
      constructor
      · rintro ⟨y, hy, rfl⟩; exact ⟨y, (h y).1 hy, rfl⟩
      · rintro ⟨y, hy, rfl⟩; exact ⟨y, (h y).2 hy, rfl⟩
  rw [← e l, ← e m, h1]

/-! ### the merge of two views -/
structure Pr where
  bi : Int
  bv : Int
  ai : Int
  av : Int
  ib : Bool
  ia : Bool
def prB (x : Int × Int) : Pr := ⟨x.1, x.2, 0, 0, true, false⟩
def prA (y : Int × Int) : Pr := ⟨0, 0, y.1, y.2, false, true⟩
def prX (x y : Int × Int) : Pr := ⟨x.1, x.2, y.1, y.2, true, true⟩
def mg : List (Int × Int) → List (Int × Int) → List Pr
  | [], b => b.map prA
  | x :: a, [] => (x :: a).map prB
  | x :: a, y :: b => if x.1 < y.1 then prB x :: mg a (y :: b) else if y.1 < x.1 then prA y :: mg (x :: a) b else prX x y :: mg a b
termination_by a b => a.length + b.length
theorem mg_nil (b : List (Int × Int)) : mg [] b = b.map prA := by cases b <;> rw [mg]
theorem mg_nil' (a : List (Int × Int)) : mg a [] = a.map prB := by cases a <;> simp [mg]
theorem mg_lt {x y : Int × Int} {a b : List (Int × Int)} (h : x.1 < y.1) : mg (x :: a) (y :: b) = prB x :: mg a (y :: b) := by rw [mg, if_pos h]
theorem mg_gt {x y : Int × Int} {a b : List (Int × Int)} (h : y.1 < x.1) : mg (x :: a) (y :: b) = prA y :: mg (x :: a) b := by rw [mg, if_neg (by omega), if_pos h]
theorem mg_eq {x y : Int × Int} {a b : List (Int × Int)} (h : x.1 = y.1) : mg (x :: a) (y :: b) = prX x y :: mg a b := by rw [mg, if_neg (by omega), if_neg (by omega)]
theorem mg_len : ∀ (a b : List (Int × Int)), (mg a b).length ≤ a.length + b.length := by
  intro a b
  induction a, b using mg.induct with
  | case1 b => rw [mg_nil]; simp
  | case2 x a => rw [mg_nil']; simp
  | case3 x a y b h ih => rw [mg_lt h]; simp only [List.length_cons] at ih ⊢; omega
  | case4 x a y b h h2 ih => rw [mg_gt h2]; simp only [List.length_cons] at ih ⊢; omega
  | case5 x a y b h h2 ih => rw [mg_eq (by omega)]; simp only [List.length_cons] at ih ⊢; omega

/-- what is gone, what is changed -/
def goneL (a b : List (Int × Int)) : List Int := (a.filter fun x => !(has b x.1)).map (·.1)
def same (a : List (Int × Int)) (y : Int × Int) : Bool := has a y.1 && getv a y.1 == y.2
def chgL (a b : List (Int × Int)) : List (Int × Int) := b.filter fun y => !(same a y)
def isGone (p : Pr) : Bool := !p.ia
def isChg (p : Pr) : Bool := p.ia && (!p.ib || !(p.bi == p.ai && p.bv == p.av))
def goneP (t : List Pr) : List Int := (t.filter isGone).map (·.bi)
def chgP' (t : List Pr) : List (Int × Int × Int) := (t.filter isChg).map fun p => (p.ai, p.av, p.bv)

def encG (prev : Int) : List Int → List Nat
  | [] => []
  | k :: r => varN (k - prev - 1).toNat ++ encG k r
def encD (prev : Int) : List (Int × Int × Int) → List Nat
  | [] => []
  | y :: r => varN (y.1 - prev - 1).toNat ++ varN (zz (wrap64 (y.2.1 - y.2.2))) ++ encD y.1 r
def withOld (a : List (Int × Int)) (l : List (Int × Int)) : List (Int × Int × Int) := l.map fun y => (y.1, y.2, getv a y.1)
def encC (a : List (Int × Int)) (prev : Int) (l : List (Int × Int)) : List Nat := encD prev (withOld a l)
theorem encC_cons (a : List (Int × Int)) (prev : Int) (y : Int × Int) (l : List (Int × Int)) : encC a prev (y :: l) = varN (y.1 - prev - 1).toNat ++ varN (zz (wrap64 (y.2 - getv a y.1))) ++ encC a y.1 l := rfl
def diffL (a b : List (Int × Int)) : List Nat := varN (goneL a b).length ++ encG (-1) (goneL a b) ++ varN (chgL a b).length ++ encC a (-1) (chgL a b)

theorem filter_congr' {α : Type} {p q : α → Bool} {l : List α} (h : ∀ x ∈ l, p x = q x) : l.filter p = l.filter q := List.filter_congr h

theorem mg_gone : ∀ (a b : List (Int × Int)), Srt a → Srt b → goneP (mg a b) = goneL a b := by
  intro a b
  induction a, b using mg.induct with
  | case1 b =>
    intro _ _
    rw [mg_nil]
    unfold goneP goneL
    rw [List.filter_map]
    have : (b.filter (isGone ∘ prA)) = [] := by rw [List.filter_eq_nil_iff]; intro x _; simp [isGone, prA]
    rw [this]; rfl
  | case2 x a =>
    intro _ _
    rw [mg_nil']
    unfold goneP goneL
    rw [List.filter_map, List.map_map]
    congr 1
  | case3 x a y b h ih =>
    intro ha hb
    have ih := ih ha.tail hb
    rw [mg_lt h]
    have h1 : has (y :: b) x.1 = false := has_lt fun z hz => by
      rcases List.mem_cons.1 hz with e | e
      · subst e; exact h
      · have := hb.head z e; omega
    unfold goneP goneL at ih ⊢
    rw [List.filter_cons_of_pos (by simp [isGone, prB]), List.filter_cons_of_pos (by simp [h1])]
    rw [List.map_cons, List.map_cons, ih]; rfl
  | case4 x a y b h h2 ih =>
    intro ha hb
    have ih := ih ha hb.tail
    rw [mg_gt h2]
    unfold goneP goneL at ih ⊢
    rw [List.filter_cons_of_neg (by simp [isGone, prA]), ih]
    congr 1
    refine filter_congr' fun z hz => ?_
    have : y.1 < z.1 := by
      rcases List.mem_cons.1 hz with e | e
      · subst e; exact h2
      · have := ha.head z e; omega
    rw [has_cons, show (y.1 == z.1) = false from beq_eq_false_iff_ne.2 (by omega), Bool.false_or]
  | case5 x a y b h h2 ih =>
    intro ha hb
    have ih := ih ha.tail hb.tail
    have e : x.1 = y.1 := by omega
    rw [mg_eq e]
    unfold goneP goneL at ih ⊢
    rw [List.filter_cons_of_neg (by simp [isGone, prX]), List.filter_cons_of_neg (by simp [has_cons, e]), ih]
    congr 1
    refine filter_congr' fun z hz => ?_
    have := ha.head z hz
    rw [has_cons, show (y.1 == z.1) = false from beq_eq_false_iff_ne.2 (by omega), Bool.false_or]

theorem same_cons {x : Int × Int} {a : List (Int × Int)} {y : Int × Int} (h : x.1 ≠ y.1) : same (x :: a) y = same a y ∧ getv (x :: a) y.1 = getv a y.1 := by
  have e : getv (x :: a) y.1 = getv a y.1 := by unfold getv; rw [if_neg h]; cases a <;> rfl
  refine ⟨?_, e⟩
  unfold same
  rw [has_cons, e, show (x.1 == y.1) = false from beq_eq_false_iff_ne.2 h, Bool.false_or]

theorem mg_chg : ∀ (a b : List (Int × Int)), Srt a → Srt b → chgP' (mg a b) = withOld a (chgL a b) := by
  intro a b
  induction a, b using mg.induct with
  | case1 b =>
    intro _ _
    rw [mg_nil]
    unfold chgP' withOld chgL
    rw [List.filter_map, List.map_map]
    have e1 : b.filter (isChg ∘ prA) = b.filter fun y => !(same [] y) := filter_congr' fun x _ => by simp [isChg, prA, same, has]
    rw [e1]
    refine List.map_congr_left fun y _ => ?_
    simp [prA, getv]
  | case2 x a =>
    intro _ _
    rw [mg_nil']
    unfold chgP' withOld chgL
    rw [List.filter_map]
    have : ((x :: a).filter (isChg ∘ prB)) = [] := by rw [List.filter_eq_nil_iff]; intro x _; simp [isChg, prB]
    rw [this]; rfl
  | case3 x a y b h ih =>
    intro ha hb
    have ih := ih ha.tail hb
    rw [mg_lt h]
    have hlt : ∀ z ∈ y :: b, x.1 < z.1 := fun z hz => by
      rcases List.mem_cons.1 hz with e | e
      · subst e; exact h
      · have := hb.head z e; omega
    unfold chgP' withOld chgL at ih ⊢
    rw [List.filter_cons_of_neg (by simp [isChg, prB]), ih]
    have e1 : (y :: b).filter (fun y => !(same (x :: a) y)) = (y :: b).filter fun y => !(same a y) := filter_congr' fun z hz => by rw [(same_cons (by have := hlt z hz; omega)).1]
    rw [e1]
    refine List.map_congr_left fun z hz => ?_
    rw [(same_cons (by have := hlt z ((List.mem_filter.1 hz).1); omega)).2]
  | case4 x a y b h h2 ih =>
    intro ha hb
    have ih := ih ha hb.tail
    rw [mg_gt h2]
    have hn : has (x :: a) y.1 = false := has_lt fun z hz => by
      rcases List.mem_cons.1 hz with e | e
      · subst e; exact h2
      · have := ha.head z e; omega
    unfold chgP' withOld chgL at ih ⊢
    rw [List.filter_cons_of_pos (by simp [isChg, prA]), List.filter_cons_of_pos (by simp [same, hn]), List.map_cons, List.map_cons, ih, getv_none hn]
    rfl
  | case5 x a y b h h2 ih =>
    intro ha hb
    have ih := ih ha.tail hb.tail
    have e : x.1 = y.1 := by omega
    rw [mg_eq e]
    have hg : getv (x :: a) y.1 = x.2 := by unfold getv; rw [if_pos e]
    have hs : same (x :: a) y = (x.2 == y.2) := by unfold same; rw [has_cons, hg, show (x.1 == y.1) = true from beq_iff_eq.2 e]; simp
    have hlt : ∀ z ∈ b, x.1 < z.1 := fun z hz => by have := hb.head z hz; omega
    have e1 : b.filter (fun y => !(same (x :: a) y)) = b.filter fun y => !(same a y) := filter_congr' fun z hz => by rw [(same_cons (by have := hlt z hz; omega)).1]
    have e2 : (b.filter fun y => !(same a y)).map (fun y => (y.1, y.2, getv (x :: a) y.1)) = (b.filter fun y => !(same a y)).map fun y => (y.1, y.2, getv a y.1) := List.map_congr_left fun z hz => by
      rw [(same_cons (by have := hlt z ((List.mem_filter.1 hz).1); omega)).2]
    unfold chgP' withOld chgL at ih ⊢
    cases hxy : (x.2 == y.2)
    · rw [List.filter_cons_of_pos (by simp [isChg, prX, hxy]), List.filter_cons_of_pos (by simp [hs, hxy]), List.map_cons, List.map_cons, ih, e1, e2, hg]; rfl
    · rw [List.filter_cons_of_neg (by simp [isChg, prX, hxy, e]), List.filter_cons_of_neg (by simp [hs, hxy]), ih, e1, e2]

/-! ### what applying leaves -/
def inL (gone : List Int) (k : Int) : Bool := decide (k ∈ gone)
theorem inL_t {gone : List Int} {k : Int} (h : k ∈ gone) : inL gone k = true := decide_eq_true h
theorem inL_f {gone : List Int} {k : Int} (h : k ∉ gone) : inL gone k = false := decide_eq_false h
def outP (gone : List Int) (p : Pr) : Option (Int × Int) := cond p.ia (some (p.ai, p.av)) (cond (inL gone p.bi) none (some (p.bi, p.bv)))
theorem outP_A (gone : List Int) (y : Int × Int) : outP gone (prA y) = some y := rfl
theorem outP_X (gone : List Int) (x y : Int × Int) : outP gone (prX x y) = some y := rfl
theorem outP_Bt {gone : List Int} {x : Int × Int} (h : x.1 ∈ gone) : outP gone (prB x) = none := by unfold outP prB; simp only [cond_false, inL_t h, cond_true]
theorem outP_Bf {gone : List Int} {x : Int × Int} (h : x.1 ∉ gone) : outP gone (prB x) = some x := by unfold outP prB; simp only [cond_false, inL_f h]
def mv (a c : List (Int × Int)) (gone : List Int) : List (Int × Int) := (mg a c).filterMap (outP gone)
theorem mv_mem (gone : List Int) : ∀ (a c : List (Int × Int)), Srt a → Srt c → ∀ x, x ∈ mv a c gone ↔ x ∈ c ∨ (x ∈ a ∧ has c x.1 = false ∧ x.1 ∉ gone) := by
  intro a c
  unfold mv
  induction a, c using mg.induct with
  | case1 b =>
    intro _ _ x
    rw [mg_nil, List.filterMap_map, show (outP gone ∘ prA) = some from funext fun y => outP_A gone y, List.filterMap_some]
    simp
  | case2 x a =>
    intro _ _ z
    rw [mg_nil', List.filterMap_map]
    simp only [List.mem_filterMap, Function.comp_apply]
    constructor
    · rintro ⟨u, hu, h⟩
      by_cases h1 : u.1 ∈ gone
      · rw [outP_Bt h1] at h; cases h
      · rw [outP_Bf h1] at h; cases h; exact .inr ⟨hu, rfl, h1⟩
    · rintro (h | ⟨h1, -, h3⟩)
      · cases h
      · exact ⟨z, h1, outP_Bf h3⟩
  | case3 x a y b h ih =>
    intro ha hb z
    have ih := ih ha.tail hb z
    rw [mg_lt h]
    have hn : has (y :: b) x.1 = false := has_lt fun z hz => by
      rcases List.mem_cons.1 hz with e | e
      · subst e; exact h
      · have := hb.head z e; omega
    have key : z ∈ (prB x :: mg a (y :: b)).filterMap (outP gone) ↔ (z = x ∧ x.1 ∉ gone) ∨ z ∈ (mg a (y :: b)).filterMap (outP gone) := by
      by_cases hg : x.1 ∈ gone
      · rw [List.filterMap_cons_none (by first | exact outP_Bt hg | exact outP_Bf hg)]; simp [hg]
      · rw [List.filterMap_cons_some (b := x) (by first | exact outP_Bt hg | exact outP_Bf hg)]; simp [hg]
    rw [key, ih]
    constructor
    · rintro (⟨rfl, h1⟩ | h1 | ⟨h1, h2, h3⟩)
      · exact .inr ⟨by simp, hn, h1⟩
      · exact .inl h1
      · exact .inr ⟨by simp [h1], h2, h3⟩
    · rintro (h1 | ⟨h1, h2, h3⟩)
      · exact .inr (.inl h1)
      · rcases List.mem_cons.1 h1 with e | e
        · subst e; exact .inl ⟨rfl, h3⟩
        · exact .inr (.inr ⟨e, h2, h3⟩)
  | case4 x a y b h h2 ih =>
    intro ha hb z
    have ih := ih ha hb.tail z
    rw [mg_gt h2, List.filterMap_cons_some (b := y) (outP_A gone y), List.mem_cons, ih]
    have hc : z ∈ x :: a → has (y :: b) z.1 = has b z.1 := fun hz => by
      have : y.1 < z.1 := by
        rcases List.mem_cons.1 hz with e | e
        · subst e; exact h2
        · have := ha.head z e; omega
      rw [has_cons, show (y.1 == z.1) = false from beq_eq_false_iff_ne.2 (by omega), Bool.false_or]
    constructor
    · rintro (h1 | h1 | ⟨h1, h3, h4⟩)
      · exact .inl (by simp [h1])
      · exact .inl (by simp [h1])
      · exact .inr ⟨h1, by rw [hc h1]; exact h3, h4⟩
    · rintro (h1 | ⟨h1, h3, h4⟩)
      · rcases List.mem_cons.1 h1 with e | e
        · exact .inl e
        · exact .inr (.inl e)
      · exact .inr (.inr ⟨h1, by rw [← hc h1]; exact h3, h4⟩)
  | case5 x a y b h h2 ih =>
    intro ha hb z
    have ih := ih ha.tail hb.tail z
    have e : x.1 = y.1 := by omega
    rw [mg_eq e, List.filterMap_cons_some (b := y) (outP_X gone x y), List.mem_cons, ih]
    have hc : z ∈ a → has (y :: b) z.1 = has b z.1 := fun hz => by
      have := ha.head z hz
      rw [has_cons, show (y.1 == z.1) = false from beq_eq_false_iff_ne.2 (by omega), Bool.false_or]
    constructor
    · rintro (h1 | h1 | ⟨h1, h3, h4⟩)
      · exact .inl (by simp [h1])
      · exact .inl (by simp [h1])
      · exact .inr ⟨by simp [h1], by rw [hc h1]; exact h3, h4⟩
    · rintro (h1 | ⟨h1, h3, h4⟩)
      · rcases List.mem_cons.1 h1 with e | e
        · exact .inl e
        · exact .inr (.inl e)
      · rcases List.mem_cons.1 h1 with e1 | e1
        · subst e1; rw [has_cons, show (y.1 == z.1) = true from beq_iff_eq.2 e.symm] at h3; cases h3
        · exact .inr (.inr ⟨e1, by rw [← hc e1]; exact h3, h4⟩)
theorem mv_srt (gone : List Int) : ∀ (a c : List (Int × Int)), Srt a → Srt c → Srt (mv a c gone) := by
  intro a c
  have hm := mv_mem gone
  induction a, c using mg.induct with
  | case1 b =>
    intro _ hb
    unfold mv
    rw [mg_nil, List.filterMap_map, show (outP gone ∘ prA) = some from funext fun y => outP_A gone y, List.filterMap_some]; exact hb
  | case2 x a =>
    intro ha _
    unfold mv
    rw [mg_nil', List.filterMap_map]
    unfold Srt at ha ⊢
    rw [List.pairwise_filterMap]
    refine ha.imp fun {u v} huv z hz t ht => ?_
    simp only [Function.comp_apply] at hz ht
    by_cases h1 : u.1 ∈ gone
    · rw [outP_Bt h1] at hz; cases hz
    · by_cases h2 : v.1 ∈ gone
      · rw [outP_Bt h2] at ht; cases ht
      · rw [outP_Bf h1] at hz; rw [outP_Bf h2] at ht; cases hz; cases ht; exact huv
  | case3 x a y b h ih =>
    intro ha hb
    have ih := ih ha.tail hb
    unfold mv at ih ⊢
    rw [mg_lt h]
    by_cases hg : x.1 ∈ gone
    · rw [List.filterMap_cons_none (by first | exact outP_Bt hg | exact outP_Bf hg)]; exact ih
    · rw [List.filterMap_cons_some (b := x) (by first | exact outP_Bt hg | exact outP_Bf hg)]
      refine List.pairwise_cons.2 ⟨fun z hz => ?_, ih⟩
      rcases (hm a (y :: b) ha.tail hb z).1 hz with h1 | ⟨h1, -, -⟩
      · rcases List.mem_cons.1 h1 with e | e
        · subst e; exact h
        · have := hb.head z e; omega
      · exact ha.head z h1
  | case4 x a y b h h2 ih =>
    intro ha hb
    have ih := ih ha hb.tail
    unfold mv at ih ⊢
    rw [mg_gt h2, List.filterMap_cons_some (b := y) (outP_A gone y)]
    refine List.pairwise_cons.2 ⟨fun z hz => ?_, ih⟩
    rcases (hm (x :: a) b ha hb.tail z).1 hz with h1 | ⟨h1, -, -⟩
    · exact hb.head z h1
    · rcases List.mem_cons.1 h1 with e | e
      · subst e; exact h2
      · have := ha.head z e; omega
  | case5 x a y b h h2 ih =>
    intro ha hb
    have ih := ih ha.tail hb.tail
    have e : x.1 = y.1 := by omega
    unfold mv at ih ⊢
    rw [mg_eq e, List.filterMap_cons_some (b := y) (outP_X gone x y)]
    refine List.pairwise_cons.2 ⟨fun z hz => ?_, ih⟩
    rcases (hm a b ha.tail hb.tail z).1 hz with h1 | ⟨h1, -, -⟩
    · exact hb.head z h1
    · have := ha.head z h1; omega
end Go.Proofs.Ytcgndeggemceaaa
