/- Chapter 28, plain: reading a difference; the round trip, the one encoding, the prefixes. -/
import Derived.Test.YtcgndeggemceaaaSnapP
namespace Go.Proofs.Ytcgndeggemceaaa
open Go.RowKit

def maxI : Int := 2147483647
/-- the next index, if the gap fits -/
def idxN (prev : Int) (g : Nat) : Option Int := if (maxI - prev - 1 < (g : Int)) ∨ prev = maxI then none else some (prev + 1 + (g : Int))
def remP (a : List (Int × Int)) : Nat → Int → List Nat → Rdr (List Int)
  | 0, _, b => .ok [] b
  | n + 1, prev, b => match readV b with
    | .bad e => .bad e
    | .ok g r => match idxN prev g with
      | none => .bad 8
      | some k => bif has a k then (match remP a n k r with | .bad e => .bad e | .ok l r' => .ok (k :: l) r') else .bad 8
def newV (a : List (Int × Int)) (k : Int) (z : Nat) : Int := wrap64 (getv a k + uz z)
def stays (a : List (Int × Int)) (k v : Int) : Bool := has a k && (v == getv a k)
def chgQ (a : List (Int × Int)) (gone : List Int) : Nat → Int → List Nat → Rdr (List (Int × Int))
  | 0, _, b => .ok [] b
  | n + 1, prev, b => match readV b with
    | .bad e => .bad e
    | .ok g r => match idxN prev g with
      | none => .bad 8
      | some k => bif inL gone k then .bad 8 else (match readV r with
        | .bad e => .bad e
        | .ok z r1 => bif stays a k (newV a k z) then .bad 8 else (match chgQ a gone n k r1 with | .bad e => .bad e | .ok l r' => .ok ((k, newV a k z) :: l) r'))
def applyR (a : List (Int × Int)) (b : List Nat) : Rdr (List (Int × Int)) := match readV b with
  | .bad e => .bad e
  | .ok n1 r1 => match remP a n1 (-1) r1 with
    | .bad e => .bad e
    | .ok gone r2 => match readV r2 with
      | .bad e => .bad e
      | .ok n2 r3 => match chgQ a gone n2 (-1) r3 with
        | .bad e => .bad e
        | .ok ch r4 => match r4 with
          | [] => .ok (mv a ch gone) []
          | _ :: _ => .bad 8

/-! ### bounds of wraps -/
theorem wrap64_bd (x : Int) : bd64 (wrap64 x) := by unfold bd64 wrap64; omega
theorem wrap64_in {x : Int} (h : bd64 x) : wrap64 x = x := by unfold bd64 at h; unfold wrap64; omega
theorem wrap_back (x v : Int) (h : bd64 x) : wrap64 (v + wrap64 (x - v)) = x := by unfold bd64 at h; unfold wrap64; omega
theorem wrap_fore (u v : Int) (h : bd64 u) : wrap64 (wrap64 (v + u) - v) = u := by unfold bd64 at h; unfold wrap64; omega

/-! ### reading what was written -/
theorem idxN_ok {prev k : Int} (h0 : -1 ≤ prev) (h : prev < k) (hk : k ≤ maxI) : idxN prev (k - prev - 1).toNat = some k ∧ (k - prev - 1).toNat < 18446744073709551616 := by
  unfold maxI at hk
  unfold idxN maxI
  constructor
  · rw [if_neg (by omega)]; congr 1; omega
  · omega
theorem idxN_inv {prev k : Int} {g : Nat} (h : idxN prev g = some k) : prev < k ∧ k ≤ maxI ∧ g = (k - prev - 1).toNat := by
  unfold idxN at h
  split at h
  · cases h
  · rename_i h1
    cases h
    unfold maxI at *
    omega
def Rise (prev : Int) (l : List Int) : Prop := (∀ k ∈ l, prev < k ∧ k ≤ maxI) ∧ l.Pairwise (· < ·)
theorem Rise.tail {prev k : Int} {l : List Int} (h : Rise prev (k :: l)) : Rise k l := ⟨fun x hx => ⟨(List.pairwise_cons.1 h.2).1 x hx, (h.1 x (by simp [hx])).2⟩, (List.pairwise_cons.1 h.2).2⟩
theorem remP_enc (a : List (Int × Int)) : ∀ (L : List Int) (prev : Int) (r : List Nat), -1 ≤ prev → Rise prev L → (∀ k ∈ L, has a k = true) → remP a L.length prev (encG prev L ++ r) = .ok L r := by
  intro L
  induction L with
  | nil => intro prev r _ _ _; rfl
  | cons k L ih =>
    intro prev r hp hr hh
    have hk := hr.1 k (by simp)
    obtain ⟨h1, h2⟩ := idxN_ok hp hk.1 hk.2
    rw [List.length_cons, encG, List.append_assoc, remP, readV_var h2]
    simp only [h1, hh k (by simp), cond_true]
    rw [ih k r (by omega) hr.tail fun x hx => hh x (by simp [hx])]
theorem remP_inv (a : List (Int × Int)) : ∀ (n : Nat) (prev : Int) (b : List Nat) (L : List Int) (r : List Nat), -1 ≤ prev → BytesB b → remP a n prev b = .ok L r → b = encG prev L ++ r ∧ L.length = n ∧ Rise prev L ∧ (∀ k ∈ L, has a k = true) ∧ BytesB r := by
  intro n
  induction n with
  | zero => intro prev b L r _ hb h; cases h; exact ⟨rfl, rfl, ⟨by simp, List.Pairwise.nil⟩, by simp, hb⟩
  | succ n ih =>
    intro prev b L r hp hb h
    rw [remP] at h
    cases hv : readV b with
    | bad e => rw [hv] at h; cases h
    | ok g t =>
      rw [hv] at h
      simp only at h
      cases hi : idxN prev g with
      | none => rw [hi] at h; cases h
      | some k =>
        rw [hi] at h
        simp only at h
        cases hh : has a k with
        | false => rw [hh] at h; cases h
        | true =>
          rw [hh] at h
          simp only [cond_true] at h
          obtain ⟨e1, e2⟩ := readV_ok hb hv
          have hbt : BytesB t := fun x hx => hb x (by rw [e1]; simp [hx])
          obtain ⟨i1, i2, i3⟩ := idxN_inv hi
          cases hr : remP a n k t with
          | bad e => rw [hr] at h; cases h
          | ok l r' =>
            rw [hr] at h
            cases h
            obtain ⟨a1, a2, a3, a4, a5⟩ := ih k t l r (by omega) hbt hr
            refine ⟨?_, by rw [List.length_cons, a2], ⟨?_, ?_⟩, ?_, a5⟩
            · rw [encG, ← i3, e1, a1, List.append_assoc]
            · intro x hx
              rcases List.mem_cons.1 hx with e | e
              · subst e; exact ⟨i1, i2⟩
              · have := a3.1 x e; exact ⟨by omega, this.2⟩
            · exact List.pairwise_cons.2 ⟨fun x hx => (a3.1 x hx).1, a3.2⟩
            · intro x hx
              rcases List.mem_cons.1 hx with e | e
              · subst e; exact hh
              · exact a4 x e
theorem remP_bad (a : List (Int × Int)) : ∀ (n : Nat) (prev : Int) (b : List Nat) (e : Nat), remP a n prev b = .bad e → e = 7 ∨ e = 8 := by
  intro n
  induction n with
  | zero => intro prev b e h; cases h
  | succ n ih =>
    intro prev b e h
    rw [remP] at h
    cases hv : readV b with
    | bad e' => rw [hv] at h; cases h; exact readV_bad hv
    | ok g t =>
      rw [hv] at h
      simp only at h
      cases hi : idxN prev g with
      | none => rw [hi] at h; cases h; exact .inr rfl
      | some k =>
        rw [hi] at h
        simp only at h
        cases hh : has a k with
        | false => rw [hh] at h; cases h; exact .inr rfl
        | true =>
          rw [hh] at h
          simp only [cond_true] at h
          cases hr : remP a n k t with
          | bad e' => rw [hr] at h; cases h; exact ih _ _ _ hr
          | ok l r' => rw [hr] at h; cases h
theorem remP_short (a : List (Int × Int)) : ∀ (L : List Int) (prev : Int) (j : Nat), -1 ≤ prev → Rise prev L → (∀ k ∈ L, has a k = true) → j < (encG prev L).length → remP a L.length prev ((encG prev L).take j) = .bad 7 := by
  intro L
  induction L with
  | nil => intro prev j _ _ _ hj; simp [encG] at hj
  | cons k L ih =>
    intro prev j hp hr hh hj
    have hk := hr.1 k (by simp)
    obtain ⟨h1, h2⟩ := idxN_ok hp hk.1 hk.2
    rw [List.length_cons, encG]
    rw [encG, List.length_append] at hj
    by_cases hj2 : j < (varN (k - prev - 1).toNat).length
    · rw [List.take_append_of_le_length (by omega), remP, readV_short h2 hj2]
    · obtain ⟨i, rfl⟩ : ∃ i, j = (varN (k - prev - 1).toNat).length + i := ⟨j - (varN (k - prev - 1).toNat).length, by omega⟩
      rw [List.take_length_add_append, remP, readV_var h2]
      simp only [h1, hh k (by simp), cond_true]
      rw [ih k i (by omega) hr.tail (fun x hx => hh x (by simp [hx])) (by omega)]

structure ChOk (a : List (Int × Int)) (gone : List Int) (y : Int × Int) : Prop where
  out : y.1 ∉ gone
  val : bd64 y.2
  ne : same a y = false
theorem same_stays (a : List (Int × Int)) (y : Int × Int) : stays a y.1 y.2 = same a y := by
  unfold stays same
  congr 1
  rw [Bool.eq_iff_iff, beq_iff_eq, beq_iff_eq]; exact eq_comm
def keys (l : List (Int × Int)) : List Int := l.map (·.1)
theorem newV_enc {a : List (Int × Int)} {y : Int × Int} (hv : bd64 y.2) : newV a y.1 (zz (wrap64 (y.2 - getv a y.1))) = y.2 := by
  unfold newV; rw [uz_zz]; exact wrap_back _ _ hv
theorem zz_fit (x : Int) : zz (wrap64 x) < 18446744073709551616 := zz_lt (wrap64_bd x).1 (wrap64_bd x).2
theorem chgQ_enc (a : List (Int × Int)) (gone : List Int) : ∀ (L : List (Int × Int)) (prev : Int) (r : List Nat), -1 ≤ prev → Rise prev (keys L) → (∀ y ∈ L, ChOk a gone y) → chgQ a gone L.length prev (encC a prev L ++ r) = .ok L r := by
  intro L
  induction L with
  | nil => intro prev r _ _ _; rfl
  | cons y L ih =>
    intro prev r hp hr hh
    have hk := hr.1 y.1 (by simp [keys])
    obtain ⟨h1, h2⟩ := idxN_ok hp hk.1 hk.2
    have hy := hh y (by simp)
    rw [List.length_cons, encC_cons, List.append_assoc, List.append_assoc, chgQ, readV_var h2]
    simp only [h1, inL_f hy.out, cond_false]
    rw [readV_var (zz_fit _)]
    simp only [newV_enc hy.val]
    have e : stays a y.1 y.2 = false := by rw [same_stays]; exact hy.ne
    rw [e]
    simp only [cond_false]
    rw [ih y.1 r (by omega) hr.tail fun x hx => hh x (by simp [hx])]
theorem chgQ_inv (a : List (Int × Int)) (ha : ∀ x ∈ a, bd64 x.2) (gone : List Int) : ∀ (n : Nat) (prev : Int) (b : List Nat) (L : List (Int × Int)) (r : List Nat), -1 ≤ prev → BytesB b → chgQ a gone n prev b = .ok L r → b = encC a prev L ++ r ∧ L.length = n ∧ Rise prev (keys L) ∧ (∀ y ∈ L, ChOk a gone y) := by
  intro n
  induction n with
  | zero => intro prev b L r _ _ h; cases h; exact ⟨rfl, rfl, ⟨by simp [keys], by simp [keys]⟩, by simp⟩
  | succ n ih =>
    intro prev b L r hp hb h
    rw [chgQ] at h
    cases hv : readV b with
    | bad e => rw [hv] at h; cases h
    | ok g t =>
      rw [hv] at h
      simp only at h
      cases hi : idxN prev g with
      | none => rw [hi] at h; cases h
      | some k =>
        rw [hi] at h
        simp only at h
        cases hg : inL gone k with
        | true => rw [hg] at h; cases h
        | false =>
          rw [hg] at h
          simp only [cond_false] at h
          obtain ⟨e1, e2⟩ := readV_ok hb hv
          have hbt : BytesB t := fun x hx => hb x (by rw [e1]; simp [hx])
          cases hz : readV t with
          | bad e => rw [hz] at h; cases h
          | ok z r1 =>
            rw [hz] at h
            simp only at h
            obtain ⟨f1, f2⟩ := readV_ok hbt hz
            have hb1 : BytesB r1 := fun x hx => hbt x (by rw [f1]; simp [hx])
            cases hs : stays a k (newV a k z) with
            | true => rw [hs] at h; cases h
            | false =>
              rw [hs] at h
              simp only [cond_false] at h
              obtain ⟨i1, i2, i3⟩ := idxN_inv hi
              cases hr : chgQ a gone n k r1 with
              | bad e => rw [hr] at h; cases h
              | ok l r' =>
                rw [hr] at h
                cases h
                obtain ⟨a1, a2, a3, a4⟩ := ih k r1 l r (by omega) hb1 hr
                refine ⟨?_, by rw [List.length_cons, a2], ⟨?_, ?_⟩, ?_⟩
                · rw [encC_cons]
                  simp only
                  have hu := uz_bound f2
                  rw [← i3, show newV a k z - getv a k = wrap64 (getv a k + uz z) - getv a k from rfl, wrap_fore _ _ hu, zz_uz, e1, f1, a1, List.append_assoc, List.append_assoc]
                · intro x hx
                  simp only [keys, List.map_cons, List.mem_cons] at hx
                  rcases hx with e | e
                  · subst e; exact ⟨i1, i2⟩
                  · have := a3.1 x e; exact ⟨by omega, this.2⟩
                · exact List.pairwise_cons.2 ⟨fun x hx => (a3.1 x hx).1, a3.2⟩
                · intro x hx
                  rcases List.mem_cons.1 hx with e | e
                  · subst e
                    refine ⟨fun hm => ?_, wrap64_bd _, by rw [← same_stays]; exact hs⟩
                    rw [inL_t hm] at hg; cases hg
                  · exact a4 x e
theorem chgQ_bad (a : List (Int × Int)) (gone : List Int) : ∀ (n : Nat) (prev : Int) (b : List Nat) (e : Nat), chgQ a gone n prev b = .bad e → e = 7 ∨ e = 8 := by
  intro n
  induction n with
  | zero => intro prev b e h; cases h
  | succ n ih =>
    intro prev b e h
    rw [chgQ] at h
    cases hv : readV b with
    | bad e' => rw [hv] at h; cases h; exact readV_bad hv
    | ok g t =>
      rw [hv] at h
      simp only at h
      cases hi : idxN prev g with
      | none => rw [hi] at h; cases h; exact .inr rfl
      | some k =>
        rw [hi] at h
        simp only at h
        cases hg : inL gone k with
        | true => rw [hg] at h; cases h; exact .inr rfl
        | false =>
          rw [hg] at h
          simp only [cond_false] at h
          cases hz : readV t with
          | bad e' => rw [hz] at h; cases h; exact readV_bad hz
          | ok z r1 =>
            rw [hz] at h
            simp only at h
            cases hs : stays a k (newV a k z) with
            | true => rw [hs] at h; cases h; exact .inr rfl
            | false =>
              rw [hs] at h
              simp only [cond_false] at h
              cases hr : chgQ a gone n k r1 with
              | bad e' => rw [hr] at h; cases h; exact ih _ _ _ hr
              | ok l r' => rw [hr] at h; cases h
theorem chgQ_short (a : List (Int × Int)) (gone : List Int) : ∀ (L : List (Int × Int)) (prev : Int) (j : Nat), -1 ≤ prev → Rise prev (keys L) → (∀ y ∈ L, ChOk a gone y) → j < (encC a prev L).length → chgQ a gone L.length prev ((encC a prev L).take j) = .bad 7 := by
  intro L
  induction L with
  | nil => intro prev j _ _ _ hj; simp [encC, withOld, encD] at hj
  | cons y L ih =>
    intro prev j hp hr hh hj
    have hk := hr.1 y.1 (by simp [keys])
    obtain ⟨h1, h2⟩ := idxN_ok hp hk.1 hk.2
    have hy := hh y (by simp)
    rw [encC_cons, List.append_assoc] at hj ⊢
    rw [List.length_cons]
    rw [List.length_append, List.length_append] at hj
    by_cases hj2 : j < (varN (y.1 - prev - 1).toNat).length
    · rw [List.take_append_of_le_length (by omega), chgQ, readV_short h2 hj2]
    · obtain ⟨i, rfl⟩ : ∃ i, j = (varN (y.1 - prev - 1).toNat).length + i := ⟨j - (varN (y.1 - prev - 1).toNat).length, by omega⟩
      rw [List.take_length_add_append, chgQ, readV_var h2]
      simp only [h1, inL_f hy.out, cond_false]
      by_cases hi2 : i < (varN (zz (wrap64 (y.2 - getv a y.1)))).length
      · rw [List.take_append_of_le_length (by omega), readV_short (zz_fit _) hi2]
      · obtain ⟨m, rfl⟩ : ∃ m, i = (varN (zz (wrap64 (y.2 - getv a y.1)))).length + m := ⟨i - (varN (zz (wrap64 (y.2 - getv a y.1)))).length, by omega⟩
        rw [List.take_length_add_append, readV_var (zz_fit _)]
        simp only [newV_enc hy.val]
        have e : stays a y.1 y.2 = false := by rw [same_stays]; exact hy.ne
        rw [e]
        simp only [cond_false]
        rw [ih y.1 m (by omega) hr.tail (fun x hx => hh x (by simp [hx])) (by omega)]

/-! ### what a difference holds -/
theorem srt_keys {l : List (Int × Int)} : Srt l ↔ (keys l).Pairwise (· < ·) := by unfold Srt keys; rw [List.pairwise_map]
theorem Srt.filter {l : List (Int × Int)} (h : Srt l) (p : Int × Int → Bool) : Srt (l.filter p) := List.Pairwise.filter p h
theorem gone_rise {a b : List (Int × Int)} (ha : IsView a) : Rise (-1) (goneL a b) := by
  refine ⟨fun k hk => ?_, srt_keys.1 (ha.srt.filter _)⟩
  unfold goneL at hk
  rw [List.mem_map] at hk
  obtain ⟨x, hx, rfl⟩ := hk
  have := ha.idx x (List.mem_filter.1 hx).1
  unfold idxOk at this
  unfold maxI
  omega
theorem gone_has {a b : List (Int × Int)} : ∀ k ∈ goneL a b, has a k = true ∧ has b k = false := by
  intro k hk
  unfold goneL at hk
  rw [List.mem_map] at hk
  obtain ⟨x, hx, rfl⟩ := hk
  obtain ⟨h1, h2⟩ := List.mem_filter.1 hx
  exact ⟨has_mem.2 ⟨x.2, h1⟩, by simpa using h2⟩
theorem chg_rise {a b : List (Int × Int)} (hb : IsView b) : Rise (-1) (keys (chgL a b)) := by
  refine ⟨fun k hk => ?_, srt_keys.1 (hb.srt.filter _)⟩
  unfold keys chgL at hk
  rw [List.mem_map] at hk
  obtain ⟨x, hx, rfl⟩ := hk
  have := hb.idx x (List.mem_filter.1 hx).1
  unfold idxOk at this
  unfold maxI
  omega
theorem chg_ok {a b : List (Int × Int)} (hb : IsView b) : ∀ y ∈ chgL a b, ChOk a (goneL a b) y := by
  intro y hy
  unfold chgL at hy
  obtain ⟨h1, h2⟩ := List.mem_filter.1 hy
  refine ⟨fun hm => ?_, hb.val y h1, by simpa using h2⟩
  have h3 := (gone_has y.1 hm).2
  rw [has_mem.2 ⟨y.2, h1⟩] at h3
  cases h3
theorem gone_len {a b : List (Int × Int)} : (goneL a b).length ≤ a.length := by unfold goneL; rw [List.length_map]; exact List.length_filter_le _ _
theorem chg_len {a b : List (Int × Int)} : (chgL a b).length ≤ b.length := List.length_filter_le _ _

theorem mv_diff {a b : List (Int × Int)} (ha : IsView a) (hb : IsView b) : mv a (chgL a b) (goneL a b) = b := by
  have hc : Srt (chgL a b) := hb.srt.filter _
  refine srt_eq (mv_srt _ _ _ ha.srt hc) hb.srt fun x => ?_
  rw [mv_mem _ _ _ ha.srt hc]
  constructor
  · rintro (h | ⟨h1, h2, h3⟩)
    · exact (List.mem_filter.1 h).1
    · have hb' : has b x.1 = true := by
        cases e : has b x.1 with
        | true => rfl
        | false => exact absurd (List.mem_map.2 ⟨x, List.mem_filter.2 ⟨h1, by rw [e]; rfl⟩, rfl⟩) h3
      obtain ⟨v, hv⟩ := has_mem.1 hb'
      have hs : same a (x.1, v) = true := by
        cases e : same a (x.1, v) with
        | true => rfl
        | false =>
          have : (x.1, v) ∈ chgL a b := List.mem_filter.2 ⟨hv, by rw [e]; rfl⟩
          rw [has_mem.2 ⟨v, this⟩] at h2; cases h2
      unfold same at hs
      simp only [Bool.and_eq_true, beq_iff_eq] at hs
      rw [getv_mem ha.srt h1] at hs
      rw [show x = (x.1, v) from by rw [← hs.2]]
      exact hv
  · intro h
    cases e : same a x with
    | false => exact .inl (List.mem_filter.2 ⟨h, by rw [e]; rfl⟩)
    | true =>
      right
      unfold same at e
      simp only [Bool.and_eq_true, beq_iff_eq] at e
      have hxa : x ∈ a := by have := getv_has e.1; rw [e.2] at this; exact this
      refine ⟨hxa, ?_, fun hm => ?_⟩
      · rw [Bool.eq_false_iff]
        intro h2
        obtain ⟨v, hv⟩ := has_mem.1 h2
        obtain ⟨h3, h4⟩ := List.mem_filter.1 hv
        have h5 : v = x.2 := (show getv b x.1 = v from getv_mem hb.srt h3).symm.trans (getv_mem hb.srt h)
        subst h5
        unfold same at h4
        rw [e.1, e.2] at h4
        simp at h4
      · have := (gone_has _ hm).2
        rw [has_mem.2 ⟨x.2, h⟩] at this; cases this

/-! ### the laws -/
theorem apply_parse {a b : List (Int × Int)} (ha : IsView a) (hb : IsView b) (hla : a.length < 1000000) (hlb : b.length < 1000000) (r : List Nat) :
    applyR a (diffL a b ++ r) = match r with | [] => .ok b [] | _ :: _ => .bad 8 := by
  have h1 := gone_len (a := a) (b := b)
  have h2 := chg_len (a := a) (b := b)
  unfold applyR diffL
  rw [List.append_assoc, List.append_assoc, List.append_assoc, readV_var (by omega)]
  simp only
  rw [remP_enc a (goneL a b) (-1) _ (by omega) (gone_rise ha) fun k hk => (gone_has k hk).1]
  simp only
  rw [readV_var (by omega)]
  simp only
  rw [chgQ_enc a (goneL a b) (chgL a b) (-1) r (by omega) (chg_rise hb) (chg_ok hb)]
  simp only [mv_diff ha hb]
theorem apply_diff {a b : List (Int × Int)} (ha : IsView a) (hb : IsView b) (hla : a.length < 1000000) (hlb : b.length < 1000000) : applyR a (diffL a b) = .ok b [] := by
  have := apply_parse ha hb hla hlb []
  rwa [List.append_nil] at this
theorem apply_more {a b : List (Int × Int)} (ha : IsView a) (hb : IsView b) (hla : a.length < 1000000) (hlb : b.length < 1000000) (c : Nat) : applyR a (diffL a b ++ [c]) = .bad 8 := apply_parse ha hb hla hlb [c]
theorem apply_short {a b : List (Int × Int)} (ha : IsView a) (hb : IsView b) (hla : a.length < 1000000) (hlb : b.length < 1000000) {j : Nat} (hj : j < (diffL a b).length) : applyR a ((diffL a b).take j) = .bad 7 := by
  have h1 := gone_len (a := a) (b := b)
  have h2 := chg_len (a := a) (b := b)
  have g1 : (goneL a b).length < 18446744073709551616 := by omega
  have g2 : (chgL a b).length < 18446744073709551616 := by omega
  unfold diffL at hj ⊢
  rw [List.append_assoc, List.append_assoc] at hj ⊢
  simp only [List.length_append] at hj
  unfold applyR
  by_cases c1 : j < (varN (goneL a b).length).length
  · rw [List.take_append_of_le_length (by omega), readV_short g1 c1]
  · obtain ⟨i, rfl⟩ : ∃ i, j = (varN (goneL a b).length).length + i := ⟨j - (varN (goneL a b).length).length, by omega⟩
    rw [List.take_length_add_append, readV_var g1]
    simp only
    by_cases c2 : i < (encG (-1) (goneL a b)).length
    · rw [List.take_append_of_le_length (by omega), remP_short a _ _ _ (by omega) (gone_rise ha) (fun k hk => (gone_has k hk).1) c2]
    · obtain ⟨m, rfl⟩ : ∃ m, i = (encG (-1) (goneL a b)).length + m := ⟨i - (encG (-1) (goneL a b)).length, by omega⟩
      rw [List.take_length_add_append, remP_enc a (goneL a b) (-1) _ (by omega) (gone_rise ha) fun k hk => (gone_has k hk).1]
      simp only
      by_cases c3 : m < (varN (chgL a b).length).length
      · rw [List.take_append_of_le_length (by omega), readV_short g2 c3]
      · obtain ⟨q, rfl⟩ : ∃ q, m = (varN (chgL a b).length).length + q := ⟨m - (varN (chgL a b).length).length, by omega⟩
        rw [List.take_length_add_append, readV_var g2]
        simp only
        rw [chgQ_short a _ _ _ _ (by omega) (chg_rise hb) (chg_ok hb) (by omega)]
theorem apply_bad {a : List (Int × Int)} {b : List Nat} {e : Nat} (h : applyR a b = .bad e) : e = 7 ∨ e = 8 := by
  unfold applyR at h
  cases h1 : readV b with
  | bad e' => rw [h1] at h; cases h; exact readV_bad h1
  | ok n1 r1 =>
    rw [h1] at h
    simp only at h
    cases h2 : remP a n1 (-1) r1 with
    | bad e' => rw [h2] at h; cases h; exact remP_bad _ _ _ _ _ h2
    | ok gone r2 =>
      rw [h2] at h
      simp only at h
      cases h3 : readV r2 with
      | bad e' => rw [h3] at h; cases h; exact readV_bad h3
      | ok n2 r3 =>
        rw [h3] at h
        simp only at h
        cases h4 : chgQ a gone n2 (-1) r3 with
        | bad e' => rw [h4] at h; cases h; exact chgQ_bad _ _ _ _ _ _ h4
        | ok ch r4 =>
          rw [h4] at h
          cases r4 with
          | nil => cases h
          | cons c r => cases h; exact .inr rfl
theorem apply_canon {a : List (Int × Int)} (ha : IsView a) {b : List Nat} (hb : BytesB b) {x : List (Int × Int)} {r : List Nat} (h : applyR a b = .ok x r) : diffL a x = b ∧ IsView x := by
  unfold applyR at h
  cases h1 : readV b with
  | bad e' => rw [h1] at h; cases h
  | ok n1 r1 =>
    rw [h1] at h
    simp only at h
    obtain ⟨e1, -⟩ := readV_ok hb h1
    have hb1 : BytesB r1 := fun y hy => hb y (by rw [e1]; simp [hy])
    cases h2 : remP a n1 (-1) r1 with
    | bad e' => rw [h2] at h; cases h
    | ok gone r2 =>
      rw [h2] at h
      simp only at h
      obtain ⟨e2, l2, s2, g2, hb2⟩ := remP_inv a n1 (-1) r1 gone r2 (by omega) hb1 h2
      cases h3 : readV r2 with
      | bad e' => rw [h3] at h; cases h
      | ok n2 r3 =>
        rw [h3] at h
        simp only at h
        obtain ⟨e3, -⟩ := readV_ok hb2 h3
        have hb3 : BytesB r3 := fun y hy => hb2 y (by rw [e3]; simp [hy])
        cases h4 : chgQ a gone n2 (-1) r3 with
        | bad e' => rw [h4] at h; cases h
        | ok ch r4 =>
          rw [h4] at h
          cases r4 with
          | cons c r => cases h
          | nil =>
            cases h
            obtain ⟨e4, l4, s4, c4⟩ := chgQ_inv a ha.val gone n2 (-1) r3 ch [] (by omega) hb3 h4
            have hcs : Srt ch := srt_keys.2 s4.2
            have hms := mv_srt gone a ch ha.srt hcs
            have hmm := mv_mem gone a ch ha.srt hcs
            have hgone : goneL a (mv a ch gone) = gone := by
              refine ints_eq (srt_keys.1 (ha.srt.filter _)) s2.2 fun k => ?_
              unfold goneL
              rw [List.mem_map]
              constructor
              · rintro ⟨y, hy, rfl⟩
                obtain ⟨k1, k2⟩ := List.mem_filter.1 hy
                have k3 : has (mv a ch gone) y.1 = false := by simpa using k2
                by_cases hm : y.1 ∈ gone
                · exact hm
                · exfalso
                  cases hc : has ch y.1 with
                  | true =>
                    obtain ⟨v, hv⟩ := has_mem.1 hc
                    rw [has_mem.2 ⟨v, (hmm _).2 (.inl hv)⟩] at k3; cases k3
                  | false =>
                    rw [has_mem.2 ⟨y.2, (hmm y).2 (.inr ⟨k1, hc, hm⟩)⟩] at k3; cases k3
              · intro hk
                obtain ⟨v, hv⟩ := has_mem.1 (g2 k hk)
                refine ⟨(k, v), List.mem_filter.2 ⟨hv, ?_⟩, rfl⟩
                have : has (mv a ch gone) k = false := by
                  rw [Bool.eq_false_iff]
                  intro hx
                  obtain ⟨u, hu⟩ := has_mem.1 hx
                  rcases (hmm _).1 hu with q | ⟨-, -, q⟩
                  · exact (c4 _ q).out hk
                  · exact q hk
                simp [this]
            have hchg : chgL a (mv a ch gone) = ch := by
              refine srt_eq (hms.filter _) hcs fun y => ?_
              unfold chgL
              rw [List.mem_filter]
              constructor
              · rintro ⟨k1, k2⟩
                rcases (hmm y).1 k1 with q | ⟨q1, -, -⟩
                · exact q
                · have : same a y = true := by unfold same; rw [has_mem.2 ⟨y.2, q1⟩, getv_mem ha.srt q1]; simp
                  rw [this] at k2; cases k2
              · intro hy
                exact ⟨(hmm y).2 (.inl hy), by rw [(c4 y hy).ne]; rfl⟩
            refine ⟨?_, hms, fun y hy => ?_, fun y hy => ?_⟩
            · unfold diffL
              rw [hgone, hchg, l2, l4, e1, e2, e3, e4, List.append_nil, List.append_assoc, List.append_assoc]
            · rcases (hmm y).1 hy with q | ⟨q1, -, -⟩
              · have := s4.1 y.1 (by unfold keys; exact List.mem_map.2 ⟨y, q, rfl⟩)
                unfold maxI at this
                exact ⟨by omega, this.2⟩
              · exact ha.idx y q1
            · rcases (hmm y).1 hy with q | ⟨q1, -, -⟩
              · exact (c4 y q).val
              · exact ha.val y q1
theorem diff_self {a : List (Int × Int)} (ha : IsView a) : diffL a a = [0, 0] := by
  have h1 : goneL a a = [] := by
    unfold goneL
    rw [List.map_eq_nil_iff, List.filter_eq_nil_iff]
    intro x hx
    rw [has_mem.2 ⟨x.2, hx⟩]; simp
  have h2 : chgL a a = [] := by
    unfold chgL
    rw [List.filter_eq_nil_iff]
    intro x hx
    unfold same
    rw [has_mem.2 ⟨x.2, hx⟩, getv_mem ha.srt hx]; simp
  unfold diffL
  rw [h1, h2]
  show varN 0 ++ [] ++ varN 0 ++ [] = _
  rw [varN_lt (by omega)]; rfl
end Go.Proofs.Ytcgndeggemceaaa
