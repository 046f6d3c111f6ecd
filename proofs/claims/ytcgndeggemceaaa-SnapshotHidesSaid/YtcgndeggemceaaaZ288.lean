/- ApplyP, Dec28 (merged by merge.py). -/
import Derived.Test.YtcgndeggemceaaaZ287
import Derived.Deep.QuietTactic
import Derived.BigQuiet
/- Chapter 28, plain: reading a difference; the round trip, the one encoding, the prefixes. -/
namespace Go.Proofs.Ytcgndeggemceaaa
open Go.RowKit

def maxI : Int := 2147483647
/-- the next index, if the gap fits -/
def idxN (prev : Int) (g : Nat) : Option Int := if (maxI - prev - 1 < (g : Int)) ∨ prev = maxI then none else some (prev + 1 + (g : Int))
def remP (a : List (Int × Int)) : Nat → Int → List Nat → Rdr (List Int)
  | 0, _, b => .ok [] b
  | n + 1, prev, b => match readV b with
    | .bad e => .bad e
    | .ok g r => match idxN prev g with
      | none => .bad 8
      | some k => bif has a k then (match remP a n k r with | .bad e => .bad e | .ok l r' => .ok (k :: l) r') else .bad 8
def newV (a : List (Int × Int)) (k : Int) (z : Nat) : Int := wrap64 (getv a k + uz z)
def stays (a : List (Int × Int)) (k v : Int) : Bool := has a k && (v == getv a k)
def chgQ (a : List (Int × Int)) (gone : List Int) : Nat → Int → List Nat → Rdr (List (Int × Int))
  | 0, _, b => .ok [] b
  | n + 1, prev, b => match readV b with
    | .bad e => .bad e
    | .ok g r => match idxN prev g with
      | none => .bad 8
      | some k => bif inL gone k then .bad 8 else (match readV r with
        | .bad e => .bad e
        | .ok z r1 => bif stays a k (newV a k z) then .bad 8 else (match chgQ a gone n k r1 with | .bad e => .bad e | .ok l r' => .ok ((k, newV a k z) :: l) r'))
def applyR (a : List (Int × Int)) (b : List Nat) : Rdr (List (Int × Int)) := match readV b with
  | .bad e => .bad e
  | .ok n1 r1 => match remP a n1 (-1) r1 with
    | .bad e => .bad e
    | .ok gone r2 => match readV r2 with
      | .bad e => .bad e
      | .ok n2 r3 => match chgQ a gone n2 (-1) r3 with
        | .bad e => .bad e
        | .ok ch r4 => match r4 with
          | [] => .ok (mv a ch gone) []
          | _ :: _ => .bad 8

/-! ### bounds of wraps -/
theorem wrap64_bd (x : Int) : bd64 (wrap64 x) := by unfold bd64 wrap64; omega
theorem wrap64_in {x : Int} (h : bd64 x) : wrap64 x = x := by unfold bd64 at h; unfold wrap64; omega
theorem wrap_back (x v : Int) (h : bd64 x) : wrap64 (v + wrap64 (x - v)) = x := by unfold bd64 at h; unfold wrap64; omega
theorem wrap_fore (u v : Int) (h : bd64 u) : wrap64 (wrap64 (v + u) - v) = u := by unfold bd64 at h; unfold wrap64; omega

/-! ### reading what was written -/
theorem idxN_ok {prev k : Int} (h0 : -1 ≤ prev) (h : prev < k) (hk : k ≤ maxI) : idxN prev (k - prev - 1).toNat = some k ∧ (k - prev - 1).toNat < 18446744073709551616 := by
  unfold maxI at hk
  unfold idxN maxI
  constructor
  · rw [if_neg (by omega)]; congr 1; omega
  · omega
theorem idxN_inv {prev k : Int} {g : Nat} (h : idxN prev g = some k) : prev < k ∧ k ≤ maxI ∧ g = (k - prev - 1).toNat := by
  unfold idxN at h
  split at h
  · cases h
  · rename_i h1
    cases h
    unfold maxI at *
    omega
def Rise (prev : Int) (l : List Int) : Prop := (∀ k ∈ l, prev < k ∧ k ≤ maxI) ∧ l.Pairwise (· < ·)
theorem Rise.tail {prev k : Int} {l : List Int} (h : Rise prev (k :: l)) : Rise k l := ⟨fun x hx => ⟨(List.pairwise_cons.1 h.2).1 x hx, (h.1 x (by simp [hx])).2⟩, (List.pairwise_cons.1 h.2).2⟩
theorem remP_enc (a : List (Int × Int)) : ∀ (L : List Int) (prev : Int) (r : List Nat), -1 ≤ prev → Rise prev L → (∀ k ∈ L, has a k = true) → remP a L.length prev (encG prev L ++ r) = .ok L r := by
  intro L
  induction L with
  | nil => intro prev r _ _ _; rfl
  | cons k L ih =>
    intro prev r hp hr hh
    have hk := hr.1 k (by simp)
    obtain ⟨h1, h2⟩ := idxN_ok hp hk.1 hk.2
    rw [List.length_cons, encG, List.append_assoc, remP, readV_var h2]
    simp only [h1, hh k (by simp), cond_true]
    rw [ih k r (by omega) hr.tail fun x hx => hh x (by simp [hx])]
theorem remP_inv (a : List (Int × Int)) : ∀ (n : Nat) (prev : Int) (b : List Nat) (L : List Int) (r : List Nat), -1 ≤ prev → BytesB b → remP a n prev b = .ok L r → b = encG prev L ++ r ∧ L.length = n ∧ Rise prev L ∧ (∀ k ∈ L, has a k = true) ∧ BytesB r := by
  intro n
  induction n with
  | zero => intro prev b L r _ hb h; cases h; exact ⟨rfl, rfl, ⟨by simp, List.Pairwise.nil⟩, by simp, hb⟩
  | succ n ih =>
    intro prev b L r hp hb h
    rw [remP] at h
    cases hv : readV b with
    | bad e => rw [hv] at h; cases h
    | ok g t =>
      rw [hv] at h
      simp only at h
      cases hi : idxN prev g with
      | none => rw [hi] at h; cases h
      | some k =>
        rw [hi] at h
        simp only at h
        cases hh : has a k with
        | false => rw [hh] at h; cases h
        | true =>
          rw [hh] at h
          simp only [cond_true] at h
          obtain ⟨e1, e2⟩ := readV_ok hb hv
          have hbt : BytesB t := fun x hx => hb x (by rw [e1]; simp [hx])
          obtain ⟨i1, i2, i3⟩ := idxN_inv hi
          cases hr : remP a n k t with
          | bad e => rw [hr] at h; cases h
          | ok l r' =>
            rw [hr] at h
            cases h
            obtain ⟨a1, a2, a3, a4, a5⟩ := ih k t l r (by omega) hbt hr
            refine ⟨?_, by rw [List.length_cons, a2], ⟨?_, ?_⟩, ?_, a5⟩
            · rw [encG, ← i3, e1, a1, List.append_assoc]
            · intro x hx
              rcases List.mem_cons.1 hx with e | e
              · subst e; exact ⟨i1, i2⟩
              · have := a3.1 x e; exact ⟨by omega, this.2⟩
            · exact List.pairwise_cons.2 ⟨fun x hx => (a3.1 x hx).1, a3.2⟩
            · intro x hx
              rcases List.mem_cons.1 hx with e | e
              · subst e; exact hh
              · exact a4 x e
theorem remP_bad (a : List (Int × Int)) : ∀ (n : Nat) (prev : Int) (b : List Nat) (e : Nat), remP a n prev b = .bad e → e = 7 ∨ e = 8 := by
  intro n
  induction n with
  | zero => intro prev b e h; cases h
  | succ n ih =>
    intro prev b e h
    rw [remP] at h
    cases hv : readV b with
    | bad e' => rw [hv] at h; cases h; exact readV_bad hv
    | ok g t =>
      rw [hv] at h
      simp only at h
      cases hi : idxN prev g with
      | none => rw [hi] at h; cases h; exact .inr rfl
      | some k =>
        rw [hi] at h
        simp only at h
        cases hh : has a k with
        | false => rw [hh] at h; cases h; exact .inr rfl
        | true =>
          rw [hh] at h
          simp only [cond_true] at h
          cases hr : remP a n k t with
          | bad e' => rw [hr] at h; cases h; exact ih _ _ _ hr
          | ok l r' => rw [hr] at h; cases h
theorem remP_short (a : List (Int × Int)) : ∀ (L : List Int) (prev : Int) (j : Nat), -1 ≤ prev → Rise prev L → (∀ k ∈ L, has a k = true) → j < (encG prev L).length → remP a L.length prev ((encG prev L).take j) = .bad 7 := by
  intro L
  induction L with
  | nil => intro prev j _ _ _ hj; simp [encG] at hj
  | cons k L ih =>
    intro prev j hp hr hh hj
    have hk := hr.1 k (by simp)
    obtain ⟨h1, h2⟩ := idxN_ok hp hk.1 hk.2
    rw [List.length_cons, encG]
    rw [encG, List.length_append] at hj
    by_cases hj2 : j < (varN (k - prev - 1).toNat).length
    · rw [List.take_append_of_le_length (by omega), remP, readV_short h2 hj2]
    · obtain ⟨i, rfl⟩ : ∃ i, j = (varN (k - prev - 1).toNat).length + i := ⟨j - (varN (k - prev - 1).toNat).length, by omega⟩
      rw [List.take_length_add_append, remP, readV_var h2]
      simp only [h1, hh k (by simp), cond_true]
      rw [ih k i (by omega) hr.tail (fun x hx => hh x (by simp [hx])) (by omega)]

structure ChOk (a : List (Int × Int)) (gone : List Int) (y : Int × Int) : Prop where
  out : y.1 ∉ gone
  val : bd64 y.2
  ne : same a y = false
theorem same_stays (a : List (Int × Int)) (y : Int × Int) : stays a y.1 y.2 = same a y := by
  unfold stays same
  congr 1
  rw [Bool.eq_iff_iff, beq_iff_eq, beq_iff_eq]; exact eq_comm
def keys (l : List (Int × Int)) : List Int := l.map (·.1)
theorem newV_enc {a : List (Int × Int)} {y : Int × Int} (hv : bd64 y.2) : newV a y.1 (zz (wrap64 (y.2 - getv a y.1))) = y.2 := by
  unfold newV; rw [uz_zz]; exact wrap_back _ _ hv
theorem zz_fit (x : Int) : zz (wrap64 x) < 18446744073709551616 := zz_lt (wrap64_bd x).1 (wrap64_bd x).2
theorem chgQ_enc (a : List (Int × Int)) (gone : List Int) : ∀ (L : List (Int × Int)) (prev : Int) (r : List Nat), -1 ≤ prev → Rise prev (keys L) → (∀ y ∈ L, ChOk a gone y) → chgQ a gone L.length prev (encC a prev L ++ r) = .ok L r := by
  intro L
  induction L with
  | nil => intro prev r _ _ _; rfl
  | cons y L ih =>
    intro prev r hp hr hh
    have hk := hr.1 y.1 (by simp [keys])
    obtain ⟨h1, h2⟩ := idxN_ok hp hk.1 hk.2
    have hy := hh y (by simp)
    rw [List.length_cons, encC_cons, List.append_assoc, List.append_assoc, chgQ, readV_var h2]
    simp only [h1, inL_f hy.out, cond_false]
    rw [readV_var (zz_fit _)]
    simp only [newV_enc hy.val]
    have e : stays a y.1 y.2 = false := by rw [same_stays]; exact hy.ne
    rw [e]
    simp only [cond_false]
    rw [ih y.1 r (by omega) hr.tail fun x hx => hh x (by simp [hx])]
theorem chgQ_inv (a : List (Int × Int)) (ha : ∀ x ∈ a, bd64 x.2) (gone : List Int) : ∀ (n : Nat) (prev : Int) (b : List Nat) (L : List (Int × Int)) (r : List Nat), -1 ≤ prev → BytesB b → chgQ a gone n prev b = .ok L r → b = encC a prev L ++ r ∧ L.length = n ∧ Rise prev (keys L) ∧ (∀ y ∈ L, ChOk a gone y) := by
  intro n
  induction n with
  | zero => intro prev b L r _ _ h; cases h; exact ⟨rfl, rfl, ⟨by simp [keys], by simp [keys]⟩, by simp⟩
  | succ n ih =>
    intro prev b L r hp hb h
    rw [chgQ] at h
    cases hv : readV b with
    | bad e => rw [hv] at h; cases h
    | ok g t =>
      rw [hv] at h
      simp only at h
      cases hi : idxN prev g with
      | none => rw [hi] at h; cases h
      | some k =>
        rw [hi] at h
        simp only at h
        cases hg : inL gone k with
        | true => rw [hg] at h; cases h
        | false =>
          rw [hg] at h
          simp only [cond_false] at h
          obtain ⟨e1, e2⟩ := readV_ok hb hv
          have hbt : BytesB t := fun x hx => hb x (by rw [e1]; simp [hx])
          cases hz : readV t with
          | bad e => rw [hz] at h; cases h
          | ok z r1 =>
            rw [hz] at h
            simp only at h
            obtain ⟨f1, f2⟩ := readV_ok hbt hz
            have hb1 : BytesB r1 := fun x hx => hbt x (by rw [f1]; simp [hx])
            cases hs : stays a k (newV a k z) with
            | true => rw [hs] at h; cases h
            | false =>
              rw [hs] at h
              simp only [cond_false] at h
              obtain ⟨i1, i2, i3⟩ := idxN_inv hi
              cases hr : chgQ a gone n k r1 with
              | bad e => rw [hr] at h; cases h
              | ok l r' =>
                rw [hr] at h
                cases h
                obtain ⟨a1, a2, a3, a4⟩ := ih k r1 l r (by omega) hb1 hr
                refine ⟨?_, by rw [List.length_cons, a2], ⟨?_, ?_⟩, ?_⟩
                · rw [encC_cons]
                  simp only
                  have hu := uz_bound f2
                  rw [← i3, show newV a k z - getv a k = wrap64 (getv a k + uz z) - getv a k from rfl, wrap_fore _ _ hu, zz_uz, e1, f1, a1, List.append_assoc, List.append_assoc]
                · intro x hx
                  simp only [keys, List.map_cons, List.mem_cons] at hx
                  rcases hx with e | e
                  · subst e; exact ⟨i1, i2⟩
                  · have := a3.1 x e; exact ⟨by omega, this.2⟩
                · exact List.pairwise_cons.2 ⟨fun x hx => (a3.1 x hx).1, a3.2⟩
                · intro x hx
                  rcases List.mem_cons.1 hx with e | e
                  · subst e
                    refine ⟨fun hm => ?_, wrap64_bd _, by rw [← same_stays]; exact hs⟩
                    rw [inL_t hm] at hg; cases hg
                  · exact a4 x e
theorem chgQ_bad (a : List (Int × Int)) (gone : List Int) : ∀ (n : Nat) (prev : Int) (b : List Nat) (e : Nat), chgQ a gone n prev b = .bad e → e = 7 ∨ e = 8 := by
  intro n
  induction n with
  | zero => intro prev b e h; cases h
  | succ n ih =>
    intro prev b e h
    rw [chgQ] at h
    cases hv : readV b with
    | bad e' => rw [hv] at h; cases h; exact readV_bad hv
    | ok g t =>
      rw [hv] at h
      simp only at h
      cases hi : idxN prev g with
      | none => rw [hi] at h; cases h; exact .inr rfl
      | some k =>
        rw [hi] at h
        simp only at h
        cases hg : inL gone k with
        | true => rw [hg] at h; cases h; exact .inr rfl
        | false =>
          rw [hg] at h
          simp only [cond_false] at h
          cases hz : readV t with
          | bad e' => rw [hz] at h; cases h; exact readV_bad hz
          | ok z r1 =>
            rw [hz] at h
            simp only at h
            cases hs : stays a k (newV a k z) with
            | true => rw [hs] at h; cases h; exact .inr rfl
            | false =>
              rw [hs] at h
              simp only [cond_false] at h
              cases hr : chgQ a gone n k r1 with
              | bad e' => rw [hr] at h; cases h; exact ih _ _ _ hr
              | ok l r' => rw [hr] at h; cases h
theorem chgQ_short (a : List (Int × Int)) (gone : List Int) : ∀ (L : List (Int × Int)) (prev : Int) (j : Nat), -1 ≤ prev → Rise prev (keys L) → (∀ y ∈ L, ChOk a gone y) → j < (encC a prev L).length → chgQ a gone L.length prev ((encC a prev L).take j) = .bad 7 := by
  intro L
  induction L with
  | nil => intro prev j _ _ _ hj; simp [encC, withOld, encD] at hj
  | cons y L ih =>
    intro prev j hp hr hh hj
    have hk := hr.1 y.1 (by simp [keys])
    obtain ⟨h1, h2⟩ := idxN_ok hp hk.1 hk.2
    have hy := hh y (by simp)
    rw [encC_cons, List.append_assoc] at hj ⊢
    rw [List.length_cons]
    rw [List.length_append, List.length_append] at hj
    by_cases hj2 : j < (varN (y.1 - prev - 1).toNat).length
    · rw [List.take_append_of_le_length (by omega), chgQ, readV_short h2 hj2]
    · obtain ⟨i, rfl⟩ : ∃ i, j = (varN (y.1 - prev - 1).toNat).length + i := ⟨j - (varN (y.1 - prev - 1).toNat).length, by omega⟩
      rw [List.take_length_add_append, chgQ, readV_var h2]
      simp only [h1, inL_f hy.out, cond_false]
      by_cases hi2 : i < (varN (zz (wrap64 (y.2 - getv a y.1)))).length
      · rw [List.take_append_of_le_length (by omega), readV_short (zz_fit _) hi2]
      · obtain ⟨m, rfl⟩ : ∃ m, i = (varN (zz (wrap64 (y.2 - getv a y.1)))).length + m := ⟨i - (varN (zz (wrap64 (y.2 - getv a y.1)))).length, by omega⟩
        rw [List.take_length_add_append, readV_var (zz_fit _)]
        simp only [newV_enc hy.val]
        have e : stays a y.1 y.2 = false := by rw [same_stays]; exact hy.ne
        rw [e]
        simp only [cond_false]
        rw [ih y.1 m (by omega) hr.tail (fun x hx => hh x (by simp [hx])) (by omega)]

/-! ### what a difference holds -/
theorem srt_keys {l : List (Int × Int)} : Srt l ↔ (keys l).Pairwise (· < ·) := by unfold Srt keys; rw [List.pairwise_map]
theorem Srt.filter {l : List (Int × Int)} (h : Srt l) (p : Int × Int → Bool) : Srt (l.filter p) := List.Pairwise.filter p h
theorem gone_rise {a b : List (Int × Int)} (ha : IsView a) : Rise (-1) (goneL a b) := by
  refine ⟨fun k hk => ?_, srt_keys.1 (ha.srt.filter _)⟩
  unfold goneL at hk
  rw [List.mem_map] at hk
  obtain ⟨x, hx, rfl⟩ := hk
  have := ha.idx x (List.mem_filter.1 hx).1
  unfold idxOk at this
  unfold maxI
  omega
theorem gone_has {a b : List (Int × Int)} : ∀ k ∈ goneL a b, has a k = true ∧ has b k = false := by
  intro k hk
  unfold goneL at hk
  rw [List.mem_map] at hk
  obtain ⟨x, hx, rfl⟩ := hk
  obtain ⟨h1, h2⟩ := List.mem_filter.1 hx
  exact ⟨has_mem.2 ⟨x.2, h1⟩, by simpa using h2⟩
theorem chg_rise {a b : List (Int × Int)} (hb : IsView b) : Rise (-1) (keys (chgL a b)) := by
  refine ⟨fun k hk => ?_, srt_keys.1 (hb.srt.filter _)⟩
  unfold keys chgL at hk
  rw [List.mem_map] at hk
  obtain ⟨x, hx, rfl⟩ := hk
  have := hb.idx x (List.mem_filter.1 hx).1
  unfold idxOk at this
  unfold maxI
  omega
theorem chg_ok {a b : List (Int × Int)} (hb : IsView b) : ∀ y ∈ chgL a b, ChOk a (goneL a b) y := by
  intro y hy
  unfold chgL at hy
  obtain ⟨h1, h2⟩ := List.mem_filter.1 hy
  refine ⟨fun hm => ?_, hb.val y h1, by simpa using h2⟩
  have h3 := (gone_has y.1 hm).2
  rw [has_mem.2 ⟨y.2, h1⟩] at h3
  cases h3
theorem gone_len {a b : List (Int × Int)} : (goneL a b).length ≤ a.length := by unfold goneL; rw [List.length_map]; exact List.length_filter_le _ _
theorem chg_len {a b : List (Int × Int)} : (chgL a b).length ≤ b.length := List.length_filter_le _ _

theorem mv_diff {a b : List (Int × Int)} (ha : IsView a) (hb : IsView b) : mv a (chgL a b) (goneL a b) = b := by
  have hc : Srt (chgL a b) := hb.srt.filter _
  refine srt_eq (mv_srt _ _ _ ha.srt hc) hb.srt fun x => ?_
  rw [mv_mem _ _ _ ha.srt hc]
  constructor
  · rintro (h | ⟨h1, h2, h3⟩)
    · exact (List.mem_filter.1 h).1
    · have hb' : has b x.1 = true := by
        cases e : has b x.1 with
        | true => rfl
        | false => exact absurd (List.mem_map.2 ⟨x, List.mem_filter.2 ⟨h1, by rw [e]; rfl⟩, rfl⟩) h3
      obtain ⟨v, hv⟩ := has_mem.1 hb'
      have hs : same a (x.1, v) = true := by
        cases e : same a (x.1, v) with
        | true => rfl
        | false =>
          have : (x.1, v) ∈ chgL a b := List.mem_filter.2 ⟨hv, by rw [e]; rfl⟩
          rw [has_mem.2 ⟨v, this⟩] at h2; cases h2
      unfold same at hs
      simp only [Bool.and_eq_true, beq_iff_eq] at hs
      rw [getv_mem ha.srt h1] at hs
      rw [show x = (x.1, v) from by rw [← hs.2]]
      exact hv
  · intro h
    cases e : same a x with
    | false => exact .inl (List.mem_filter.2 ⟨h, by rw [e]; rfl⟩)
    | true =>
      right
      unfold same at e
      simp only [Bool.and_eq_true, beq_iff_eq] at e
      have hxa : x ∈ a := by have := getv_has e.1; rw [e.2] at this; exact this
      refine ⟨hxa, ?_, fun hm => ?_⟩
      · rw [Bool.eq_false_iff]
        intro h2
        obtain ⟨v, hv⟩ := has_mem.1 h2
        obtain ⟨h3, h4⟩ := List.mem_filter.1 hv
        have h5 : v = x.2 := (show getv b x.1 = v from getv_mem hb.srt h3).symm.trans (getv_mem hb.srt h)
        subst h5
        unfold same at h4
        rw [e.1, e.2] at h4
        simp at h4
      · have := (gone_has _ hm).2
        rw [has_mem.2 ⟨x.2, h⟩] at this; cases this

/-! ### the laws -/
theorem apply_parse {a b : List (Int × Int)} (ha : IsView a) (hb : IsView b) (hla : a.length < 1000000) (hlb : b.length < 1000000) (r : List Nat) :
    applyR a (diffL a b ++ r) = match r with | [] => .ok b [] | _ :: _ => .bad 8 := by
  have h1 := gone_len (a := a) (b := b)
  have h2 := chg_len (a := a) (b := b)
  unfold applyR diffL
  rw [List.append_assoc, List.append_assoc, List.append_assoc, readV_var (by omega)]
  simp only
  rw [remP_enc a (goneL a b) (-1) _ (by omega) (gone_rise ha) fun k hk => (gone_has k hk).1]
  simp only
  rw [readV_var (by omega)]
  simp only
  rw [chgQ_enc a (goneL a b) (chgL a b) (-1) r (by omega) (chg_rise hb) (chg_ok hb)]
  simp only [mv_diff ha hb]
theorem apply_diff {a b : List (Int × Int)} (ha : IsView a) (hb : IsView b) (hla : a.length < 1000000) (hlb : b.length < 1000000) : applyR a (diffL a b) = .ok b [] := by
  have := apply_parse ha hb hla hlb []
  rwa [List.append_nil] at this
theorem apply_more {a b : List (Int × Int)} (ha : IsView a) (hb : IsView b) (hla : a.length < 1000000) (hlb : b.length < 1000000) (c : Nat) : applyR a (diffL a b ++ [c]) = .bad 8 := apply_parse ha hb hla hlb [c]
theorem apply_short {a b : List (Int × Int)} (ha : IsView a) (hb : IsView b) (hla : a.length < 1000000) (hlb : b.length < 1000000) {j : Nat} (hj : j < (diffL a b).length) : applyR a ((diffL a b).take j) = .bad 7 := by
  have h1 := gone_len (a := a) (b := b)
  have h2 := chg_len (a := a) (b := b)
  have g1 : (goneL a b).length < 18446744073709551616 := by omega
  have g2 : (chgL a b).length < 18446744073709551616 := by omega
  unfold diffL at hj ⊢
  rw [List.append_assoc, List.append_assoc] at hj ⊢
  simp only [List.length_append] at hj
  unfold applyR
  by_cases c1 : j < (varN (goneL a b).length).length
  · rw [List.take_append_of_le_length (by omega), readV_short g1 c1]
  · obtain ⟨i, rfl⟩ : ∃ i, j = (varN (goneL a b).length).length + i := ⟨j - (varN (goneL a b).length).length, by omega⟩
    rw [List.take_length_add_append, readV_var g1]
    simp only
    by_cases c2 : i < (encG (-1) (goneL a b)).length
    · rw [List.take_append_of_le_length (by omega), remP_short a _ _ _ (by omega) (gone_rise ha) (fun k hk => (gone_has k hk).1) c2]
    · obtain ⟨m, rfl⟩ : ∃ m, i = (encG (-1) (goneL a b)).length + m := ⟨i - (encG (-1) (goneL a b)).length, by omega⟩
      rw [List.take_length_add_append, remP_enc a (goneL a b) (-1) _ (by omega) (gone_rise ha) fun k hk => (gone_has k hk).1]
      simp only
      by_cases c3 : m < (varN (chgL a b).length).length
      · rw [List.take_append_of_le_length (by omega), readV_short g2 c3]
      · obtain ⟨q, rfl⟩ : ∃ q, m = (varN (chgL a b).length).length + q := ⟨m - (varN (chgL a b).length).length, by omega⟩
        rw [List.take_length_add_append, readV_var g2]
        simp only
        rw [chgQ_short a _ _ _ _ (by omega) (chg_rise hb) (chg_ok hb) (by omega)]
theorem apply_bad {a : List (Int × Int)} {b : List Nat} {e : Nat} (h : applyR a b = .bad e) : e = 7 ∨ e = 8 := by
  unfold applyR at h
  cases h1 : readV b with
  | bad e' => rw [h1] at h; cases h; exact readV_bad h1
  | ok n1 r1 =>
    rw [h1] at h
    simp only at h
    cases h2 : remP a n1 (-1) r1 with
    | bad e' => rw [h2] at h; cases h; exact remP_bad _ _ _ _ _ h2
    | ok gone r2 =>
      rw [h2] at h
      simp only at h
      cases h3 : readV r2 with
      | bad e' => rw [h3] at h; cases h; exact readV_bad h3
      | ok n2 r3 =>
        rw [h3] at h
        simp only at h
        cases h4 : chgQ a gone n2 (-1) r3 with
        | bad e' => rw [h4] at h; cases h; exact chgQ_bad _ _ _ _ _ _ h4
        | ok ch r4 =>
          rw [h4] at h
          cases r4 with
          | nil => cases h
          | cons c r => cases h; exact .inr rfl
theorem apply_canon {a : List (Int × Int)} (ha : IsView a) {b : List Nat} (hb : BytesB b) {x : List (Int × Int)} {r : List Nat} (h : applyR a b = .ok x r) : diffL a x = b ∧ IsView x := by
  unfold applyR at h
  cases h1 : readV b with
  | bad e' => rw [h1] at h; cases h
  | ok n1 r1 =>
    rw [h1] at h
    simp only at h
    obtain ⟨e1, -⟩ := readV_ok hb h1
    have hb1 : BytesB r1 := fun y hy => hb y (by rw [e1]; simp [hy])
    cases h2 : remP a n1 (-1) r1 with
    | bad e' => rw [h2] at h; cases h
    | ok gone r2 =>
      rw [h2] at h
      simp only at h
      obtain ⟨e2, l2, s2, g2, hb2⟩ := remP_inv a n1 (-1) r1 gone r2 (by omega) hb1 h2
      cases h3 : readV r2 with
      | bad e' => rw [h3] at h; cases h
      | ok n2 r3 =>
        rw [h3] at h
        simp only at h
        obtain ⟨e3, -⟩ := readV_ok hb2 h3
        have hb3 : BytesB r3 := fun y hy => hb2 y (by rw [e3]; simp [hy])
        cases h4 : chgQ a gone n2 (-1) r3 with
        | bad e' => rw [h4] at h; cases h
        | ok ch r4 =>
          rw [h4] at h
          cases r4 with
          | cons c r => cases h
          | nil =>
            cases h
            obtain ⟨e4, l4, s4, c4⟩ := chgQ_inv a ha.val gone n2 (-1) r3 ch [] (by omega) hb3 h4
            have hcs : Srt ch := srt_keys.2 s4.2
            have hms := mv_srt gone a ch ha.srt hcs
            have hmm := mv_mem gone a ch ha.srt hcs
            have hgone : goneL a (mv a ch gone) = gone := by
              refine ints_eq (srt_keys.1 (ha.srt.filter _)) s2.2 fun k => ?_
              unfold goneL
              rw [List.mem_map]
              constructor
              · rintro ⟨y, hy, rfl⟩
                obtain ⟨k1, k2⟩ := List.mem_filter.1 hy
                have k3 : has (mv a ch gone) y.1 = false := by simpa using k2
                by_cases hm : y.1 ∈ gone
                · exact hm
                · exfalso
                  cases hc : has ch y.1 with
                  | true =>
                    obtain ⟨v, hv⟩ := has_mem.1 hc
                    rw [has_mem.2 ⟨v, (hmm _).2 (.inl hv)⟩] at k3; cases k3
                  | false =>
                    rw [has_mem.2 ⟨y.2, (hmm y).2 (.inr ⟨k1, hc, hm⟩)⟩] at k3; cases k3
              · intro hk
                obtain ⟨v, hv⟩ := has_mem.1 (g2 k hk)
                refine ⟨(k, v), List.mem_filter.2 ⟨hv, ?_⟩, rfl⟩
                have : has (mv a ch gone) k = false := by
                  rw [Bool.eq_false_iff]
                  intro hx
                  obtain ⟨u, hu⟩ := has_mem.1 hx
                  rcases (hmm _).1 hu with q | ⟨-, -, q⟩
                  · exact (c4 _ q).out hk
                  · exact q hk
                simp [this]
            have hchg : chgL a (mv a ch gone) = ch := by
              refine srt_eq (hms.filter _) hcs fun y => ?_
              unfold chgL
              rw [List.mem_filter]
              constructor
              · rintro ⟨k1, k2⟩
                rcases (hmm y).1 k1 with q | ⟨q1, -, -⟩
                · exact q
                · have : same a y = true := by unfold same; rw [has_mem.2 ⟨y.2, q1⟩, getv_mem ha.srt q1]; simp
                  rw [this] at k2; cases k2
              · intro hy
                exact ⟨(hmm y).2 (.inl hy), by rw [(c4 y hy).ne]; rfl⟩
            refine ⟨?_, hms, fun y hy => ?_, fun y hy => ?_⟩
            · unfold diffL
              rw [hgone, hchg, l2, l4, e1, e2, e3, e4, List.append_nil, List.append_assoc, List.append_assoc]
            · rcases (hmm y).1 hy with q | ⟨q1, -, -⟩
              · have := s4.1 y.1 (by unfold keys; exact List.mem_map.2 ⟨y, q, rfl⟩)
                unfold maxI at this
                exact ⟨by omega, this.2⟩
              · exact ha.idx y q1
            · rcases (hmm y).1 hy with q | ⟨q1, -, -⟩
              · exact (c4 y q).val
              · exact ha.val y q1
theorem diff_self {a : List (Int × Int)} (ha : IsView a) : diffL a a = [0, 0] := by
  have h1 : goneL a a = [] := by
    unfold goneL
    rw [List.map_eq_nil_iff, List.filter_eq_nil_iff]
    intro x hx
    rw [has_mem.2 ⟨x.2, hx⟩]; simp
  have h2 : chgL a a = [] := by
    unfold chgL
    rw [List.filter_eq_nil_iff]
    intro x hx
    unfold same
    rw [has_mem.2 ⟨x.2, hx⟩, getv_mem ha.srt hx]; simp
  unfold diffL
  rw [h1, h2]
  show varN 0 ++ [] ++ varN 0 ++ [] = _
  rw [varN_lt (by omega)]; rfl
end Go.Proofs.Ytcgndeggemceaaa
/- Package snapshot: the decoder: fail, number, index. -/
namespace Go.Proofs.Ytcgndeggemceaaa
open Go.RowKit

structure IsDec (w : World) (p : Nat) (ro : Option Addr) (rest : List Nat) (rc : Nat) (e : Nat) : Prop where
  head : w.heap[p]? = some (.cells #[.slice ro rest.length rc, .int .i64 (e : Int)] 75 (0, 0))
  rd : Rd w 1 ro rest.length (bts rest)
  fit : rest.length ≤ rc
  cap : rc ≤ maxLen
  out : p ∉ blk ro
def DecTo (w : World) (p : Nat) (ro : Option Addr) (rest : List Nat) (e : Nat) (w' : World) : Prop := ∃ ro' rc', IsDec w' p ro' rest rc' e ∧ Fr [p] w w' ∧ ∀ k ∈ blk ro', k ∈ blk ro
theorem IsDec.old {w w' : World} {p : Nat} {ro : Option Addr} {rest : List Nat} {rc e : Nat} (h : IsDec w p ro rest rc e) (hf : Fr [] w w') : IsDec w' p ro rest rc e := ⟨hf.blk h.head (by simp), h.rd.fr hf (by simp), h.fit, h.cap, h.out⟩
theorem IsDec.to {w w' : World} {p : Nat} {ro : Option Addr} {rest : List Nat} {rc e : Nat} (h : IsDec w p ro rest rc e) (hf : Fr [] w w') : DecTo w p ro rest e w' := ⟨ro, rc, h.old hf, hf.mono (by simp), fun _ hk => hk⟩
theorem DecTo.then {w w1 w2 : World} {p : Nat} {ro ro1 : Option Addr} {rest : List Nat} {e : Nat} (hf : Fr [p] w w1) (hb : ∀ k ∈ blk ro1, k ∈ blk ro) (h : DecTo w1 p ro1 rest e w2) : DecTo w p ro rest e w2 := by
  obtain ⟨ro', rc', a, b, c⟩ := h
  exact ⟨ro', rc', a, hf.trans b (Ext.refl _ _), fun k hk => hb k (c k hk)⟩

def failE (e x : Nat) : Nat := if e = 0 then x else e
set_option maxHeartbeats 1000000 in
theorem fail_any {w : World} {p : Nat} {ro : Option Addr} {rest : List Nat} {rc e : Nat} (h : IsDec w p ro rest rc e) (x : Nat) :
    Calls Try.prog 39 #[.pointer (some ⟨p, 0, none⟩), .int .i64 (x : Int)] w fun r w' => r = .returned (.tuple #[]) ∧ IsDec w' p ro rest rc (failE e x) ∧ Fr [p] w w' := by
  have c1 : w.cell? ⟨p, 1, none⟩ = some (.int .i64 (e : Int)) := cell_blk h.head 1
  have f1 : w.frozen? ⟨p, 1, none⟩ = false := frozen_blk h.head 1
  have H := Lib.hid h
  clear h
  by_cases he : e = 0
  · have e1 : ((e : Int) == 0) = true := beq_iff_eq.2 (by omega)
    have HE := Lib.hid (by unfold failE; rw [if_pos he] : failE e x = x)
    clear he
    go_enter Try.func39, Try.ntmps39
    go_wp2
    go_end0
    have hs : Fr [p] w (w.setCell ⟨p, 1, none⟩ (.int .i64 (x : Int))) := (Fr.refl _ _).setCell (.inl (by simp)) _
    refine ⟨rfl, ?_, hs⟩
    rw [HE.out]
    exact ⟨setCell_blk H.out.head 1 _, H.out.rd.fr hs (fun k hk => by have := H.out.out; intro hm; simp at hm; subst hm; exact this hk), H.out.fit, H.out.cap, H.out.out⟩
  · have e1 : ((e : Int) == 0) = false := beq_eq_false_iff_ne.2 (by omega)
    have HE := Lib.hid (by unfold failE; rw [if_neg he] : failE e x = e)
    clear he
    go_enter Try.func39, Try.ntmps39
    go_wp2
    go_end0
    exact ⟨rfl, by rw [HE.out]; exact H.out, Fr.refl _ _⟩

/-! ### number -/
/-- the same reading, the number so far at hand -/
def readA : Nat → Nat → Nat → List Nat → Rdr Nat
  | 0, _, _, _ => .bad 8
  | _ + 1, _, _, [] => .bad 7
  | k + 1, i, n, c :: r => if c < 128 then (if (0 < i ∧ c = 0) ∨ (i = 9 ∧ 1 < c) then .bad 8 else .ok (n + c * 128 ^ i) r) else readA k (i + 1) (n + c % 128 * 128 ^ i) r
theorem readA_eq : ∀ (k i n : Nat) (l : List Nat), readA k i n l = match readG k i l with | .bad e => .bad e | .ok m r => .ok (n + m * 128 ^ i) r := by
  intro k
  induction k with
  | zero => intro i n l; rfl
  | succ k ih =>
    intro i n l
    cases l with
    | nil => rfl
    | cons c r =>
      rw [readA, readG]
      by_cases h : c < 128
      · rw [if_pos h, if_pos h]
        by_cases h2 : (0 < i ∧ c = 0) ∨ (i = 9 ∧ 1 < c)
        · rw [if_pos h2, if_pos h2]
        · rw [if_neg h2, if_neg h2]
      · rw [if_neg h, if_neg h, ih]
        cases readG k (i + 1) r with
        | bad e => rfl
        | ok m r' =>
          simp only
          congr 1
          rw [Nat.pow_succ, Nat.add_mul, Nat.add_assoc, Nat.mul_comm (128 ^ i) 128, ← Nat.mul_assoc, Nat.mul_comm m 128]
theorem readA_zero (l : List Nat) : readA 10 0 0 l = readV l := by
  rw [readA_eq]
  unfold readV
  cases readG 10 0 l with
  | bad e => rfl
  | ok m r => simp
def rdrN : Rdr Nat → Nat
  | .bad _ => 0
  | .ok n _ => n
def rdrR (rest : List Nat) : Rdr Nat → List Nat
  | .bad _ => rest
  | .ok _ r => r
def rdrE : Rdr Nat → Nat
  | .bad x => x
  | .ok _ _ => 0
def numN (rest : List Nat) (e : Nat) : Nat := if e = 0 then rdrN (readV rest) else 0
def numR (rest : List Nat) (e : Nat) : List Nat := if e = 0 then rdrR rest (readV rest) else rest
def numE (rest : List Nat) (e : Nat) : Nat := if e = 0 then rdrE (readV rest) else e

theorem and127' (x : Nat) (hx : x < 256) : bits BinOp.and IntKind.u8 (x : Int) 127 = ((x % 128 : Nat) : Int) := by
  have h : ∀ y : Fin 256, y.val &&& 127 = y.val % 128 := by decide +kernel
  rw [show (127 : Int) = ((127 : Nat) : Int) from rfl, bits_and_u8 _ _ hx (by omega)]
  have := h ⟨x, hx⟩
  simp only at this
  rw [this]
theorem or_lowB (n a k : Nat) (h : n < 2 ^ k) : n ||| a * 2 ^ k = n + a * 2 ^ k := by
  rw [Nat.or_comm, Nat.mul_comm, ← Nat.two_pow_add_eq_or_of_lt h, Nat.add_comm]
theorem digit64 (n y i : Nat) (hi : i ≤ 9) (hn : n < 128 ^ i) (hy : y < 128) (hf : i ≤ 8 ∨ y ≤ 1) : bits BinOp.or IntKind.u64 (n : Int) (IntKind.u64.wrap ((y : Int) * 2 ^ (7 * i))) = ((n + y * 128 ^ i : Nat) : Int) := by
  have e2 : (2 : Nat) ^ (7 * i) = 128 ^ i := by rw [Nat.pow_mul]
  have hm : y * 128 ^ i < 18446744073709551616 := by
    rcases Nat.lt_or_ge i 9 with h | h
    · have hp : (128 : Nat) ^ i ≤ 128 ^ 8 := Nat.pow_le_pow_right (by omega) (by omega)
      have : y * 128 ^ i ≤ 127 * 128 ^ 8 := Nat.mul_le_mul (by omega) hp
      omega
    · have : i = 9 := by omega
      subst this
      have : y ≤ 1 := by omega
      omega
  have hn2 : n < 18446744073709551616 := by
    have hp : (128 : Nat) ^ i ≤ 128 ^ 9 := Nat.pow_le_pow_right (by omega) (by omega)
    omega
  have e1 : (y : Int) * 2 ^ (7 * i) = ((y * 128 ^ i : Nat) : Int) := by
    rw [show (2 : Int) ^ (7 * i) = ((2 ^ (7 * i) : Nat) : Int) by rw [Int.natCast_pow]; rfl, e2, Int.natCast_mul]
  rw [e1, IntWalk.u64_in _ (by omega), Go.u64_or_nat _ _ hn2 hm, ← e2, or_lowB _ _ _ (by rw [e2]; exact hn)]
theorem next_lt {n y i : Nat} (hn : n < 128 ^ i) (hy : y < 128) : n + y * 128 ^ i < 128 ^ (i + 1) := by
  rw [Nat.pow_succ]
  have : y * 128 ^ i ≤ 127 * 128 ^ i := Nat.mul_le_mul_right _ (by omega)
  omega
theorem cut_rdB {w : World} {g off cap i : Nat} {l : List Nat} (h : Rd w 1 (some ⟨g, off, none⟩) l.length (bts l)) (hi : i ≤ l.length) (hc : l.length ≤ cap) : Rd w 1 (cutA (some ⟨g, off, none⟩) i cap 1) (l.drop i).length (bts (l.drop i)) := by
  obtain ⟨e1, e2, e3⟩ := h
  refine ⟨by simp [bts_length], by rw [List.length_drop]; omega, ?_⟩
  rcases Nat.eq_or_lt_of_le hi with h0 | h0
  · left; rw [List.length_drop]; omega
  · rcases e3 with e3 | ⟨g', off', ha, hg, hcc⟩
    · omega
    · cases ha
      refine .inr ⟨g, off + i * 1, cutA_ne (by omega), hg, fun j hj => ?_⟩
      rw [List.length_drop] at hj
      have := hcc (i + j) (by omega)
      rw [show off + i * 1 + j = off + (i + j) by omega, this]
      simp [bts, List.getElem?_drop]

def NumTo (w : World) (p : Nat) (ro : Option Addr) (n : Nat) (rest : List Nat) (e : Nat) (r : Ending) (w' : World) : Prop := r = .returned (.int .u64 (n : Int)) ∧ DecTo w p ro rest e w'
theorem numTo_bad {w w' : World} {p : Nat} {ro : Option Addr} {rest : List Nat} {rc x : Nat} {R : Rdr Nat} (hR : R = .bad x) (hd : IsDec w' p ro rest rc (failE 0 x)) (hx : x ≠ 0) (hf : Fr [p] w w') : NumTo w p ro (rdrN R) (rdrR rest R) (rdrE R) (.returned (.int .u64 0)) w' := by
  subst hR
  refine ⟨rfl, ro, rc, ?_, hf, fun _ h => h⟩
  simpa [failE, rdrR, rdrE] using hd

set_option maxRecDepth 100000 in
set_option maxHeartbeats 8000000 in
theorem number_any {w : World} {p : Nat} {ro : Option Addr} {rest : List Nat} {rc e : Nat} (h : IsDec w p ro rest rc e) (hb : BytesB rest) :
    Calls Try.prog 52 #[.pointer (some ⟨p, 0, none⟩)] w (NumTo w p ro (numN rest e) (numR rest e) (numE rest e)) := by
  have hlen : rest.length ≤ 9223372036854775807 := by have := h.rd.2.1; unfold maxLen at this; omega
  have hcap : rc ≤ 9223372036854775807 := by have := h.cap; unfold maxLen at this; omega
  have H := Lib.hid h
  have HB := Lib.hid hb
  have c0 : w.cell? ⟨p, 0, none⟩ = some (.slice ro rest.length rc) := cell_blk h.head 0
  have c1 : w.cell? ⟨p, 1, none⟩ = some (.int .i64 (e : Int)) := cell_blk h.head 1
  have f0 : w.frozen? ⟨p, 0, none⟩ = false := frozen_blk h.head 0
  have hfit := h.fit
  by_cases he : e = 0
  · have e1 : ((e : Int) != 0) = false := by rw [he]; rfl
    obtain ⟨R, hR⟩ : ∃ R, R = readV rest := ⟨_, rfl⟩
    have HN := Lib.hid (by unfold numN; rw [if_pos he, ← hR] : numN rest e = rdrN R)
    have HRR := Lib.hid (by unfold numR; rw [if_pos he, ← hR] : numR rest e = rdrR rest R)
    have HEE := Lib.hid (by unfold numE; rw [if_pos he, ← hR] : numE rest e = rdrE R)
    have HS := Lib.hid (.inl ⟨by omega, 0, rfl, by omega, by rw [List.drop_zero, readA_zero, hR]⟩ : (0 ≤ 9 ∧ ∃ N : Nat, Value.int .u64 0 = .int .u64 (N : Int) ∧ N < 128 ^ 0 ∧ readA (10 - 0) 0 N (rest.drop 0) = R) ∨ (0 = 10 ∧ R = .bad 8))
    have HE0 := Lib.hid he
    have HX8 := Lib.hid (fun (hRb : R = .bad 8) => (fail_any h 8).mono (fun r w' hw => (⟨hw.1, by have := numTo_bad hRb (by rw [← he]; exact hw.2.1) (by omega) hw.2.2; rw [HN.out, HRR.out, HEE.out]; exact this⟩ : r = .returned (.tuple #[]) ∧ NumTo w p ro (numN rest e) (numR rest e) (numE rest e) (.returned (.int .u64 0)) w')))
    have HX7 := Lib.hid (fun (hRb : R = .bad 7) => (fail_any h 7).mono (fun r w' hw => (⟨hw.1, by have := numTo_bad hRb (by rw [← he]; exact hw.2.1) (by omega) hw.2.2; rw [HN.out, HRR.out, HEE.out]; exact this⟩ : r = .returned (.tuple #[]) ∧ NumTo w p ro (numN rest e) (numR rest e) (numE rest e) (.returned (.int .u64 0)) w')))
    clear h hb hR he
    go_enter Try.func52, Try.ntmps52
    go_wp2_with fail
    go_loopw [3, 11] (fun nv iv wr => ∃ i : Nat, i ≤ rest.length ∧ iv = .int .i64 (i : Int) ∧ wr = w ∧ ((i ≤ 9 ∧ ∃ N : Nat, nv = .int .u64 (N : Int) ∧ N < 128 ^ i ∧ readA (10 - i) i N (rest.drop i) = R) ∨ (i = 10 ∧ R = .bad 8))) (fun _ iv _ => 10 - (intOf iv).toNat)
    case atStart => exact ⟨0, by omega, rfl, rfl, HS.out⟩
    case round =>
      clear HS
      obtain ⟨i, hil, rfl, rfl, ⟨hi9, N, rfl, hN, hR⟩ | ⟨hi10, hR⟩⟩ := hrel
      · have hi10 : i < 10 := by omega
        by_cases hl : i < rest.length
        · obtain ⟨g, off, rfl, hg, hcc⟩ := H.out.rd.at (by omega)
          have cx : wr.cell? ⟨g, off + i, none⟩ = some (.int .u8 ((rest[i] : Nat) : Int)) := by
            rw [hcc i (by omega), bts_get, List.getElem?_eq_getElem hl]; rfl
          have hx : rest[i] < 256 := HB.out _ (List.getElem_mem hl)
          have hdr : rest.drop i = rest[i] :: rest.drop (i + 1) := List.drop_eq_getElem_cons hl
          obtain ⟨k, hk⟩ : ∃ k, 10 - i = k + 1 := ⟨9 - i, by omega⟩
          rw [hdr, hk, readA] at hR
          obtain ⟨x, hx2⟩ : ∃ x, x = rest[i] := ⟨_, rfl⟩
          rw [← hx2] at cx hx hR
          have HX := Lib.hid hx2
          have HR := Lib.hid hR
          have HNl := Lib.hid hN
          have HK := Lib.hid hk
          have ha := and127' x hx
          have hneb : ((i : Int) == (rest.length : Int)) = false := beq_eq_false_iff_ne.2 (by omega)
          have w7 : IntKind.i64.wrap (7 * (i : Int)) = 7 * (i : Int) := IntWalk.i64_in _ (by omega)
          have w8 : IntKind.i64.wrap ((i : Int) + 1) = (i : Int) + 1 := IntWalk.i64_in _ (by omega)
          have wu : IntKind.u64.wrap (((x % 128 : Nat) : Int)) = ((x % 128 : Nat) : Int) := IntWalk.u64_in _ (by omega)
          obtain ⟨y, hy⟩ : ∃ y, y = x % 128 := ⟨_, rfl⟩
          have hyl : y < 128 := by omega
          rw [← hy] at ha wu
          obtain ⟨M, hM⟩ : ∃ M : Int, bits BinOp.or IntKind.u64 (N : Int) (IntKind.u64.wrap ((y : Int) * 2 ^ (7 * i))) = M := ⟨_, rfl⟩
          have HM := Lib.hid (fun hf => hM.symm.trans (digit64 N y i hi9 HNl.out hyl hf))
          have HY := Lib.hid hy
          have HCUT := Lib.hid (cut_rdB (i := i + 1) H.out.rd (show i + 1 ≤ rest.length by omega) hfit)
          clear hcc hdr hR hN hk hx2 hy
          by_cases hx8 : x < 128
          · have hRe := HR.out
            rw [if_pos hx8] at hRe
            by_cases hbad : (0 < i ∧ x = 0) ∨ (i = 9 ∧ 1 < x)
            · rw [if_pos hbad] at hRe
              have HCL := Lib.hid (HX8.out hRe.symm)
              rcases hbad with ⟨hz1, hz2⟩ | ⟨hz1, hz2⟩
              · have hzb : ((x : Int) == 0) = true := beq_iff_eq.2 (by omega)
                clear hRe hz2 HR
                go_wp2_with fail
                refine HCL.out.mono ?_
                rintro r w2 ⟨rfl, hn⟩
                go_wp2
                go_ret
                exact hn
              · have hzb : ((x : Int) == 0) = false := beq_eq_false_iff_ne.2 (by omega)
                have h9b : ((i : Int) == 9) = true := beq_iff_eq.2 (by omega)
                have hi0 : 0 < i := by omega
                clear hRe hz1 HR
                go_wp2_with fail
                refine HCL.out.mono ?_
                rintro r w2 ⟨rfl, hn⟩
                go_wp2
                go_ret
                exact hn
            · rw [if_neg hbad] at hRe
              have hyx : y = x := by rw [HY.out]; exact Nat.mod_eq_of_lt hx8
              have hME : M = ((N + x * 128 ^ i : Nat) : Int) := by rw [← hyx]; exact HM.out (by rw [hyx]; omega)
              have HF := Lib.hid (show NumTo wr p (some ⟨g, off, none⟩) (rdrN R) (rdrR rest R) (rdrE R) (.returned (.int .u64 M)) (wr.setCell ⟨p, 0, none⟩ (.slice (cutA (some ⟨g, off, none⟩) (i + 1) rc 1) (rest.length - (i + 1)) (rc - (i + 1)))) by
                have hs : Fr [p] wr (wr.setCell ⟨p, 0, none⟩ (.slice (cutA (some ⟨g, off, none⟩) (i + 1) rc 1) (rest.length - (i + 1)) (rc - (i + 1)))) := (Fr.refl _ _).setCell (.inl (by simp)) _
                have hbk : ∀ k ∈ blk (cutA (some ⟨g, off, none⟩) (i + 1) rc 1), k ∈ blk (some (⟨g, off, none⟩ : Addr)) := fun k hk => by rw [blk_cutA] at hk; exact hk
                have hgp : p ∉ blk (some (⟨g, off, none⟩ : Addr)) := H.out.out
                rw [← hRe]
                refine ⟨by simp only [rdrN]; rw [hME], _, rc - (i + 1), ?_, hs, hbk⟩
                simp only [rdrR, rdrE]
                have hl2 : (rest.drop (i + 1)).length = rest.length - (i + 1) := List.length_drop
                refine ⟨?_, HCUT.out.fr hs (fun k hk hm => ?_), by rw [hl2]; omega, by have := H.out.cap; omega, fun hm => hgp (hbk _ hm)⟩
                · rw [hl2]
                  have := setCell_blk H.out.head 0 (.slice (cutA (some ⟨g, off, none⟩) (i + 1) rc 1) (rest.length - (i + 1)) (rc - (i + 1)))
                  rw [HE0.out] at this
                  exact this
                · simp at hm; subst hm; exact hgp (hbk _ hk))
              clear hME hyx hRe HR
              have hsl : ∀ u : World, (Instr.slice 26 (.slice (some ⟨g, off, none⟩) rest.length rc) (some (.int .i64 ((i : Int) + 1))) none none).run Try.prog u = .ok (.slice (cutA (some ⟨g, off, none⟩) (i + 1) rc 1) (rest.length - (i + 1)) (rc - (i + 1))) u := fun u => by
                have := run_slice_from (P := Try.prog) 26 5 Try.underlying26 1 (by kernel_rfl) (some ⟨g, off, none⟩) rest.length rc (i + 1) (by omega) u
                exact this
              rcases Nat.eq_zero_or_pos i with hi0 | hi0
              · have hg0 : ¬ 0 < i := by omega
                have h9b : ((i : Int) == 9) = false := beq_eq_false_iff_ne.2 (by omega)
                clear hi0 hbad
                go_wp2_with fail
                go_ret
                rw [HN.out, HRR.out, HEE.out]
                exact HF.out
              · have hzb : ((x : Int) == 0) = false := beq_eq_false_iff_ne.2 (by omega)
                rcases Nat.lt_or_ge i 9 with h9 | h9
                · have h9b : ((i : Int) == 9) = false := beq_eq_false_iff_ne.2 (by omega)
                  clear hbad
                  go_wp2_with fail
                  go_ret
                  rw [HN.out, HRR.out, HEE.out]
                  exact HF.out
                · have h9b : ((i : Int) == 9) = true := beq_iff_eq.2 (by omega)
                  have hx1 : ¬ 1 < x := by omega
                  clear hbad
                  go_wp2_with fail
                  go_ret
                  rw [HN.out, HRR.out, HEE.out]
                  exact HF.out
          · have hRe := HR.out
            rw [if_neg hx8] at hRe
            have HRE := Lib.hid (show (i + 1 ≤ 9 ∧ ∃ N' : Nat, Value.int .u64 M = .int .u64 (N' : Int) ∧ N' < 128 ^ (i + 1) ∧ readA (10 - (i + 1)) (i + 1) N' (rest.drop (i + 1)) = R) ∨ (i + 1 = 10 ∧ R = .bad 8) by
              rcases Nat.lt_or_ge i 9 with h9 | h9
              · exact .inl ⟨by omega, N + y * 128 ^ i, by rw [HM.out (.inl (by omega))], next_lt HNl.out hyl, by rw [HY.out, show 10 - (i + 1) = k by have := HK.out; omega]; exact hRe⟩
              · exact .inr ⟨by omega, by rw [← hRe, show k = 0 by have := HK.out; omega, readA]⟩)
            clear hRe HR
            go_wp2_with fail
            go_roundw
            case rel => exact ⟨i + 1, by omega, by go_num, by trivial, HRE.out⟩
            case measure => simp [intOf]; omega
        · have hRe := hR
          rw [List.drop_of_length_le (by omega)] at hRe
          have hRb : R = .bad 7 := by rw [← hRe]; obtain ⟨k, hk⟩ : ∃ k, 10 - i = k + 1 := ⟨9 - i, by omega⟩; rw [hk, readA]
          have heb : ((i : Int) == (rest.length : Int)) = true := beq_iff_eq.2 (by omega)
          have HCL := Lib.hid (HX7.out hRb)
          clear hRe hR hN hRb
          go_wp2_with fail
          refine HCL.out.mono ?_
          rintro r w2 ⟨rfl, hn⟩
          go_wp2
          go_ret
          exact hn
      · have hi : i = 10 := hi10
        have HCL := Lib.hid (HX8.out hR)
        clear hR
        go_wp2_with fail
        refine HCL.out.mono ?_
        rintro r w2 ⟨rfl, hn⟩
        go_wp2
        go_ret
        exact hn
  · have e1 : ((e : Int) != 0) = true := bne_iff_ne.2 (by omega)
    have HN := Lib.hid (by unfold numN; rw [if_neg he] : numN rest e = 0)
    have HRR := Lib.hid (by unfold numR; rw [if_neg he] : numR rest e = rest)
    have HEE := Lib.hid (by unfold numE; rw [if_neg he] : numE rest e = e)
    clear h he hb
    go_enter Try.func52, Try.ntmps52
    go_wp2_with fail
    go_ret
    exact ⟨by rw [HN.out]; rfl, by rw [HRR.out, HEE.out]; exact H.out.to (Fr.refl _ _)⟩
end Go.Proofs.Ytcgndeggemceaaa
