/- Package ringlog: what a ring is in the heap; Oldest, Newest, New. -/
import Derived.Test.YtchigfofcdildaaBack
namespace Go.Proofs.Ytchigfofcdildaa
open Go.RowKit

structure RingS where
  keep : Int
  ents : List (Int × Int)

structure IsRingAt (w : World) (r p : Nat) (F : List Nat) (R : RingS) (ea : Option Addr) (ec : Nat) : Prop where
  blocks : F = r :: blk ea
  re : r ∉ blk ea
  head : w.heap[r]? = some (.cells #[.pointer (some ⟨p, 0, none⟩), .int .i64 R.keep, .slice ea R.ents.length ec] 57 (0, 0))
  ents : Seg w 59 2 ea R.ents.length ec (pairs R.ents)

def IsRing (w : World) (r p : Nat) (F : List Nat) (R : RingS) : Prop := ∃ ea ec, IsRingAt w r p F R ea ec

section
variable {w : World} {r p : Nat} {F : List Nat} {R : RingS}

theorem IsRingAt.lt {ea : Option Addr} {ec : Nat} (h : IsRingAt w r p F R ea ec) : ∀ k ∈ F, k < w.heap.size := by
  intro k hk
  rw [h.blocks] at hk
  simp only [List.mem_cons] at hk
  rcases hk with rfl | hk
  · exact lt_of_blk h.head
  · exact h.ents.lt k hk

theorem IsRing.lt (h : IsRing w r p F R) : ∀ k ∈ F, k < w.heap.size := by obtain ⟨_, _, h⟩ := h; exact h.lt

theorem IsRing.fr {w' : World} {S : List Nat} (h : IsRing w r p F R) (hf : Fr S w w') (hS : ∀ k ∈ F, k ∉ S) : IsRing w' r p F R := by
  obtain ⟨ea, ec, h⟩ := h
  have hb := h.blocks
  exact ⟨ea, ec, h.blocks, h.re, hf.blk h.head (hS r (by simp [hb])), h.ents.fr hf (fun k hk => hS k (by simp [hb, hk]))⟩

theorem IsRingAt.c0 {ea : Option Addr} {ec : Nat} (h : IsRingAt w r p F R ea ec) : w.cell? ⟨r, 0, none⟩ = some (.pointer (some ⟨p, 0, none⟩)) := by have := cell_blk h.head 0; simpa using this
theorem IsRingAt.c1 {ea : Option Addr} {ec : Nat} (h : IsRingAt w r p F R ea ec) : w.cell? ⟨r, 1, none⟩ = some (.int .i64 R.keep) := by have := cell_blk h.head 1; simpa using this
theorem IsRingAt.c2 {ea : Option Addr} {ec : Nat} (h : IsRingAt w r p F R ea ec) : w.cell? ⟨r, 2, none⟩ = some (.slice ea R.ents.length ec) := by have := cell_blk h.head 2; simpa using this
theorem IsRingAt.len {ea : Option Addr} {ec : Nat} (h : IsRingAt w r p F R ea ec) : R.ents.length ≤ 9223372036854775807 ∧ R.ents.length ≤ ec ∧ ec ≤ 9223372036854775807 := by
  have c := h.ents.2.1; have d := h.ents.2.2.1
  unfold maxLen at c; omega

/-- the two cells of an element of a list of pairs -/
theorem Seg.pair {w : World} {e : TypeId} {g off n cap : Nat} {l : List (Int × Int)} (h : Seg w e 2 (some ⟨g, off, none⟩) n cap (pairs l)) {k : Nat} (hk : k < l.length) :
    w.cell? ⟨g, off + k * 2, none⟩ = some (.int .i64 l[k].1) ∧ w.cell? ⟨g, off + k * 2 + 1, none⟩ = some (.int .i64 l[k].2) := by
  have hl := h.1
  rw [pairs_length] at hl
  obtain ⟨g', off', cur, ha, _, _, hc, _⟩ := h.at (by have := h.2.2.1; omega)
  cases ha
  constructor
  · rw [hc _ (by omega), pairs_get0, List.getElem?_eq_getElem hk]; rfl
  · rw [Nat.add_assoc, hc _ (by omega), pairs_get1, List.getElem?_eq_getElem hk]; rfl

theorem Seg.somewhere {w : World} {e : TypeId} {size n cap : Nat} {ao : Option Addr} {xs : List Value} (h : Seg w e size ao n cap xs) (hn : 0 < n) : ∃ g off, ao = some ⟨g, off, none⟩ := by
  obtain ⟨g, off, _, ha, _⟩ := h.at (by have := h.2.2.1; omega)
  exact ⟨g, off, ha⟩

def RingS.oldest (R : RingS) : Int := if h : 0 < R.ents.length then (R.ents[0]).1 else -1
def RingS.newest (R : RingS) : Int := if h : 0 < R.ents.length then (R.ents[R.ents.length - 1]).1 else -1

theorem oldest_any (h : IsRing w r p F R) :
    Calls Try.prog 14 #[.pointer (some ⟨r, 0, none⟩)] w fun e w' => e = .returned (.int .i64 R.oldest) ∧ w = w' := by
  obtain ⟨ea, ec, h⟩ := h
  have c2 := h.c2
  by_cases hz : 0 < R.ents.length
  · obtain ⟨g, off, rfl⟩ := h.ents.somewhere hz
    have hc := (h.ents.pair hz).1
    rw [Nat.zero_mul, Nat.add_zero] at hc
    have hd : ((R.ents.length : Int) == 0) = false := beq_eq_false_iff_ne.2 (by omega)
    clear h
    go_enter Try.func14, Try.ntmps14
    go_wp2
    go_ret
    exact ⟨ret_int (by rw [RingS.oldest, dif_pos hz]), rfl⟩
  · have hd : ((R.ents.length : Int) == 0) = true := beq_iff_eq.2 (by omega)
    clear h
    go_enter Try.func14, Try.ntmps14
    go_wp2
    go_ret
    exact ⟨ret_int (by rw [RingS.oldest, dif_neg hz]), rfl⟩

theorem newest_any (h : IsRing w r p F R) :
    Calls Try.prog 15 #[.pointer (some ⟨r, 0, none⟩)] w fun e w' => e = .returned (.int .i64 R.newest) ∧ ∃ n, w' = w.drewN n := by
  obtain ⟨ea, ec, h⟩ := h
  have c2 := h.c2
  have hlen := h.len
  by_cases hz : 0 < R.ents.length
  · obtain ⟨g, off, rfl⟩ := h.ents.somewhere hz
    have hc := (h.ents.pair (k := R.ents.length - 1) (by omega)).1
    have hd : ((R.ents.length : Int) == 0) = false := beq_eq_false_iff_ne.2 (by omega)
    clear h
    go_enter Try.func15, Try.ntmps15
    go_wp2
    go_quiet (fail)
    go_wp2
    go_ret
    exact ⟨ret_int (by rw [RingS.newest, dif_pos hz]), _, rfl⟩
  · have hd : ((R.ents.length : Int) == 0) = true := beq_iff_eq.2 (by omega)
    clear h
    go_enter Try.func15, Try.ntmps15
    go_wp2
    go_ret
    exact ⟨ret_int (by rw [RingS.newest, dif_neg hz]), 0, rfl⟩

/-- a ring has been made at block r -/
theorem ringnew_any (w : World) (p : Nat) (keep : Int) (h1 : 1 ≤ keep) (h2 : keep ≤ 13) :
    Calls Try.prog 30 #[.pointer (some ⟨p, 0, none⟩), .int .i64 keep] w fun e w' => e = .returned (.pointer (some ⟨w.heap.size, 0, none⟩)) ∧ (IsRing w' w.heap.size p [w.heap.size] { keep := keep, ents := [] } ∧ Fr [] w w') := by
  by_cases hk : keep = 1
  · subst hk
    go_enter Try.func30, Try.ntmps30
    go_wp2
    go_ret
    exact ⟨rfl, ⟨none, 0, rfl, by simp [blk], alloc_new _ _, Seg.nil _ _ _⟩, (Fr.refl _ _).alloc _⟩
  · have h3 : 1 < keep := by omega
    clear hk
    go_enter Try.func30, Try.ntmps30
    go_wp2
    all_goals
      go_ret
      exact ⟨rfl, ⟨none, 0, rfl, by simp [blk], alloc_new _ _, Seg.nil _ _ _⟩, (Fr.refl _ _).alloc _⟩
end
end Go.Proofs.Ytchigfofcdildaa
