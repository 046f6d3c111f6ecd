/- Package cellmem: what a memory is in the heap, and the contracts of its small methods. -/
import Derived.Test.YtlfomhknfpmhbaaProg
import Derived.Test.YtlfomhknfpmhbaaBase
namespace Go.Proofs.Ytlfomhknfpmhbaa
open Go.RowKit

theorem ret_int {k : IntKind} {a b : Int} (h : a = b) : Ending.returned (.int k a) = .returned (.int k b) := by rw [h]
theorem ret_bool {a b : Bool} (h : a = b) : Ending.returned (.bool a) = .returned (.bool b) := by rw [h]

structure MemS where
  cells : List Int
  log : List (Int × Int)
  base : Int

def ints (l : List Int) : List Value := l.map (Value.int .i64)
def pairs (l : List (Int × Int)) : List Value := l.flatMap fun x => [.int .i64 x.1, .int .i64 x.2]

theorem ints_length (l : List Int) : (ints l).length = l.length := by simp [ints]
theorem ints_get (l : List Int) (j : Nat) : (ints l)[j]? = l[j]?.map (Value.int .i64) := by simp [ints]
theorem ints_append (l m : List Int) : ints (l ++ m) = ints l ++ ints m := by simp [ints]
theorem pairs_length (l : List (Int × Int)) : (pairs l).length = l.length * 2 := by
  induction l with
  | nil => rfl
  | cons x l ih => simp only [pairs, List.flatMap_cons, List.length_append, List.length_cons, List.length_nil] at ih ⊢; omega
theorem pairs_append (l m : List (Int × Int)) : pairs (l ++ m) = pairs l ++ pairs m := by simp [pairs]
theorem pairs_cons (x : Int × Int) (m : List (Int × Int)) : pairs (x :: m) = .int .i64 x.1 :: .int .i64 x.2 :: pairs m := by simp [pairs]
theorem pairs_drop (k : Nat) (l : List (Int × Int)) : (pairs l).drop (k * 2) = pairs (l.drop k) := by
  induction l generalizing k with
  | nil => simp [pairs]
  | cons x l ih =>
    cases k with
    | zero => simp
    | succ k => rw [pairs_cons, List.drop_succ_cons, ← ih k, show (k + 1) * 2 = k * 2 + 1 + 1 by omega, List.drop_succ_cons, List.drop_succ_cons]
theorem pairs_take (k : Nat) (l : List (Int × Int)) : (pairs l).take (k * 2) = pairs (l.take k) := by
  induction l generalizing k with
  | nil => simp [pairs]
  | cons x l ih =>
    cases k with
    | zero => simp [pairs]
    | succ k => rw [pairs_cons, List.take_succ_cons, pairs_cons, ← ih k, show (k + 1) * 2 = k * 2 + 1 + 1 by omega, List.take_succ_cons, List.take_succ_cons]
theorem pairs_get0 (l : List (Int × Int)) (k : Nat) : (pairs l)[k * 2]? = l[k]?.map fun x => .int .i64 x.1 := by
  induction l generalizing k with
  | nil => simp [pairs]
  | cons x l ih =>
    cases k with
    | zero => simp [pairs]
    | succ k => rw [pairs_cons, show (k + 1) * 2 = k * 2 + 1 + 1 by omega, List.getElem?_cons_succ, List.getElem?_cons_succ, ih]; simp
theorem pairs_get1 (l : List (Int × Int)) (k : Nat) : (pairs l)[k * 2 + 1]? = l[k]?.map fun x => .int .i64 x.2 := by
  induction l generalizing k with
  | nil => simp [pairs]
  | cons x l ih =>
    cases k with
    | zero => simp [pairs]
    | succ k => rw [pairs_cons, show (k + 1) * 2 = k * 2 + 1 + 1 by omega, List.getElem?_cons_succ, List.getElem?_cons_succ, ih]; simp

theorem ints_one (l : List Int) : ∀ u ∈ ints l, u.oneCell' = true := by
  intro u hu; simp only [ints, List.mem_map] at hu; obtain ⟨_, _, rfl⟩ := hu; rfl
theorem pairs_one (l : List (Int × Int)) : ∀ u ∈ pairs l, u.oneCell' = true := by
  intro u hu; simp only [pairs, List.mem_flatMap] at hu; obtain ⟨x, _, hx⟩ := hu; simp at hx; rcases hx with rfl | rfl <;> rfl

/-- a memory lies at block p; F: the blocks that it is made of -/
structure IsMemAt (w : World) (p : Nat) (F : List Nat) (s : MemS) (ca : Option Addr) (cc : Nat) (la : Option Addr) (lc : Nat) : Prop where
  blocks : F = p :: (blk ca ++ blk la)
  pc : p ∉ blk ca
  pl : p ∉ blk la
  cl : ∀ k ∈ blk ca, k ∉ blk la
  head : w.heap[p]? = some (.cells #[.slice ca s.cells.length cc, .slice la s.log.length lc, .int .i64 s.base] 82 (0, 0))
  cells : Seg w 3 1 ca s.cells.length cc (ints s.cells)
  log : Seg w 84 2 la s.log.length lc (pairs s.log)

def IsMem (w : World) (p : Nat) (F : List Nat) (s : MemS) : Prop := ∃ ca cc la lc, IsMemAt w p F s ca cc la lc

theorem IsMemAt.lt {w : World} {p : Nat} {F : List Nat} {s : MemS} {ca : Option Addr} {cc : Nat} {la : Option Addr} {lc : Nat} (h : IsMemAt w p F s ca cc la lc) : ∀ k ∈ F, k < w.heap.size := by
  intro k hk
  rw [h.blocks] at hk
  simp only [List.mem_cons, List.mem_append] at hk
  rcases hk with rfl | hk | hk
  · exact lt_of_blk h.head
  · exact h.cells.lt k hk
  · exact h.log.lt k hk

theorem IsMem.lt {w : World} {p : Nat} {F : List Nat} {s : MemS} (h : IsMem w p F s) : ∀ k ∈ F, k < w.heap.size := by
  obtain ⟨_, _, _, _, h⟩ := h; exact h.lt

theorem IsMem.mem {w : World} {p : Nat} {F : List Nat} {s : MemS} (h : IsMem w p F s) : p ∈ F := by
  obtain ⟨_, _, _, _, h⟩ := h; simp [h.blocks]

theorem IsMem.fr {w w' : World} {p : Nat} {F S : List Nat} {s : MemS} (h : IsMem w p F s) (hf : Fr S w w') (hS : ∀ k ∈ F, k ∉ S) : IsMem w' p F s := by
  obtain ⟨ca, cc, la, lc, h⟩ := h
  have hb := h.blocks
  refine ⟨ca, cc, la, lc, h.blocks, h.pc, h.pl, h.cl, hf.blk h.head (hS p (by simp [hb])), h.cells.fr hf (fun k hk => hS k (by simp [hb, hk])), h.log.fr hf (fun k hk => hS k (by simp [hb, hk]))⟩

/-- the memory at p holds s' now; nothing but its own blocks has changed -/
def MemTo (w : World) (p : Nat) (F : List Nat) (s' : MemS) (w' : World) : Prop := ∃ F', IsMem w' p F' s' ∧ Fr F w w' ∧ Ext F w F'

section
variable {w : World} {p : Nat} {F : List Nat} {s : MemS}

theorem IsMemAt.c0 {ca : Option Addr} {cc : Nat} {la : Option Addr} {lc : Nat} (h : IsMemAt w p F s ca cc la lc) : w.cell? ⟨p, 0, none⟩ = some (.slice ca s.cells.length cc) := by have := cell_blk h.head 0; simpa using this
theorem IsMemAt.c1 {ca : Option Addr} {cc : Nat} {la : Option Addr} {lc : Nat} (h : IsMemAt w p F s ca cc la lc) : w.cell? ⟨p, 1, none⟩ = some (.slice la s.log.length lc) := by have := cell_blk h.head 1; simpa using this
theorem IsMemAt.c2 {ca : Option Addr} {cc : Nat} {la : Option Addr} {lc : Nat} (h : IsMemAt w p F s ca cc la lc) : w.cell? ⟨p, 2, none⟩ = some (.int .i64 s.base) := by have := cell_blk h.head 2; simpa using this
theorem IsMemAt.len {ca : Option Addr} {cc : Nat} {la : Option Addr} {lc : Nat} (h : IsMemAt w p F s ca cc la lc) : s.cells.length ≤ 9223372036854775807 ∧ s.log.length ≤ 9223372036854775807 := by
  have a := h.cells.2.1; have b := h.cells.2.2.1; have c := h.log.2.1; have d := h.log.2.2.1
  unfold maxLen at a c; omega

theorem has_yes (h : IsMem w p F s) (i : Int) (h0 : 0 ≤ i) (h1 : i < s.cells.length) :
    Calls Try.prog 48 #[.pointer (some ⟨p, 0, none⟩), .int .i64 i] w fun e w' => e = .returned (.bool true) ∧ w = w' := by
  obtain ⟨ca, cc, la, lc, h⟩ := h
  have c0 := h.c0
  have hn : decide (0 ≤ i) = true := by simpa using h0
  have hm : decide (i < s.cells.length) = true := by simpa using h1
  clear h
  go_enter Try.func48, Try.ntmps48
  go_wp2
  go_ret
  exact ⟨rfl, rfl⟩

theorem has_no (h : IsMem w p F s) (i : Int) (h0 : ¬ (0 ≤ i ∧ i < s.cells.length)) :
    Calls Try.prog 48 #[.pointer (some ⟨p, 0, none⟩), .int .i64 i] w fun e w' => e = .returned (.bool false) ∧ w = w' := by
  obtain ⟨ca, cc, la, lc, h⟩ := h
  have c0 := h.c0
  by_cases hi : 0 ≤ i
  · have hn : decide (0 ≤ i) = true := by simpa using hi
    have hm : decide (i < s.cells.length) = false := by simp; omega
    clear h h0
    go_enter Try.func48, Try.ntmps48
    go_wp2
    go_ret
    exact ⟨rfl, rfl⟩
  · have hn : decide (0 ≤ i) = false := by simp; omega
    clear h h0
    go_enter Try.func48, Try.ntmps48
    go_wp2
    go_ret
    exact ⟨rfl, rfl⟩

def MemS.has (s : MemS) (i : Int) : Bool := decide (0 ≤ i ∧ i < s.cells.length)
def MemS.get (s : MemS) (i : Int) : Int := if s.has i then s.cells.getD i.toNat 0 else 0
def MemS.mark (s : MemS) : Int := s.base + s.log.length

theorem get_any (h : IsMem w p F s) (i : Int) :
    Calls Try.prog 50 #[.pointer (some ⟨p, 0, none⟩), .int .i64 i] w fun e w' => e = .returned (.int .i64 (s.get i)) ∧ w = w' := by
  by_cases h0 : 0 ≤ i ∧ i < s.cells.length
  · have hh := h
    obtain ⟨ca, cc, la, lc, h⟩ := h
    have c0 := h.c0
    obtain ⟨g, off, cur, rfl, hg, hfit, hc, hf⟩ := h.cells.at (by have := h.cells.2.2.1; omega)
    obtain ⟨h1, h2⟩ := h0
    have hlen := h.len.1
    obtain ⟨k, rfl⟩ := Int.eq_ofNat_of_zero_le h1
    have hk : k < s.cells.length := by omega
    have cx : w.cell? ⟨g, off + k, none⟩ = some (.int .i64 s.cells[k]) := by rw [hc k (by omega), ints_get, List.getElem?_eq_getElem hk]; rfl
    clear hc hf hfit hg h
    go_enter Try.func50, Try.ntmps50
    go_wp2_with (go_at_call 48; refine (has_yes hh _ (by omega) (by omega)).mono ?_; rintro e w' ⟨rfl, rfl⟩)
    go_ret
    exact ⟨ret_int (by simp [MemS.get, MemS.has, hk]), rfl⟩
  · go_enter Try.func50, Try.ntmps50
    go_wp2_with (go_at_call 48; refine (has_no h _ h0).mono ?_; rintro e w' ⟨rfl, rfl⟩)
    go_ret
    exact ⟨ret_int (by simp [MemS.get, MemS.has, h0]), rfl⟩

theorem len_any (h : IsMem w p F s) :
    Calls Try.prog 49 #[.pointer (some ⟨p, 0, none⟩)] w fun e w' => e = .returned (.int .i64 s.cells.length) ∧ w = w' := by
  obtain ⟨ca, cc, la, lc, h⟩ := h
  have c0 := h.c0
  clear h
  go_enter Try.func49, Try.ntmps49
  go_wp2
  go_ret
  exact ⟨rfl, rfl⟩


theorem mark_any (h : IsMem w p F s) (hb : 0 ≤ s.base) (hm : s.base + s.log.length ≤ 9223372036854775807) :
    Calls Try.prog 33 #[.pointer (some ⟨p, 0, none⟩)] w fun e w' => e = .returned (.int .i64 s.mark) ∧ ∃ n, w' = w.drewN n := by
  obtain ⟨ca, cc, la, lc, h⟩ := h
  have c1 := h.c1
  have c2 := h.c2
  clear h
  go_enter Try.func33, Try.ntmps33
  go_wp2
  go_quiet (fail)
  go_wp2
  go_ret
  exact ⟨rfl, _, rfl⟩

theorem IsMem.drewN (h : IsMem w p F s) (n : Nat) : IsMem (w.drewN n) p F s := h.fr ((Fr.refl [] w).drewN n) (by simp)

def MemS.check (s : MemS) (m : Int) : Int := if m < s.base then 24 else if s.base + s.log.length < m then 6 else 0

theorem check_any (h : IsMem w p F s) (m : Int) (hb : 0 ≤ s.base) (hm : s.base + s.log.length ≤ 9223372036854775807) :
    Calls Try.prog 51 #[.pointer (some ⟨p, 0, none⟩), .int .i64 m] w fun e w' => e = .returned (.int .i64 (s.check m)) ∧ ∃ n, w' = w.drewN n := by
  have hh := h
  obtain ⟨ca, cc, la, lc, h⟩ := h
  have c2 := h.c2
  clear h
  by_cases h1 : m < s.base
  · have hd : decide (m < s.base) = true := by simpa using h1
    go_enter Try.func51, Try.ntmps51
    go_wp2
    go_ret
    exact ⟨ret_int (by rw [MemS.check, if_pos (by omega)]), 0, rfl⟩
  · have hd : decide (m < s.base) = false := by simpa using h1
    by_cases h2 : s.base + s.log.length < m
    · have hd2 : decide (s.mark < m) = true := decide_eq_true (by unfold MemS.mark; omega)
      go_enter Try.func51, Try.ntmps51
      go_wp2_with (go_at_call 33; refine (mark_any hh hb hm).mono ?_; rintro e w' ⟨rfl, n, rfl⟩)
      go_ret
      exact ⟨ret_int (by rw [MemS.check, if_neg (by omega), if_pos (by omega)]), _, rfl⟩
    · have hd2 : decide (s.mark < m) = false := decide_eq_false (by unfold MemS.mark; omega)
      go_enter Try.func51, Try.ntmps51
      go_wp2_with (go_at_call 33; refine (mark_any hh hb hm).mono ?_; rintro e w' ⟨rfl, n, rfl⟩)
      go_ret
      exact ⟨ret_int (by rw [MemS.check, if_neg (by omega), if_neg (by omega)]), _, rfl⟩
end
end Go.Proofs.Ytlfomhknfpmhbaa
