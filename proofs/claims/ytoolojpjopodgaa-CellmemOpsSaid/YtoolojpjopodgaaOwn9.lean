/- Chapter 9: a memory as a thing beside local slices that it leaves alone: the contracts of its methods by what is seen of it. -/
import Derived.Test.YtoolojpjopodgaaBack
import Derived.Test.YtoolojpjopodgaaOwn
namespace Go.Proofs.Ytoolojpjopodgaa
open Go.RowKit

/-- in good order; n bounds what was ever logged -/
structure MemS.Good (s : MemS) (n : Int) : Prop where
  ok : s.ok
  base : 0 ≤ s.base
  cap : s.base + s.log.length ≤ n
  len : s.cells.length ≤ 1000000

theorem MemS.Good.mono {s : MemS} {n m : Int} (h : s.Good n) (hm : n ≤ m) : s.Good m := ⟨h.ok, h.base, by have := h.cap; omega, h.len⟩

theorem unwind_append (c : List Int) (a b : List (Int × Int)) : unwind c (a ++ b) = unwind (unwind c b) a := by
  simp [unwind, List.foldl_append]
theorem unwind_one (c : List Int) (e : Int × Int) : unwind c [e] = c.set e.1.toNat e.2 := rfl
theorem unwind_nil (c : List Int) : unwind c [] = c := rfl

theorem MemS.set_in (m : MemS) (k : Nat) (v : Int) (hk : k < m.cells.length) : m.set k v = { cells := m.cells.set k v, log := m.log ++ [((k : Int), m.cells[k])], base := m.base } := by
  have hs : m.has k = true := by simp [MemS.has, hk]
  simp [MemS.set, hs, hk]
theorem MemS.set_out (m : MemS) (i v : Int) (h : ¬ (0 ≤ i ∧ i < m.cells.length)) : m.set i v = m := by simp [MemS.set, MemS.has, h]
theorem MemS.base_set (m : MemS) (i v : Int) : (m.set i v).base = m.base := by unfold MemS.set; split <;> rfl
theorem MemS.len_set (m : MemS) (i v : Int) : (m.set i v).cells.length = m.cells.length := by unfold MemS.set; split <;> simp

theorem MemS.Good.set {s : MemS} {n : Int} (h : s.Good n) (i v : Int) : (s.set i v).Good (n + 1) := by
  by_cases h0 : 0 ≤ i ∧ i < s.cells.length
  · obtain ⟨k, rfl⟩ := Int.eq_ofNat_of_zero_le h0.1
    have hk : k < s.cells.length := by omega
    rw [s.set_in k v hk]
    refine ⟨fun e he => ?_, h.base, ?_, by simpa using h.len⟩
    · simp only [List.mem_append, List.mem_singleton] at he
      simp only [List.length_set]
      rcases he with he | rfl
      · exact h.ok e he
      · exact ⟨by simp, by simp; omega⟩
    · have := h.cap; simp; omega
  · rw [s.set_out i v h0]; exact h.mono (by omega)

theorem MemS.Good.undo {s : MemS} {n : Int} (h : s.Good n) (m : Int) : (s.undo m).Good n := by
  refine ⟨fun e he => ?_, h.base, ?_, ?_⟩
  · show 0 ≤ e.1 ∧ e.1 < (unwind s.cells (s.log.drop (m - s.base).toNat)).length
    rw [unwind_length]
    exact h.ok e (List.mem_of_mem_take he)
  · have := h.cap; have := List.length_take_le' (m - s.base).toNat s.log; show s.base + ((s.log.take _).length : Int) ≤ n; omega
  · show (unwind s.cells _).length ≤ _
    rw [unwind_length]; exact h.len

theorem MemS.Good.disc {s : MemS} {n : Int} (h : s.Good n) (m : Int) (h1 : s.base ≤ m) (h2 : m ≤ s.base + s.log.length) : (s.disc m).Good n := by
  refine ⟨fun e he => h.ok e (List.mem_of_mem_drop he), ?_, ?_, h.len⟩
  · have := h.base; show 0 ≤ m; omega
  · have := h.cap; show m + ((s.log.drop _).length : Int) ≤ n; rw [List.length_drop]; omega

/-- what a sequence of sets leaves behind -/
structure Grew (s s' : MemS) : Prop where
  base : s'.base = s.base
  len : s'.cells.length = s.cells.length
  log : ∃ t, s'.log = s.log ++ t ∧ unwind s'.cells t = s.cells

theorem Grew.refl (s : MemS) : Grew s s := ⟨rfl, rfl, [], by simp, rfl⟩
theorem Grew.set {s s' : MemS} (h : Grew s s') (i v : Int) : Grew s (s'.set i v) := by
  obtain ⟨h1, h2, t, h3, h4⟩ := h
  by_cases h0 : 0 ≤ i ∧ i < s'.cells.length
  · obtain ⟨k, rfl⟩ := Int.eq_ofNat_of_zero_le h0.1
    have hk : k < s'.cells.length := by omega
    rw [s'.set_in k v hk]
    refine ⟨h1, by simpa using h2, t ++ [((k : Int), s'.cells[k])], by simp [h3], ?_⟩
    rw [unwind_append, unwind_one]
    simp only [Int.toNat_natCast, List.set_set, List.set_getElem_self]
    exact h4
  · rw [s'.set_out i v h0]; exact ⟨h1, h2, t, h3, h4⟩
theorem Grew.undo {s s' : MemS} (h : Grew s s') : s'.undo s.mark = s := by
  obtain ⟨h1, h2, t, h3, h4⟩ := h
  obtain ⟨c, l, b⟩ := s
  obtain ⟨c', l', b'⟩ := s'
  simp only at h1 h2 h3 h4
  subst h1; subst h3
  have e : (b' + (l.length : Int) - b').toNat = l.length := by omega
  simp only [MemS.undo, MemS.mark, e, MemS.mk.injEq, List.drop_left, List.take_left, and_true]
  exact h4
theorem Grew.in {s s' : MemS} (h : Grew s s') : s'.base ≤ s.mark ∧ s.mark ≤ s'.base + s'.log.length := by
  obtain ⟨h1, h2, t, h3, h4⟩ := h
  rw [h1, h3, List.length_append]
  unfold MemS.mark
  omega

def memX (p : Nat) (s : MemS) (n : Int) : World → List Nat → Prop := fun w F => IsMem w p F s ∧ s.Good n
theorem memX_frm (p : Nat) (s : MemS) (n : Int) : Frm (memX p s n) := ⟨fun h => h.1.lt, fun h hf hS => ⟨h.1.fr hf hS, h.2⟩⟩

section
variable {W w : World} {G : List Nat} {p : Nat} {s s' : MemS} {n : Int}

theorem OwnG.mem (h : OwnG (memX p s n) W G w) : ∃ F, IsMem w p F s := by obtain ⟨F, a, _⟩ := h; exact ⟨F, a.1⟩
theorem OwnG.good (h : OwnG (memX p s n) W G w) : s.Good n := by obtain ⟨F, a, _⟩ := h; exact a.2

theorem m_set (h : OwnG (memX p s n) W G w) (i v : Int) (hn : n ≤ 1000000) (he : s.set i v = s') :
    Calls Try.prog 15 #[.pointer (some ⟨p, 0, none⟩), .int .i64 i, .int .i64 v] w fun e w' => e = .returned (.tuple #[]) ∧ OwnG (memX p s' (n + 1)) W G w' ∧ Kept G w w' := by
  subst he
  refine h.call fun F hF => ?_
  refine (set_any hF.1 i v (by have := hF.2.cap; have := hF.2.base; omega)).mono ?_
  rintro e w' ⟨h1, F', h2, h3, h4⟩
  exact ⟨h1, F', ⟨h2, hF.2.set i v⟩, h3, h4⟩

theorem m_get (h : OwnG (memX p s n) W G w) (i : Int) {x : Int} (hx : s.get i = x) :
    Calls Try.prog 14 #[.pointer (some ⟨p, 0, none⟩), .int .i64 i] w fun e w' => e = .returned (.int .i64 x) ∧ w = w' := by
  subst hx
  obtain ⟨F, hF⟩ := h.mem
  exact get_any hF i

theorem m_len (h : OwnG (memX p s n) W G w) {x : Int} (hx : (s.cells.length : Int) = x) :
    Calls Try.prog 16 #[.pointer (some ⟨p, 0, none⟩)] w fun e w' => e = .returned (.int .i64 x) ∧ w = w' := by
  subst hx
  obtain ⟨F, hF⟩ := h.mem
  exact len_any hF

theorem m_logged (h : OwnG (memX p s n) W G w) {x : Int} (hx : (s.log.length : Int) = x) :
    Calls Try.prog 26 #[.pointer (some ⟨p, 0, none⟩)] w fun e w' => e = .returned (.int .i64 x) ∧ w = w' := by
  subst hx
  obtain ⟨F, hF⟩ := h.mem
  exact logged_any hF

theorem m_mark (h : OwnG (memX p s n) W G w) (hn : n ≤ 1000000) {x : Int} (hx : s.mark = x) :
    Calls Try.prog 17 #[.pointer (some ⟨p, 0, none⟩)] w fun e w' => e = .returned (.int .i64 x) ∧ ∃ k, w' = w.drewN k := by
  subst hx
  obtain ⟨F, hF⟩ := h.mem
  have hg := h.good
  exact mark_any hF hg.base (by have := hg.cap; omega)

theorem m_cells (h : OwnG (memX p s n) W G w) {l : List Int} (hl : s.cells = l) :
    Calls Try.prog 19 #[.pointer (some ⟨p, 0, none⟩)] w fun e w' => ∃ b, e = .returned (.slice (some ⟨b, 0, none⟩) l.length l.length) ∧ w'.heap[b]? = some (row l) ∧ OwnG (memX p s n) W (b :: G) w' ∧ Kept G w w' ∧ w.heap.size ≤ b := by
  subst hl
  obtain ⟨F, hF⟩ := h.mem
  have hg := h.good
  refine (cells_any hF (by have := hg.len; omega)).mono ?_
  rintro e w' ⟨h1, h2, h3⟩
  refine ⟨_, h1, h2, h.own (memX_frm p s n) h3 (by simp) (fun k hk => ?_), (h.fr (memX_frm p s n) h3).2, Nat.le_refl _⟩
  have hz := lt_of_blk h2
  rcases List.mem_cons.1 hk with rfl | hk
  · exact ⟨.inr (Nat.le_refl _), hz⟩
  · exact ⟨.inl hk, Nat.lt_of_lt_of_le (h.gnew k hk).2 h3.size⟩

theorem m_undo (h : OwnG (memX p s n) W G w) (m : Int) (hn : n ≤ 1000000) (h1 : s.base ≤ m) (h2 : m ≤ s.base + s.log.length) (he : s.undo m = s') :
    Calls Try.prog 25 #[.pointer (some ⟨p, 0, none⟩), .int .i64 m] w fun e w' => e = .returned (.int .i64 0) ∧ OwnG (memX p s' n) W G w' ∧ Kept G w w' := by
  subst he
  refine h.call fun F hF => ?_
  have hg := hF.2
  refine (undo_mark hF.1 m hg.ok hg.base (by have := hg.cap; omega) h1 h2).mono ?_
  rintro e w' ⟨a, F', b, c, d⟩
  exact ⟨a, F', ⟨b, hg.undo m⟩, c, d⟩
/-- Undo, Discard to any mark at all -/
def MemS.undoC (s : MemS) (m : Int) : Int × MemS := (s.check m, if s.check m = 0 then s.undo m else s)
def MemS.discC (s : MemS) (m : Int) : Int × MemS := (s.check m, if s.check m = 0 then s.disc m else s)

theorem MemS.check_in {s : MemS} {m : Int} (h : s.check m = 0) : s.base ≤ m ∧ m ≤ s.base + s.log.length := by
  unfold MemS.check at h
  split at h
  · omega
  · split at h
    · omega
    · omega
theorem MemS.check_ok {s : MemS} {m : Int} (h1 : s.base ≤ m) (h2 : m ≤ s.base + s.log.length) : s.check m = 0 := by
  unfold MemS.check
  rw [if_neg (by omega), if_neg (by omega)]

theorem m_undoC (h : OwnG (memX p s n) W G w) (m : Int) (hn : n ≤ 1000000) {code : Int} (he : s.undoC m = (code, s')) :
    Calls Try.prog 25 #[.pointer (some ⟨p, 0, none⟩), .int .i64 m] w fun e w' => e = .returned (.int .i64 code) ∧ OwnG (memX p s' n) W G w' ∧ Kept G w w' := by
  unfold MemS.undoC at he
  by_cases hc : s.check m = 0
  · rw [hc, if_pos rfl] at he
    obtain ⟨h1, h2⟩ := MemS.check_in hc
    have e1 : code = 0 := by rw [Prod.mk.injEq] at he; exact he.1.symm
    subst e1
    exact m_undo h m hn h1 h2 (by rw [Prod.mk.injEq] at he; exact he.2)
  · rw [if_neg hc, Prod.mk.injEq] at he
    obtain ⟨rfl, rfl⟩ := he
    refine h.call fun F hF => ?_
    have hg := hF.2
    refine (undo_no hF.1 m hg.base (by have := hg.cap; omega) (by simpa using hc)).mono ?_
    rintro e w' ⟨a, F', b, c, d⟩
    exact ⟨a, F', ⟨b, hg⟩, c, d⟩

theorem m_disc (h : OwnG (memX p s n) W G w) (m : Int) (hn : n ≤ 1000000) (h1 : s.base ≤ m) (h2 : m ≤ s.base + s.log.length) (he : s.disc m = s') :
    Calls Try.prog 37 #[.pointer (some ⟨p, 0, none⟩), .int .i64 m] w fun e w' => e = .returned (.int .i64 0) ∧ OwnG (memX p s' n) W G w' ∧ Kept G w w' := by
  subst he
  refine h.call fun F hF => ?_
  have hg := hF.2
  refine (disc_mark hF.1 m hg.base (by have := hg.cap; omega) h1 h2).mono ?_
  rintro e w' ⟨a, F', b, c, d⟩
  exact ⟨a, F', ⟨b, hg.disc m h1 h2⟩, c, d⟩

theorem m_discC (h : OwnG (memX p s n) W G w) (m : Int) (hn : n ≤ 1000000) {code : Int} (he : s.discC m = (code, s')) :
    Calls Try.prog 37 #[.pointer (some ⟨p, 0, none⟩), .int .i64 m] w fun e w' => e = .returned (.int .i64 code) ∧ OwnG (memX p s' n) W G w' ∧ Kept G w w' := by
  unfold MemS.discC at he
  by_cases hc : s.check m = 0
  · rw [hc, if_pos rfl] at he
    obtain ⟨h1, h2⟩ := MemS.check_in hc
    have e1 : code = 0 := by rw [Prod.mk.injEq] at he; exact he.1.symm
    subst e1
    exact m_disc h m hn h1 h2 (by rw [Prod.mk.injEq] at he; exact he.2)
  · rw [if_neg hc, Prod.mk.injEq] at he
    obtain ⟨rfl, rfl⟩ := he
    refine h.call fun F hF => ?_
    have hg := hF.2
    refine (disc_no hF.1 m hg.base (by have := hg.cap; omega) (by simpa using hc)).mono ?_
    rintro e w' ⟨a, k, rfl⟩
    exact ⟨a, F, ⟨hF.1.drewN k, hg⟩, (Fr.refl _ _).drewN k, Ext.refl _ _⟩
end
end Go.Proofs.Ytoolojpjopodgaa
