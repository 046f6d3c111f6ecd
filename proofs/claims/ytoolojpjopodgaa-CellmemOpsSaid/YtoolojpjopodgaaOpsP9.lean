/- CellmemOps, plain: the reference that keeps every state against the memory that keeps a log. -/
import Derived.Test.YtoolojpjopodgaaBuilt9
namespace Go.Proofs.Ytoolojpjopodgaa

structure RS where
  states : List (List Int)
  cell : List Int
  base : Int
def RS.mark (r : RS) : Int := r.cell.length
def RS.now (r : RS) : List Int := r.states.getLastD []
def RS.check (r : RS) (m : Int) : Int := if m < r.base then 24 else if r.mark < m then 6 else 0
def RS.undo (r : RS) (m : Int) : RS := ⟨r.states.take (m.toNat + 1), r.cell.take m.toNat, r.base⟩
def RS.disc (r : RS) (m : Int) : RS := ⟨r.states, r.cell, m⟩
def RS.set (r : RS) (i v : Int) : RS := if 0 ≤ i ∧ i < 6 then ⟨r.states ++ [r.now.set i.toNat v], r.cell ++ [i], r.base⟩ else r
def RS.chg (r : RS) (m : Int) : List Int := ((List.range 6).filter fun i : Nat => decide ((i : Int) ∈ r.cell.drop m.toNat)).map fun i : Nat => (i : Int)
def RS.step (r : RS) (o : OpS) : Int × List Int × RS :=
  if o.d = 1 then (r.check o.n, [], if r.check o.n = 0 then r.undo o.n else r) else if o.d = 2 then (r.check o.n, [], if r.check o.n = 0 then r.disc o.n else r) else if o.d = 3 then (r.check o.n, if r.check o.n = 0 then r.chg o.n else [], r) else (0, [], r.set o.n o.v)
structure Sim (s : MemS) (r : RS) : Prop where
  base : r.base = s.base
  b0 : 0 ≤ s.base
  six : s.cells.length = 6
  ok : s.ok
  slen : r.states.length = r.cell.length + 1
  clen : (r.cell.length : Int) = s.mark
  st : ∀ m : Nat, s.base ≤ (m : Int) → (m : Int) ≤ s.mark → r.states[m]? = some (s.undo m).cells
  six' : ∀ x ∈ r.states, x.length = 6
  ce : r.cell.drop s.base.toNat = s.log.map (·.1)
section
variable {s : MemS} {r : RS}
theorem undo_self (s : MemS) : s.undo s.mark = s := by
  unfold MemS.undo MemS.mark
  rw [show (s.base + s.log.length - s.base).toNat = s.log.length by omega, List.drop_length, List.take_length]
  rfl
theorem Sim.start {l : List Int} (h : l.length = 6) : Sim ⟨l, [], 0⟩ ⟨[l], [], 0⟩ :=
  ⟨rfl, by simp, h, by intro e he; simp at he, rfl, by simp [MemS.mark], fun m h1 h2 => by
    have : m = 0 := by simp [MemS.mark] at h2; omega
    subst this; rfl, by intro x hx; simp at hx; rw [hx]; exact h, rfl⟩
theorem Sim.now (h : Sim s r) : r.now = s.cells ∧ r.states[r.states.length - 1]? = some s.cells := by
  have hm := h.clen
  have hl := h.slen
  have hmk : s.base ≤ s.mark := by unfold MemS.mark; omega
  have h1 := h.st r.cell.length (by omega) (by omega)
  rw [hm, undo_self] at h1
  have h2 : r.states[r.states.length - 1]? = some s.cells := by rw [hl, Nat.add_sub_cancel]; exact h1
  refine ⟨?_, h2⟩
  unfold RS.now
  rw [List.getLastD_eq_getLast?, List.getLast?_eq_getElem?, h2]; rfl
theorem Sim.check (h : Sim s r) (m : Int) : r.check m = s.check m := by
  unfold RS.check MemS.check RS.mark
  rw [h.base, h.clen]; rfl
theorem undo_undo (s : MemS) {m m' : Int} (h0 : s.base ≤ m') (h1 : m' ≤ m) (h2 : m ≤ s.mark) : ((s.undo m).undo m').cells = (s.undo m').cells := by
  unfold MemS.undo MemS.mark at *
  simp only
  rw [← unwind_append]
  congr 1
  have e : s.log.drop (m' - s.base).toNat = (s.log.take (m - s.base).toNat ++ s.log.drop (m - s.base).toNat).drop (m' - s.base).toNat := by rw [List.take_append_drop]
  rw [e, List.drop_append_of_le_length (by rw [List.length_take]; omega)]
theorem Sim.undo (h : Sim s r) {m : Int} (h1 : s.base ≤ m) (h2 : m ≤ s.mark) : Sim (s.undo m) (r.undo m) := by
  have hb := h.b0
  have hcl := h.clen
  have hsl := h.slen
  have hmk : (s.undo m).mark = m := by
    unfold MemS.undo MemS.mark at *
    simp only [List.length_take]; omega
  obtain ⟨k, rfl⟩ : ∃ k : Nat, m = (k : Int) := ⟨m.toNat, by omega⟩
  have hg : (s.undo k).Good (s.mark + 0) := by
    have hk : s.Good (s.mark + 0) ∨ True := .inr trivial
    exact MemS.Good.undo ⟨h.ok, h.b0, by unfold MemS.mark; omega, by have := h.six; omega⟩ k
  refine ⟨h.base, h.b0, ?_, hg.ok, ?_, ?_, fun j h3 h4 => ?_, fun x hx => h.six' x (List.mem_of_mem_take hx), ?_⟩
  · unfold MemS.undo
    simp only
    have : ∀ (t : List (Int × Int)) (c : List Int), (unwind c t).length = c.length := fun t c => by
      unfold unwind
      induction t.reverse generalizing c with
      | nil => rfl
      | cons e l ih => simp only [List.foldl_cons]; rw [ih]; simp
    rw [this, h.six]
  · unfold RS.undo
    simp only [List.length_take, Int.toNat_natCast]; omega
  · rw [hmk]
    unfold RS.undo
    simp only [List.length_take, Int.toNat_natCast]; omega
  · rw [hmk] at h4
    unfold RS.undo
    simp only [Int.toNat_natCast]
    rw [List.getElem?_take, if_pos (by omega), h.st j h3 (by omega), undo_undo s h3 h4 h2]
  · unfold RS.undo MemS.undo
    simp only [Int.toNat_natCast]
    rw [List.drop_take, h.ce, ← List.map_take]
    congr 2
    omega
theorem Sim.disc (h : Sim s r) {m : Int} (h1 : s.base ≤ m) (h2 : m ≤ s.mark) : Sim (s.disc m) (r.disc m) := by
  have hb := h.b0
  have hmk : (s.disc m).mark = s.mark := by
    unfold MemS.disc MemS.mark at *
    simp only [List.length_drop]; omega
  refine ⟨rfl, by show 0 ≤ m; omega, h.six, fun e he => h.ok e (List.mem_of_mem_drop he), h.slen, by rw [hmk]; exact h.clen, fun j h3 h4 => ?_, h.six', ?_⟩
  · rw [hmk] at h4
    have h3' : m ≤ (j : Int) := h3
    rw [show (r.disc m).states = r.states from rfl, h.st j (by omega) h4]
    unfold MemS.undo MemS.disc
    simp only
    rw [List.drop_drop]
    congr 3
    omega
  · show r.cell.drop m.toNat = (s.log.drop (m - s.base).toNat).map (·.1)
    rw [List.map_drop, ← h.ce, List.drop_drop]
    congr 1
    omega
theorem Sim.set (h : Sim s r) (i v : Int) : Sim (s.set i v) (r.set i v) := by
  by_cases hi : 0 ≤ i ∧ i < 6
  · obtain ⟨k, rfl⟩ : ∃ k : Nat, i = (k : Int) := ⟨i.toNat, by omega⟩
    have hk : k < s.cells.length := by rw [h.six]; omega
    have hs := MemS.set_in s k v hk
    have hr : r.set k v = ⟨r.states ++ [s.cells.set k v], r.cell ++ [(k : Int)], r.base⟩ := by
      unfold RS.set
      rw [if_pos hi, h.now.1, Int.toNat_natCast]
    have hmk : (s.set k v).mark = s.mark + 1 := by rw [hs]; unfold MemS.mark; simp; omega
    rw [hr]
    have hcl := h.clen
    have hsl := h.slen
    have hb := h.b0
    have hmm : s.base ≤ s.mark := by unfold MemS.mark; omega
    refine ⟨by rw [hs]; exact h.base, by rw [hs]; exact h.b0, by rw [hs]; simp [h.six], ?_, by simp [h.slen], by rw [hmk]; simp; exact hcl, fun j h3 h4 => ?_, fun x hx => ?_, ?_⟩
    · rw [hs]
      intro e he
      simp only [List.mem_append, List.mem_singleton] at he
      simp only [List.length_set]
      rcases he with he | rfl
      · exact h.ok e he
      · simp; omega
    · rw [hmk] at h4
      have h3' : s.base ≤ (j : Int) := by rw [hs] at h3; exact h3
      by_cases hj : (j : Int) ≤ s.mark
      · show (r.states ++ _)[j]? = _
        rw [List.getElem?_append_left (by omega), h.st j h3' hj, hs]
        unfold MemS.undo
        simp only
        have hlog : (j - s.base).toNat ≤ s.log.length := by unfold MemS.mark at hj; omega
        rw [List.drop_append_of_le_length hlog, unwind_append, unwind_one]
        congr 2
        simp
      · have hje : (j : Int) = s.mark + 1 := by omega
        show (r.states ++ _)[j]? = _
        rw [List.getElem?_append_right (by omega), show j - r.states.length = 0 by omega]
        rw [hje, ← hmk, undo_self, hs]; rfl
    · rcases List.mem_append.1 hx with q | q
      · exact h.six' x q
      · simp at q; rw [q]; simp [h.six]
    · rw [hs]
      show (r.cell ++ [(k : Int)]).drop s.base.toNat = _
      rw [List.drop_append_of_le_length (by omega), h.ce, List.map_append]; rfl
  · have e1 : s.set i v = s := MemS.set_out s i v (by rw [h.six]; exact hi)
    have e2 : r.set i v = r := by unfold RS.set; rw [if_neg hi]
    rw [e1, e2]; exact h
theorem Sim.chg (h : Sim s r) {m : Int} (h1 : s.base ≤ m) : r.chg m = s.chg m := by
  have hb := h.b0
  unfold RS.chg MemS.chg
  rw [h.six]
  congr 1
  apply List.filter_congr
  intro i _
  have e : r.cell.drop m.toNat = (s.log.drop (m - s.base).toNat).map (·.1) := by
    rw [List.map_drop, ← h.ce, List.drop_drop]
    congr 1
    omega
  rw [e, Bool.eq_iff_iff, decide_eq_true_eq, List.any_eq_true, List.mem_map]
  constructor
  · rintro ⟨x, h2, h3⟩; exact ⟨x, h2, by simpa using h3⟩
  · rintro ⟨x, h2, h3⟩; exact ⟨x, h2, by simpa using h3⟩
theorem Sim.step (h : Sim s r) (o : OpS) : Sim (s.app o).2.2 (r.step o).2.2 ∧ (s.app o).1 = (r.step o).1 ∧ (s.app o).2.1 = (r.step o).2.1 := by
  have hc := h.check o.n
  unfold MemS.app RS.step MemS.undoC MemS.discC MemS.chgC
  rw [hc]
  by_cases d1 : o.d = 1
  · simp only [if_pos d1]
    refine ⟨?_, trivial, trivial⟩
    by_cases hk : s.check o.n = 0
    · simp only [if_pos hk]
      have := MemS.check_in hk
      exact h.undo this.1 this.2
    · simp only [if_neg hk]; exact h
  · simp only [if_neg d1]
    by_cases d2 : o.d = 2
    · simp only [if_pos d2]
      refine ⟨?_, trivial, trivial⟩
      by_cases hk : s.check o.n = 0
      · simp only [if_pos hk]
        have := MemS.check_in hk
        exact h.disc this.1 this.2
      · simp only [if_neg hk]; exact h
    · simp only [if_neg d2]
      by_cases d3 : o.d = 3
      · simp only [if_pos d3]
        refine ⟨h, trivial, ?_⟩
        by_cases hk : s.check o.n = 0
        · simp only [if_pos hk]
          exact (h.chg (MemS.check_in hk).1).symm
        · simp only [if_neg hk]
      · simp only [if_neg d3]
        exact ⟨h.set _ _, trivial, trivial⟩
end
end Go.Proofs.Ytoolojpjopodgaa
