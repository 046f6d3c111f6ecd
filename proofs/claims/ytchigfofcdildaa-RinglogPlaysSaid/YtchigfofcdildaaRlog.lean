/- The plain laws of a memory with a ring: what Set, Push and Rewind do to the cells and to the states that are kept. No program in sight. -/
import Derived.Test.YtchigfofcdildaaRing3
namespace Go.Proofs.Ytchigfofcdildaa

theorem unwind_append (c : List Int) (a b : List (Int × Int)) : unwind c (a ++ b) = unwind (unwind c b) a := by
  simp [unwind, List.foldl_append]
theorem unwind_one (c : List Int) (e : Int × Int) : unwind c [e] = c.set e.1.toNat e.2 := rfl
theorem unwind_nil (c : List Int) : unwind c [] = c := rfl

/-- the cells as they were at a mark -/
def MemS.snap (m : MemS) (mk : Int) : List Int := unwind m.cells (m.log.drop (mk - m.base).toNat)

theorem MemS.snap_mark (m : MemS) : m.snap m.mark = m.cells := by
  unfold MemS.snap MemS.mark
  rw [List.drop_of_length_le (by omega)]; rfl

theorem MemS.snap_length (m : MemS) (mk : Int) : (m.snap mk).length = m.cells.length := unwind_length _ _

theorem MemS.set_yes (m : MemS) (k : Nat) (v : Int) (hk : k < m.cells.length) : m.set k v = { cells := m.cells.set k v, log := m.log ++ [((k : Int), m.cells[k])], base := m.base } := by
  have hs : m.has k = true := by simp [MemS.has, hk]
  simp [MemS.set, hs, hk]

theorem MemS.set_no (m : MemS) (i v : Int) (h : ¬ (0 ≤ i ∧ i < m.cells.length)) : m.set i v = m := by simp [MemS.set, MemS.has, h]

theorem MemS.snap_set (m : MemS) (i v mk : Int) (h1 : m.base ≤ mk) (h2 : mk ≤ m.mark) : (m.set i v).snap mk = m.snap mk := by
  by_cases h : 0 ≤ i ∧ i < m.cells.length
  · obtain ⟨k, rfl⟩ := Int.eq_ofNat_of_zero_le h.1
    have hk : k < m.cells.length := by omega
    rw [m.set_yes k v hk]
    unfold MemS.mark at h2
    unfold MemS.snap
    simp only
    rw [List.drop_append_of_le_length (by omega), unwind_append, unwind_one]
    congr 1
    simp
  · rw [m.set_no i v h]

theorem MemS.snap_disc (m : MemS) (b mk : Int) (_h1 : m.base ≤ b) (h2 : b ≤ mk) : (m.disc b).snap mk = m.snap mk := by
  unfold MemS.snap MemS.disc
  simp only
  rw [List.drop_drop]
  congr 2
  omega

theorem MemS.snap_undo (m : MemS) (b mk : Int) (h1 : m.base ≤ mk) (h2 : mk ≤ b) (h3 : b ≤ m.mark) : (m.undo b).snap mk = m.snap mk := by
  unfold MemS.snap MemS.undo MemS.mark at *
  simp only
  rw [← unwind_append]
  congr 1
  rw [← List.drop_append_of_le_length (by simp; omega), List.take_append_drop]

theorem MemS.undo_cells (m : MemS) (b : Int) : (m.undo b).cells = m.snap b := rfl

/-- what holds of a memory and its ring between two calls -/
structure Inv (m : MemS) (R : RingS) : Prop where
  ok : m.ok
  base : 0 ≤ m.base
  keep1 : 1 ≤ R.keep
  len : (R.ents.length : Int) ≤ R.keep
  ticks : ∀ k (hk : k < R.ents.length), (R.ents[k]).1 = (R.ents[0]'(by omega)).1 + k
  first : ∀ (h : 0 < R.ents.length), 0 ≤ (R.ents[0]).1
  marks : ∀ k (hk : k < R.ents.length), m.base ≤ (R.ents[k]).2 ∧ (R.ents[k]).2 ≤ m.mark
  mono : ∀ i j (hi : i ≤ j) (hj : j < R.ents.length), (R.ents[i]'(by omega)).2 ≤ (R.ents[j]).2

/-- what is seen of a memory with its ring: how many ticks are kept, the cells, and of each tick the cells before it -/
structure Sp where
  keep : Int
  cells : List Int
  L : List (Int × List Int)

def seen (m : MemS) (R : RingS) : Sp := { keep := R.keep, cells := m.cells, L := R.ents.map fun e => (e.1, m.snap e.2) }

def Sp.set (s : Sp) (i v : Int) : Sp := if 0 ≤ i ∧ i < s.cells.length then { s with cells := s.cells.set i.toNat v } else s
def Sp.oldest (s : Sp) : Int := if h : 0 < s.L.length then (s.L[0]).1 else -1
def Sp.newest (s : Sp) : Int := if h : 0 < s.L.length then (s.L[s.L.length - 1]).1 else -1
def Sp.push (s : Sp) (tick : Int) : Int × Sp :=
  if tick < 0 then (6, s)
  else if 0 < s.L.length ∧ tick ≠ s.newest + 1 then (5, s)
  else (0, { s with L := if s.keep < (s.L.length : Int) + 1 then (s.L ++ [(tick, s.cells)]).drop 1 else s.L ++ [(tick, s.cells)] })
def Sp.rewind (s : Sp) (tick : Int) : Int × Sp :=
  if s.L.length = 0 ∨ tick < s.oldest then (24, s)
  else if s.newest < tick then (6, s)
  else (0, { s with cells := (s.L.getD (tick - s.oldest).toNat (0, [])).2, L := s.L.take ((tick - s.oldest).toNat + 1) })

theorem seen_oldest (m : MemS) (R : RingS) : (seen m R).oldest = R.oldest := by
  unfold Sp.oldest RingS.oldest seen
  simp
theorem seen_newest (m : MemS) (R : RingS) : (seen m R).newest = R.newest := by
  unfold Sp.newest RingS.newest seen
  simp

theorem MemS.mark_set (m : MemS) (i v : Int) : m.mark ≤ (m.set i v).mark := by
  by_cases h : 0 ≤ i ∧ i < m.cells.length
  · obtain ⟨k, rfl⟩ := Int.eq_ofNat_of_zero_le h.1
    rw [m.set_yes k v (by omega)]
    simp [MemS.mark]; omega
  · rw [m.set_no i v h]; exact Int.le_refl _
theorem MemS.base_set (m : MemS) (i v : Int) : (m.set i v).base = m.base := by unfold MemS.set; split <;> rfl
theorem MemS.len_set (m : MemS) (i v : Int) : (m.set i v).cells.length = m.cells.length := by unfold MemS.set; split <;> simp

theorem Inv.set {m : MemS} {R : RingS} (h : Inv m R) (i v : Int) : Inv (m.set i v) R := by
  refine ⟨?_, by rw [m.base_set]; exact h.base, h.keep1, h.len, h.ticks, h.first, fun k hk => ?_, h.mono⟩
  · by_cases hi : 0 ≤ i ∧ i < m.cells.length
    · obtain ⟨k, rfl⟩ := Int.eq_ofNat_of_zero_le hi.1
      rw [m.set_yes k v (by omega)]
      intro e he
      simp only [List.mem_append, List.mem_singleton] at he
      simp only [List.length_set]
      rcases he with he | rfl
      · exact h.ok e he
      · exact hi
    · rw [m.set_no i v hi]; exact h.ok
  · have := h.marks k hk
    have h2 := m.mark_set i v
    rw [m.base_set]; omega

theorem seen_set {m : MemS} {R : RingS} (h : Inv m R) (i v : Int) : seen (m.set i v) R = (seen m R).set i v := by
  have hL : R.ents.map (fun e => (e.1, (m.set i v).snap e.2)) = R.ents.map (fun e => (e.1, m.snap e.2)) := by
    apply List.map_congr_left
    intro e he
    obtain ⟨k, hk, rfl⟩ := List.mem_iff_getElem.1 he
    have := h.marks k hk
    rw [m.snap_set i v _ this.1 this.2]
  unfold seen Sp.set
  rw [hL]
  by_cases hi : 0 ≤ i ∧ i < m.cells.length
  · obtain ⟨k, rfl⟩ := Int.eq_ofNat_of_zero_le hi.1
    rw [m.set_yes k v (by omega), if_pos hi]
    simp
  · rw [m.set_no i v hi, if_neg hi]

theorem Inv.newest {m : MemS} {R : RingS} (h : Inv m R) (h0 : 0 < R.ents.length) : R.newest = (R.ents[0]).1 + (R.ents.length - 1 : Nat) := by
  rw [RingS.newest, dif_pos h0, h.ticks _ (by omega)]

theorem Inv.newest_ge {m : MemS} {R : RingS} (h : Inv m R) : -1 ≤ R.newest := by
  by_cases h0 : 0 < R.ents.length
  · have := h.first h0; rw [h.newest h0]; omega
  · rw [RingS.newest, dif_neg h0]; omega

theorem Inv.add {m : MemS} {R : RingS} (h : Inv m R) (tick : Int) (h0 : 0 ≤ tick) (h1 : 0 < R.ents.length → tick = R.newest + 1) (hk : (R.ents.length : Int) + 1 ≤ R.keep) : Inv m (R.add tick m.mark) := by
  have hl : (R.add tick m.mark).ents.length = R.ents.length + 1 := by simp [RingS.add]
  refine ⟨h.ok, h.base, h.keep1, by rw [hl]; simp [RingS.add]; omega, fun k hk' => ?_, fun _ => ?_, fun k hk' => ?_, fun i j hi hj => ?_⟩
  · rw [hl] at hk'
    simp only [RingS.add, List.getElem_append]
    by_cases hz : R.ents.length = 0
    · have : k = 0 := by omega
      subst this
      simp [hz]
    · rw [dif_pos (show 0 < R.ents.length by omega)]
      split
      · rename_i hkl; exact h.ticks k hkl
      · have : k = R.ents.length := by omega
        subst this
        simp only [Nat.sub_self, List.getElem_singleton]
        have e1 := h1 (by omega)
        have e2 := h.newest (by omega)
        omega
  · simp only [RingS.add, List.getElem_append]
    split
    · rename_i hz; exact h.first hz
    · simpa using h0
  · simp only [RingS.add, List.getElem_append]
    split
    · rename_i hkl; exact h.marks k hkl
    · simp only [List.getElem_singleton]; unfold MemS.mark; omega
  · rw [hl] at hj
    simp only [RingS.add, List.getElem_append]
    split
    · rename_i hil
      split
      · rename_i hjl; exact h.mono i j hi hjl
      · simp only [List.getElem_singleton]; exact (h.marks i hil).2
    · rw [dif_neg (by omega)]; simp

theorem seen_add (m : MemS) (R : RingS) (tick : Int) : (seen m (R.add tick m.mark)).L = (seen m R).L ++ [(tick, m.cells)] := by
  simp [seen, RingS.add, m.snap_mark]

/-- a ring with one entry too many, of which the oldest is removed -/
theorem Inv.drop {m : MemS} {R : RingS} (h : Inv m { R with keep := R.keep + 1 }) (hk1 : 1 ≤ R.keep) (hl : 1 < R.ents.length) :
    Inv (m.disc (R.ents[1]).2) { keep := R.keep, ents := R.ents.drop 1 } := by
  have hm1 := h.marks 1 hl
  simp only at hm1
  have hkeep := h.len
  simp only at hkeep
  refine ⟨fun e he => h.ok e (List.mem_of_mem_drop he), ?_, hk1, ?_, fun k hk => ?_, fun _ => ?_, fun k hk => ?_, fun i j hi hj => ?_⟩
  · have := h.base; simp only [MemS.disc]; omega
  · simp only [List.length_drop]; omega
  · simp only [List.length_drop] at hk
    have a := h.ticks (1 + k) (by simp only; omega)
    have b := h.ticks 1 hl
    simp only at a b
    simp only [List.getElem_drop]
    rw [a, b]; omega
  · have a := h.ticks 1 hl
    have b := h.first (by simp only; omega)
    simp only at a b
    simp only [List.getElem_drop]
    rw [a]; omega
  · simp only [List.length_drop] at hk
    have a := h.marks (1 + k) (by simp only; omega)
    have b := h.mono 1 (1 + k) (by omega) (by simp only; omega)
    simp only at a b
    simp only [List.getElem_drop, MemS.disc, MemS.mark, List.length_drop]
    unfold MemS.mark at a hm1
    omega
  · simp only [List.length_drop] at hj
    have b := h.mono (1 + i) (1 + j) (by omega) (by simp only; omega)
    simp only at b
    simp only [List.getElem_drop]
    exact b

theorem seen_drop {m : MemS} {R : RingS} (h : Inv m { R with keep := R.keep + 1 }) (hl : 1 < R.ents.length) :
    seen (m.disc (R.ents[1]).2) { keep := R.keep, ents := R.ents.drop 1 } = { seen m R with L := (seen m R).L.drop 1 } := by
  unfold seen
  simp only [Sp.mk.injEq, true_and]
  refine ⟨rfl, ?_⟩
  rw [← List.map_drop]
  apply List.map_congr_left
  intro e he
  obtain ⟨k, hk, rfl⟩ := List.mem_iff_getElem.1 he
  simp only [List.length_drop] at hk
  have b := h.mono 1 (1 + k) (by omega) (by simp only; omega)
  have a := h.marks 1 hl
  simp only at a b
  simp only [List.getElem_drop]
  rw [m.snap_disc _ _ a.1 b]

theorem Inv.back {m : MemS} {R : RingS} (h : Inv m R) (k : Nat) (hk : k < R.ents.length) : Inv (m.undo (R.ents[k]).2) (R.back k) := by
  have hm := h.marks k hk
  have hl : (R.back k).ents.length = k + 1 := by simp [RingS.back]; omega
  refine ⟨fun e he => ?_, h.base, h.keep1, by rw [hl]; have := h.len; simp only [RingS.back]; omega, fun i hi => ?_, fun _ => ?_, fun i hi => ?_, fun i j hij hj => ?_⟩
  · simp only [MemS.undo, unwind_length] at he ⊢
    exact h.ok e (List.mem_of_mem_take he)
  · rw [hl] at hi
    simp only [RingS.back, List.getElem_take]
    exact h.ticks i (by omega)
  · simp only [RingS.back, List.getElem_take]; exact h.first (by omega)
  · rw [hl] at hi
    have a := h.marks i (by omega)
    have b := h.mono i k (by omega) hk
    simp only [RingS.back, List.getElem_take, MemS.undo, MemS.mark, List.length_take]
    unfold MemS.mark at hm a
    omega
  · rw [hl] at hj
    simp only [RingS.back, List.getElem_take]
    exact h.mono i j hij (by omega)

theorem seen_back {m : MemS} {R : RingS} (h : Inv m R) (k : Nat) (hk : k < R.ents.length) :
    seen (m.undo (R.ents[k]).2) (R.back k) = { seen m R with cells := m.snap (R.ents[k]).2, L := (seen m R).L.take (k + 1) } := by
  unfold seen
  simp only [Sp.mk.injEq]
  refine ⟨rfl, rfl, ?_⟩
  rw [← List.map_take]
  apply List.map_congr_left
  intro e he
  obtain ⟨i, hi, rfl⟩ := List.mem_iff_getElem.1 he
  simp only [RingS.back, List.length_take] at hi
  have a := h.marks i (by omega)
  have b := h.mono i k (by omega) hk
  have c := h.marks k hk
  simp only [RingS.back, List.getElem_take]
  rw [m.snap_undo _ _ a.1 b c.2]

end Go.Proofs.Ytchigfofcdildaa
