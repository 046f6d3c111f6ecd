/- A memory with its ring, by its log: Set and Push, and what RinglogLog counts. -/
import Derived.Test.YtchigfofcdildaaActs
namespace Go.Proofs.Ytchigfofcdildaa
open Go.RowKit

/-- the push of a tick that is taken -/
def pushM (m : MemS) (R : RingS) (tick : Int) : MemS × RingS :=
  if (R.ents.length : Int) + 1 ≤ R.keep then (m, R.add tick m.mark)
  else (m.disc ((R.add tick m.mark).ents.getD 1 (0, 0)).2, { keep := R.keep, ents := (R.add tick m.mark).ents.drop 1 })

theorem add_len (R : RingS) (t mk : Int) : (R.add t mk).ents.length = R.ents.length + 1 := by simp [RingS.add]

theorem Inv.over {m : MemS} {R : RingS} (h : Inv m R) (tick : Int) (h0 : 0 ≤ tick) (h1 : 0 < R.ents.length → tick = R.newest + 1) (hk : ¬ (R.ents.length : Int) + 1 ≤ R.keep) :
    Inv m { (R.add tick m.mark) with keep := (R.add tick m.mark).keep + 1 } := by
  have hl := h.len
  have k1 := h.keep1
  have hR : Inv m { R with keep := R.keep + 1 } := ⟨h.ok, h.base, by simp only; omega, by simp only; omega, h.ticks, h.first, h.marks, h.mono⟩
  exact hR.add tick h0 h1 (by simp only; omega)

theorem Inv.push {m : MemS} {R : RingS} (h : Inv m R) (tick : Int) (h0 : 0 ≤ tick) (h1 : 0 < R.ents.length → tick = R.newest + 1) : Inv (pushM m R tick).1 (pushM m R tick).2 := by
  unfold pushM
  have k1 := h.keep1
  split
  · rename_i hk; exact h.add tick h0 h1 hk
  · rename_i hk
    have hl := add_len R tick m.mark
    have := (h.over tick h0 h1 hk).drop (by simp only [RingS.add]; exact k1) (by omega)
    rw [List.getD_eq_getElem?_getD, List.getElem?_eq_getElem (show 1 < (R.add tick m.mark).ents.length by omega), Option.getD_some]
    exact this

section
variable {w : World} {p r : Nat} {F : List Nat} {m : MemS} {R : RingS}

theorem both_set (h : Both w p r F m R) (i v : Int) (hn : m.log.length < 1000000) :
    Calls Try.prog 13 #[.pointer (some ⟨p, 0, none⟩), .int .i64 i, .int .i64 v] w fun e w' => e = .returned (.tuple #[]) ∧ BothTo w p r F (m.set i v) R w' := by
  obtain ⟨Fm, Fr', hm, hr, hd, rfl⟩ := h
  exact (set_any hm i v (by omega)).mono fun e w' ⟨he, ht⟩ => ⟨he, Both.onMem hr hm.lt hd ht⟩

theorem both_push (h : Both w p r F m R) (hi : Inv m R) (tick : Int) (h0 : 0 ≤ tick) (h1 : 0 < R.ents.length → tick = R.newest + 1) (ht : tick ≤ 1000000) (hn : m.base + m.log.length ≤ 1000000) (hk : R.keep ≤ 13) :
    Calls Try.prog 12 #[.pointer (some ⟨r, 0, none⟩), .int .i64 tick] w fun e w' => e = .returned (.int .i64 0) ∧ BothTo w p r F (pushM m R tick).1 (pushM m R tick).2 w' := by
  obtain ⟨Fm, Fr', hm, hr, hd, rfl⟩ := h
  have hb := hi.base
  have hkl := hi.len
  have c1b : 0 < R.ents.length → (tick != R.newest + 1) = false := fun h0 => by rw [h1 h0]; simp
  have hnt : R.newest ≤ 1000000 := by
    by_cases hz : 0 < R.ents.length
    · have := h1 hz; omega
    · rw [RingS.newest, dif_neg hz]; omega
  unfold pushM
  split
  · rename_i c2
    exact push_fit hm hr hd tick h0 c1b hi.newest_ge (by omega) hb (by omega) (by omega) c2
  · rename_i c2
    have k1 := hi.keep1
    have hl : 0 < R.ents.length := by omega
    have hln := add_len R tick m.mark
    have hmk := (hi.over tick h0 h1 c2).marks 1 (by simp only; omega)
    simp only at hmk
    rw [List.getD_eq_getElem?_getD, List.getElem?_eq_getElem (show 1 < (R.add tick m.mark).ents.length by omega), Option.getD_some]
    have hmm : m.mark = m.base + m.log.length := rfl
    exact push_over hm hr hd tick h0 (c1b hl) hi.newest_ge (by omega) hb (by omega) (by omega) (by omega) (by omega) (tx := ((R.add tick m.mark).ents[1]).1) (x := ((R.add tick m.mark).ents[1]).2)
      (by rw [List.getElem?_eq_getElem (by simpa using hl)]; rfl) hmk.1 (by omega)

theorem both_logged (h : Both w p r F m R) :
    Calls Try.prog 21 #[.pointer (some ⟨p, 0, none⟩)] w fun e w' => e = .returned (.int .i64 m.log.length) ∧ w = w' := by
  obtain ⟨Fm, Fr', hm, hr, hd, rfl⟩ := h
  exact logged_any hm
end

/-- the sum of a list -/
def sumI (l : List Int) : Int := l.foldl (· + ·) 0
theorem sumI_append (a b : List Int) : sumI (a ++ b) = sumI a + sumI b := by
  unfold sumI
  rw [List.foldl_append]
  generalize a.foldl (· + ·) 0 = x
  suffices h : ∀ (b : List Int) (x y : Int), b.foldl (· + ·) (x + y) = x + b.foldl (· + ·) y by simpa using h b x 0
  intro b
  induction b with
  | nil => intro x y; rfl
  | cons c b ih => intro x y; simp only [List.foldl_cons]; rw [Int.add_assoc, ih]
theorem sumI_one (x : Int) : sumI [x] = x := by simp [sumI]

/-- how often was written since each push -/
structure LogInv (m : MemS) (R : RingS) (ws : List Int) : Prop where
  inv : Inv m R
  len : (R.ents.length : Int) = min (ws.length : Int) R.keep
  newest : R.newest = (ws.length : Int) - 1
  sums : ∀ i (hi : i < R.ents.length), m.mark - (R.ents[i]).2 = sumI (ws.drop (ws.length - R.ents.length + i))
  base : R.keep < ws.length → ∀ (h : 0 < R.ents.length), m.base = (R.ents[0]).2
  small : ∀ x ∈ ws, 0 ≤ x

theorem LogInv.logged {m : MemS} {R : RingS} {ws : List Int} (h : LogInv m R ws) (hk : R.keep < ws.length) : (m.log.length : Int) = sumI (ws.drop (ws.length - R.keep.toNat)) := by
  have k1 := h.inv.keep1
  have hl := h.len
  have h0 : 0 < R.ents.length := by omega
  have a := h.base hk h0
  have b := h.sums 0 h0
  rw [Nat.add_zero, show R.ents.length = R.keep.toNat by omega] at b
  rw [← b, ← a]
  unfold MemS.mark
  omega

theorem LogInv.push {m : MemS} {R : RingS} {ws : List Int} (h : LogInv m R ws) : LogInv (pushM m R ws.length).1 (pushM m R ws.length).2 (ws ++ [0]) := by
  have hi := h.inv
  have k1 := hi.keep1
  have hl := h.len
  have h1 : 0 < R.ents.length → (ws.length : Int) = R.newest + 1 := fun _ => by rw [h.newest]; omega
  have hadd := add_len R ws.length m.mark
  have hsum : ∀ i (hi : i < (R.add ws.length m.mark).ents.length), m.mark - ((R.add ws.length m.mark).ents[i]).2 = sumI ((ws ++ [0]).drop (ws.length - R.ents.length + i)) := by
    intro i hi'
    rw [List.drop_append_of_le_length (by omega), sumI_append, sumI_one]
    simp only [RingS.add, List.getElem_append]
    split
    · rename_i hil; rw [h.sums i hil]; omega
    · simp only [List.getElem_singleton]
      rw [List.drop_of_length_le (by omega)]; simp [sumI]
  have hnew : (R.add ws.length m.mark).newest = ws.length := by
    rw [RingS.newest, dif_pos (by omega)]
    simp [RingS.add]
  have hinv := hi.push (ws.length : Int) (by omega) h1
  refine ⟨hinv, ?_, ?_, ?_, ?_, fun x hx => by simp at hx; rcases hx with hx | rfl; exact h.small x hx; omega⟩
  · unfold pushM; split <;> simp [RingS.add] <;> omega
  · unfold pushM
    split
    · rw [hnew]; simp
    · rw [RingS.newest, dif_pos (by simp only [List.length_drop]; omega)]
      simp only [List.length_drop, List.getElem_drop, RingS.add, List.getElem_append]
      rw [dif_neg (by simp; omega)]
      simp
  · unfold pushM
    split
    · intro i hi'
      rw [hsum i hi']
      congr 2
      simp only [List.length_append, List.length_singleton]; omega
    · intro i hi'
      simp only [List.length_drop] at hi'
      simp only [List.getElem_drop]
      have hm : (m.disc ((R.add ws.length m.mark).ents.getD 1 (0, 0)).2).mark = m.mark := by
        rw [List.getD_eq_getElem?_getD, List.getElem?_eq_getElem (show 1 < (R.add ws.length m.mark).ents.length by omega), Option.getD_some]
        have hk : ¬ (R.ents.length : Int) + 1 ≤ R.keep := by assumption
        have hmk := (hi.over ws.length (by omega) h1 hk).marks 1 (by simp only; omega)
        simp only at hmk
        unfold MemS.mark MemS.disc
        unfold MemS.mark at hmk
        simp only [List.length_drop]
        omega
      rw [hm, hsum (1 + i) (by omega)]
      congr 2
      simp only [List.length_append, List.length_singleton, List.length_drop]; omega
  · unfold pushM
    split
    · intro hk hz
      simp only [RingS.add, List.length_append, List.length_singleton] at hk
      omega
    · intro hk hz
      simp only [List.getElem_drop, MemS.disc]
      rw [List.getD_eq_getElem?_getD, List.getElem?_eq_getElem (show 1 < (R.add ws.length m.mark).ents.length by omega), Option.getD_some]

theorem LogInv.set {m : MemS} {R : RingS} {ws : List Int} (h : LogInv m R ws) (k : Nat) (v : Int) (hk : k < m.cells.length) :
    LogInv (m.set k v) R (if ws.length = 0 then ws else ws.set (ws.length - 1) (ws.getD (ws.length - 1) 0 + 1)) := by
  have hi := h.inv
  have hl := h.len
  have hmk : (m.set k v).mark = m.mark + 1 := by rw [m.set_yes k v hk]; simp [MemS.mark]; omega
  split
  · rename_i hz
    exact ⟨hi.set k v, h.len, h.newest, fun i hi' => by omega, fun hk hz => by omega, h.small⟩
  · rename_i hz
    refine ⟨hi.set k v, by simpa using h.len, by simpa using h.newest, fun i hi' => ?_, fun hk' hz' => ?_, fun x hx => ?_⟩
    · rw [hmk, List.length_set]
      have a := h.sums i hi'
      have e : ws = ws.take (ws.length - 1) ++ [ws.getD (ws.length - 1) 0] := by
        rw [List.getD_eq_getElem?_getD, List.getElem?_eq_getElem (by omega), Option.getD_some]
        have := List.take_append_getElem (l := ws) (i := ws.length - 1) (by omega)
        rw [this, show ws.length - 1 + 1 = ws.length by omega, List.take_length]
      have e2 : ws.set (ws.length - 1) (ws.getD (ws.length - 1) 0 + 1) = ws.take (ws.length - 1) ++ [ws.getD (ws.length - 1) 0 + 1] := by
        apply List.ext_getElem
        · simp; omega
        · intro j h1 h2
          simp only [List.length_set] at h1
          simp only [List.getElem_set, List.getElem_append, List.length_take, List.getElem_take]
          by_cases hj : ws.length - 1 = j
          · rw [if_pos hj, dif_neg (by omega)]; simp
          · rw [if_neg hj, dif_pos (by omega)]
      rw [e2, List.drop_append_of_le_length (by simp; omega), sumI_append, sumI_one]
      rw [e, List.drop_append_of_le_length (by simp; omega), sumI_append, sumI_one] at a
      simp only [List.length_append, List.length_take, List.length_singleton] at a
      rw [show min (ws.length - 1) ws.length + 1 = ws.length by omega] at a
      omega
    · rw [List.length_set] at hk'
      rw [m.base_set]; exact h.base hk' hz'
    · rcases List.mem_or_eq_of_mem_set hx with h1 | h1
      · exact h.small x h1
      · subst h1
        rw [List.getD_eq_getElem?_getD, List.getElem?_eq_getElem (by omega), Option.getD_some]
        have := h.small _ (List.getElem_mem (l := ws) (n := ws.length - 1) (by omega))
        omega

end Go.Proofs.Ytchigfofcdildaa
