/- A memory with its ring, as one thing: the contracts of its methods by what is seen of it. -/
import Derived.Test.YtchigfofcdildaaRlog
namespace Go.Proofs.Ytchigfofcdildaa
open Go.RowKit

/-- a memory at p with a ring at r, made of the blocks F, of which S is seen; n bounds what was logged, T the newest tick -/
def IsObj (w : World) (p r : Nat) (F : List Nat) (S : Sp) (n T : Int) : Prop :=
  ∃ m R, Both w p r F m R ∧ Inv m R ∧ S = seen m R ∧ m.base + m.log.length ≤ n ∧ R.newest ≤ T ∧ R.keep ≤ 13

def ObjTo (w : World) (p r : Nat) (F : List Nat) (S : Sp) (n T : Int) (w' : World) : Prop := ∃ F', IsObj w' p r F' S n T ∧ Fr F w w' ∧ Ext F w F'

section
variable {w : World} {p r : Nat} {F : List Nat} {S : Sp} {n T : Int}

theorem IsObj.lt (h : IsObj w p r F S n T) : ∀ k ∈ F, k < w.heap.size := by obtain ⟨_, _, h, _⟩ := h; exact h.lt
theorem IsObj.fr {w' : World} {X : List Nat} (h : IsObj w p r F S n T) (hf : Fr X w w') (hX : ∀ k ∈ F, k ∉ X) : IsObj w' p r F S n T := by
  obtain ⟨m, R, h, h2⟩ := h; exact ⟨m, R, h.fr hf hX, h2⟩
theorem IsObj.drewN (h : IsObj w p r F S n T) (k : Nat) : IsObj (w.drewN k) p r F S n T := h.fr ((Fr.refl [] w).drewN k) (by simp)
theorem IsObj.to (h : IsObj w p r F S n T) : ObjTo w p r F S n T w := ⟨F, h, Fr.refl _ _, Ext.refl _ _⟩
theorem IsObj.toFr {w' : World} (h : IsObj w p r F S n T) (hf : Fr [] w w') : ObjTo w p r F S n T w' := ⟨F, h.fr hf (by simp), hf.mono (by simp), Ext.refl _ _⟩
theorem IsObj.mono {n' T' : Int} (h : IsObj w p r F S n T) (hn : n ≤ n') (hT : T ≤ T') : IsObj w p r F S n' T' := by
  obtain ⟨m, R, h, h2, h3, h4, h5, h6⟩ := h; exact ⟨m, R, h, h2, h3, by omega, by omega, h6⟩
theorem ObjTo.mono {n' T' : Int} {w' : World} (h : ObjTo w p r F S n T w') (hn : n ≤ n') (hT : T ≤ T') : ObjTo w p r F S n' T' w' := by
  obtain ⟨F', h, h2⟩ := h; exact ⟨F', h.mono hn hT, h2⟩

theorem ObjTo.trans {F' : List Nat} {w1 w2 : World} {S2 : Sp} {n2 T2 : Int} (h1 : Fr F w w1) (h2 : Ext F w F') (h : ObjTo w1 p r F' S2 n2 T2 w2) : ObjTo w p r F S2 n2 T2 w2 := by
  obtain ⟨F2, a, b, c⟩ := h
  exact ⟨F2, a, h1.trans b h2, h2.trans c h1.size⟩

theorem obj_oldest (h : IsObj w p r F S n T) :
    Calls Try.prog 14 #[.pointer (some ⟨r, 0, none⟩)] w fun e w' => e = .returned (.int .i64 S.oldest) ∧ w = w' := by
  obtain ⟨m, R, ⟨Fm, Fr', _, hr, _⟩, hi, rfl, _⟩ := h
  rw [seen_oldest]; exact oldest_any hr

theorem obj_newest (h : IsObj w p r F S n T) :
    Calls Try.prog 15 #[.pointer (some ⟨r, 0, none⟩)] w fun e w' => e = .returned (.int .i64 S.newest) ∧ ∃ k, w' = w.drewN k := by
  obtain ⟨m, R, ⟨Fm, Fr', _, hr, _⟩, hi, rfl, _⟩ := h
  rw [seen_newest]; exact newest_any hr

def Sp.get (s : Sp) (i : Int) : Int := if 0 ≤ i ∧ i < s.cells.length then s.cells.getD i.toNat 0 else 0

theorem obj_get (h : IsObj w p r F S n T) (i : Int) :
    Calls Try.prog 17 #[.pointer (some ⟨p, 0, none⟩), .int .i64 i] w fun e w' => e = .returned (.int .i64 (S.get i)) ∧ w = w' := by
  obtain ⟨m, R, ⟨Fm, Fr', hm, _, _⟩, hi, rfl, _⟩ := h
  refine (get_any hm i).mono fun e w' ⟨h1, h2⟩ => ⟨?_, h2⟩
  rw [h1]; exact ret_int (by simp [Sp.get, MemS.get, MemS.has, seen])

theorem obj_cells (h : IsObj w p r F S n T) (hl : S.cells.length ≤ 1099511627776) :
    Calls Try.prog 22 #[.pointer (some ⟨p, 0, none⟩)] w fun e w' => e = .returned (.slice (some ⟨w.heap.size, 0, none⟩) S.cells.length S.cells.length) ∧ RowNew w w.heap.size S.cells w' := by
  obtain ⟨m, R, ⟨Fm, Fr', hm, _, _⟩, hi, rfl, _⟩ := h
  exact cells_any hm hl

theorem MemS.size_set (m : MemS) (i v : Int) : (m.set i v).base + (m.set i v).log.length ≤ m.base + m.log.length + 1 := by
  by_cases h : 0 ≤ i ∧ i < m.cells.length
  · obtain ⟨k, rfl⟩ := Int.eq_ofNat_of_zero_le h.1
    rw [m.set_yes k v (by omega)]
    simp; omega
  · rw [m.set_no i v h]; omega

theorem obj_set (h : IsObj w p r F S n T) (i v : Int) (hn : n ≤ 1000000) :
    Calls Try.prog 13 #[.pointer (some ⟨p, 0, none⟩), .int .i64 i, .int .i64 v] w fun e w' => e = .returned (.tuple #[]) ∧ ObjTo w p r F (S.set i v) (n + 1) T w' := by
  obtain ⟨m, R, ⟨Fm, Fr', hm, hr, hd, rfl⟩, hi, rfl, h1, h2, hk2⟩ := h
  have hb := hi.base
  refine (set_any hm i v (by omega)).mono fun e w' ⟨he, ht⟩ => ⟨he, ?_⟩
  obtain ⟨F', a, b, c⟩ := Both.onMem hr hm.lt hd ht
  have := m.size_set i v
  exact ⟨F', ⟨_, R, a, hi.set i v, (seen_set hi i v).symm, by omega, h2, hk2⟩, b, c⟩

theorem Inv.find {m : MemS} {R : RingS} (h : Inv m R) (tick : Int) (h0 : 0 < R.ents.length) (h1 : ¬ tick < R.oldest) (h2 : ¬ R.newest < tick) :
    ∃ k, k = (tick - R.oldest).toNat ∧ ∃ hk : k < R.ents.length, (R.ents[k]).1 = tick ∧ ∀ j (hj : j < k), (R.ents[j]'(by omega)).1 ≠ tick := by
  have ho : R.oldest = (R.ents[0]).1 := by rw [RingS.oldest, dif_pos h0]
  have hn := h.newest h0
  refine ⟨_, rfl, by omega, ?_, fun j hj => ?_⟩
  · rw [h.ticks _ (by omega)]; omega
  · rw [h.ticks _ (by omega)]; omega

theorem obj_rewind (h : IsObj w p r F S n T) (tick : Int) (hn : n ≤ 1000000) :
    Calls Try.prog 16 #[.pointer (some ⟨r, 0, none⟩), .int .i64 tick] w fun e w' => e = .returned (.int .i64 (S.rewind tick).1) ∧ ObjTo w p r F (S.rewind tick).2 n T w' := by
  have h' := h
  obtain ⟨m, R, ⟨Fm, Fr', hm, hr, hd, rfl⟩, hi, rfl, h1, h2, hk2⟩ := h
  have hb := hi.base
  have hlen : (seen m R).L.length = R.ents.length := by simp [seen]
  by_cases c1 : R.ents.length = 0 ∨ tick < R.oldest
  · have e : (seen m R).rewind tick = (24, seen m R) := by unfold Sp.rewind; rw [if_pos (by rw [hlen, seen_oldest]; exact c1)]
    rw [e]
    exact (rewind_stale hr tick c1).mono fun e w' ⟨he, hf⟩ => ⟨he, h'.toFr hf⟩
  · have h0 : 0 < R.ents.length := by omega
    have c3 : ¬ tick < R.oldest := by omega
    by_cases c2 : R.newest < tick
    · have e : (seen m R).rewind tick = (6, seen m R) := by unfold Sp.rewind; rw [if_neg (by rw [hlen, seen_oldest]; exact c1), if_pos (by rw [seen_newest]; exact c2)]
      rw [e]
      exact (rewind_range hr tick h0 c3 c2).mono fun e w' ⟨he, hf⟩ => ⟨he, h'.toFr hf⟩
    · obtain ⟨k, hk, hkl, hkt, hfirst⟩ := hi.find tick h0 c3 c2
      have hmk := hi.marks k hkl
      have e : (seen m R).rewind tick = (0, { seen m R with cells := m.snap (R.ents[k]).2, L := (seen m R).L.take (k + 1) }) := by
        unfold Sp.rewind
        rw [if_neg (by rw [hlen, seen_oldest]; exact c1), if_neg (by rw [seen_newest]; exact c2), seen_oldest, ← hk]
        simp [seen, hkl]
      rw [e]
      refine (rewind_ok hm hr hd tick c3 c2 k hkl hkt hfirst hi.ok hb (by omega) hmk.1 (by unfold MemS.mark at hmk; omega)).mono fun e w' ⟨he, F', a, b, c⟩ => ⟨he, F', ⟨_, _, a, hi.back k hkl, (seen_back hi k hkl).symm, ?_, ?_, hk2⟩, b, c⟩
      · simp only [MemS.undo, List.length_take]; unfold MemS.mark at hmk; omega
      · have hb2 := hi.back k hkl
        have hl2 : (R.back k).ents.length = k + 1 := by simp [RingS.back]; omega
        have e1 := hb2.newest (by omega)
        have hn := hi.newest h0
        simp only [RingS.back, List.getElem_take] at e1 hl2 ⊢
        omega

theorem obj_push (h : IsObj w p r F S n T) (tick : Int) (hn : n ≤ 1000000) (hT : T ≤ 1000000000) (ht : S.L.length = 0 → tick ≤ T + 1) :
    Calls Try.prog 12 #[.pointer (some ⟨r, 0, none⟩), .int .i64 tick] w fun e w' => e = .returned (.int .i64 (S.push tick).1) ∧ ObjTo w p r F (S.push tick).2 n (T + 1) w' := by
  have h' := h
  obtain ⟨m, R, ⟨Fm, Fr', hm, hr, hd, rfl⟩, hi, rfl, h1, h2, hk2⟩ := h
  have hb := hi.base
  have hlen : (seen m R).L.length = R.ents.length := by simp [seen]
  rw [hlen] at ht
  have hkl := hi.len
  by_cases c0 : tick < 0
  · have e : (seen m R).push tick = (6, seen m R) := by unfold Sp.push; rw [if_pos c0]
    rw [e]
    refine (push_neg w r tick c0).mono fun e w' ⟨he, hw⟩ => ⟨he, ?_⟩
    subst hw; exact h'.to.mono (Int.le_refl _) (by omega)
  · by_cases c1 : 0 < R.ents.length ∧ tick ≠ R.newest + 1
    · have e : (seen m R).push tick = (5, seen m R) := by unfold Sp.push; rw [if_neg c0, if_pos (by rw [hlen, seen_newest]; exact c1)]
      rw [e]
      refine (push_order hr tick (by omega) c1.1 (bne_iff_ne.2 c1.2) hi.newest_ge (by omega)).mono fun e w' ⟨he, k, hw⟩ => ⟨he, ?_⟩
      subst hw; exact (h'.toFr ((Fr.refl _ _).drewN k)).mono (Int.le_refl _) (by omega)
    · have c1' : 0 < R.ents.length → tick = R.newest + 1 := fun h0 => by
        by_cases ht : tick = R.newest + 1
        · exact ht
        · exact absurd ⟨h0, ht⟩ c1
      have c1b : 0 < R.ents.length → (tick != R.newest + 1) = false := fun h0 => by rw [c1' h0]; simp
      have hnew : (R.add tick m.mark).newest = tick := by
        rw [RingS.newest, dif_pos (by simp [RingS.add])]
        simp [RingS.add]
      have htT : tick ≤ T + 1 := by
        by_cases h0 : 0 < R.ents.length
        · have := c1' h0; omega
        · exact ht (by omega)
      by_cases c2 : (R.ents.length : Int) + 1 ≤ R.keep
      · have e : (seen m R).push tick = (0, seen m (R.add tick m.mark)) := by
          unfold Sp.push
          rw [if_neg c0, if_neg (by rw [hlen, seen_newest]; exact c1), if_neg (by rw [hlen]; simp only [seen]; omega)]
          simp [seen, RingS.add, m.snap_mark]
        rw [e]
        exact (push_fit hm hr hd tick (by omega) c1b hi.newest_ge (Int.le_trans h2 (by omega)) hb (by omega) (by omega) c2).mono fun e w' ⟨he, F', a, b, c⟩ =>
          ⟨he, F', ⟨_, _, a, hi.add tick (by omega) c1' c2, rfl, h1, by rw [hnew]; exact htT, hk2⟩, b, c⟩
      · have hk1 := hi.keep1
        have hl : 0 < R.ents.length := by omega
        have hR : Inv m { R with keep := R.keep + 1 } := ⟨hi.ok, hi.base, by simp only; omega, by simp only; omega, hi.ticks, hi.first, hi.marks, hi.mono⟩
        have hA : Inv m { (R.add tick m.mark) with keep := (R.add tick m.mark).keep + 1 } := hR.add tick (by omega) c1' (by simp only; omega)
        have hln : (R.add tick m.mark).ents.length = R.ents.length + 1 := by simp [RingS.add]
        have hmk := hA.marks 1 (by simp only; omega)
        simp only at hmk
        have e : (seen m R).push tick = ((0 : Int), seen (m.disc ((R.add tick m.mark).ents[1]).2) { keep := R.keep, ents := (R.add tick m.mark).ents.drop 1 }) := by
          unfold Sp.push
          rw [if_neg c0, if_neg (by rw [hlen, seen_newest]; exact c1), if_pos (by rw [hlen]; simp only [seen]; omega)]
          have := seen_drop hA (by omega)
          simp only [RingS.add] at this ⊢
          rw [this]
          simp [seen, m.snap_mark]
        rw [e]
        have hnewd : ({ keep := R.keep, ents := (R.add tick m.mark).ents.drop 1 } : RingS).newest = tick := by
          rw [RingS.newest, dif_pos (by simp only [List.length_drop]; omega)]
          simp only [List.length_drop, List.getElem_drop, RingS.add, List.getElem_append]
          rw [dif_neg (by simp; omega)]
          simp
        refine (push_over hm hr hd tick (by omega) (c1b hl) hi.newest_ge (by omega) hb (by omega) (by omega) (by omega) (by omega) (tx := ((R.add tick m.mark).ents[1]).1) (x := ((R.add tick m.mark).ents[1]).2)
          (by rw [List.getElem?_eq_getElem (by simpa using hl)]; rfl) hmk.1 (by unfold MemS.mark at hmk; exact hmk.2)).mono fun e w' ⟨he, F', a, b, c⟩ =>
          ⟨he, F', ⟨_, _, a, hA.drop (by simp only [RingS.add]; exact hk1) (by omega), rfl, ?_, (show RingS.newest { keep := R.keep, ents := (R.add tick m.mark).ents.drop 1 } ≤ T + 1 by rw [hnewd]; exact htT), hk2⟩, b, c⟩
        have hmm : m.mark = m.base + m.log.length := rfl
        simp only [MemS.disc, List.length_drop]; omega

/-- a new memory and a new ring over it -/
theorem obj_new {w1 w2 : World} {l : List Int} {keep : Int} (hk1 : 1 ≤ keep) (hk2 : keep ≤ 13) (hm : MemNew w p { cells := l, log := [], base := 0 } w1)
    (hr : IsRing w2 w1.heap.size p [w1.heap.size] { keep := keep, ents := [] }) (hf : Fr [] w1 w2) :
    ∃ F, IsObj w2 p w1.heap.size F { keep := keep, cells := l, L := [] } 0 (-1) ∧ Fr [] w w2 ∧ Ext [] w F := by
  obtain ⟨F, h1, h2, h3⟩ := hm
  have hs := h2.size
  refine ⟨F ++ [w1.heap.size], ⟨_, _, ⟨F, _, h1.fr hf (by simp), hr, fun k hk hk2 => ?_, rfl⟩, ?_, rfl, by simp, by simp [RingS.newest], hk2⟩, h2.trans hf (by simp [Ext]), fun k hk => ?_⟩
  · simp at hk2; have := h1.lt k hk; omega
  · exact ⟨by intro e he; simp at he, by simp, hk1, by simp; omega, by intro k hk; simp at hk, by intro h; simp at h, by intro k hk; simp at hk, by intro i j hi hj; simp at hj⟩
  · rcases List.mem_append.1 hk with hk | hk
    · exact h3 k hk
    · simp at hk; right; omega

/-- the object has been made since W, in the world w -/
def Own (W : World) (p r : Nat) (S : Sp) (n T : Int) (w : World) : Prop := ∃ F, IsObj w p r F S n T ∧ Fr [] W w ∧ Ext [] W F

variable {W : World}

theorem Own.step {S2 : Sp} {n2 T2 : Int} {w' : World} {F : List Nat} (h1 : Fr [] W w) (h2 : Ext [] W F) (h : ObjTo w p r F S2 n2 T2 w') : Own W p r S2 n2 T2 w' := by
  obtain ⟨F', a, b, c⟩ := h
  exact ⟨F', a, h1.trans b h2, h2.trans c h1.size⟩
theorem Own.fr {w' : World} (h : Own W p r S n T w) (hf : Fr [] w w') : Own W p r S n T w' := by
  obtain ⟨F, a, b, c⟩ := h
  exact ⟨F, a.fr hf (by simp), b.trans hf (by simp [Ext]), c⟩
theorem Own.mono {n' T' : Int} (h : Own W p r S n T w) (hn : n ≤ n') (hT : T ≤ T') : Own W p r S n' T' w := by
  obtain ⟨F, a, b, c⟩ := h; exact ⟨F, a.mono hn hT, b, c⟩
theorem Own.frame (h : Own W p r S n T w) : Fr [] W w := by obtain ⟨F, a, b, c⟩ := h; exact b

theorem own_oldest (h : Own W p r S n T w) :
    Calls Try.prog 14 #[.pointer (some ⟨r, 0, none⟩)] w fun e w' => e = .returned (.int .i64 S.oldest) ∧ Own W p r S n T w' := by
  have h' := h; obtain ⟨F, a, b, c⟩ := h
  refine (obj_oldest a).mono fun e w' ⟨h1, h2⟩ => ⟨h1, ?_⟩
  subst h2; exact h'
theorem own_newest (h : Own W p r S n T w) :
    Calls Try.prog 15 #[.pointer (some ⟨r, 0, none⟩)] w fun e w' => e = .returned (.int .i64 S.newest) ∧ Own W p r S n T w' := by
  have h' := h; obtain ⟨F, a, b, c⟩ := h
  refine (obj_newest a).mono fun e w' ⟨h1, k, h2⟩ => ⟨h1, ?_⟩
  subst h2; exact h'.fr ((Fr.refl _ _).drewN k)
theorem own_get (h : Own W p r S n T w) (i : Int) :
    Calls Try.prog 17 #[.pointer (some ⟨p, 0, none⟩), .int .i64 i] w fun e w' => e = .returned (.int .i64 (S.get i)) ∧ Own W p r S n T w' := by
  have h' := h; obtain ⟨F, a, b, c⟩ := h
  refine (obj_get a i).mono fun e w' ⟨h1, h2⟩ => ⟨h1, ?_⟩
  subst h2; exact h'
theorem own_set (h : Own W p r S n T w) (i v : Int) (hn : n ≤ 1000000) :
    Calls Try.prog 13 #[.pointer (some ⟨p, 0, none⟩), .int .i64 i, .int .i64 v] w fun e w' => e = .returned (.tuple #[]) ∧ Own W p r (S.set i v) (n + 1) T w' := by
  obtain ⟨F, a, b, c⟩ := h
  exact (obj_set a i v hn).mono fun e w' ⟨h1, h2⟩ => ⟨h1, Own.step b c h2⟩
theorem own_rewind (h : Own W p r S n T w) (tick : Int) (hn : n ≤ 1000000) :
    Calls Try.prog 16 #[.pointer (some ⟨r, 0, none⟩), .int .i64 tick] w fun e w' => e = .returned (.int .i64 (S.rewind tick).1) ∧ Own W p r (S.rewind tick).2 n T w' := by
  obtain ⟨F, a, b, c⟩ := h
  exact (obj_rewind a tick hn).mono fun e w' ⟨h1, h2⟩ => ⟨h1, Own.step b c h2⟩
theorem own_push (h : Own W p r S n T w) (tick : Int) (hn : n ≤ 1000000) (hT : T ≤ 1000000000) (ht : S.L.length = 0 → tick ≤ T + 1) :
    Calls Try.prog 12 #[.pointer (some ⟨r, 0, none⟩), .int .i64 tick] w fun e w' => e = .returned (.int .i64 (S.push tick).1) ∧ Own W p r (S.push tick).2 n (T + 1) w' := by
  obtain ⟨F, a, b, c⟩ := h
  exact (obj_push a tick hn hT ht).mono fun e w' ⟨h1, h2⟩ => ⟨h1, Own.step b c h2⟩

/-- the same with the outcome named -/
theorem own_push' (h : Own W p r S n T w) (tick : Int) (hn : n ≤ 1000000) (hT : T ≤ 1000000000) (ht : S.L.length = 0 → tick ≤ T + 1) {code : Int} {S' : Sp} (he : S.push tick = (code, S')) :
    Calls Try.prog 12 #[.pointer (some ⟨r, 0, none⟩), .int .i64 tick] w fun e w' => e = .returned (.int .i64 code) ∧ Own W p r S' n (T + 1) w' := by
  have := own_push h tick hn hT ht
  rwa [he] at this
theorem own_rewind' (h : Own W p r S n T w) (tick : Int) (hn : n ≤ 1000000) {code : Int} {S' : Sp} (he : S.rewind tick = (code, S')) :
    Calls Try.prog 16 #[.pointer (some ⟨r, 0, none⟩), .int .i64 tick] w fun e w' => e = .returned (.int .i64 code) ∧ Own W p r S' n T w' := by
  have := own_rewind h tick hn
  rwa [he] at this
theorem own_set' (h : Own W p r S n T w) (i v : Int) (hn : n ≤ 1000000) {S' : Sp} (he : S.set i v = S') :
    Calls Try.prog 13 #[.pointer (some ⟨p, 0, none⟩), .int .i64 i, .int .i64 v] w fun e w' => e = .returned (.tuple #[]) ∧ Own W p r S' (n + 1) T w' := by
  have := own_set h i v hn
  rwa [he] at this
theorem own_get' (h : Own W p r S n T w) (i : Int) {x : Int} (he : S.get i = x) :
    Calls Try.prog 17 #[.pointer (some ⟨p, 0, none⟩), .int .i64 i] w fun e w' => e = .returned (.int .i64 x) ∧ Own W p r S n T w' := by
  have := own_get h i
  rwa [he] at this
theorem own_newest' (h : Own W p r S n T w) {x : Int} (he : S.newest = x) :
    Calls Try.prog 15 #[.pointer (some ⟨r, 0, none⟩)] w fun e w' => e = .returned (.int .i64 x) ∧ Own W p r S n T w' := by
  have := own_newest h
  rwa [he] at this
theorem own_oldest' (h : Own W p r S n T w) {x : Int} (he : S.oldest = x) :
    Calls Try.prog 14 #[.pointer (some ⟨r, 0, none⟩)] w fun e w' => e = .returned (.int .i64 x) ∧ Own W p r S n T w' := by
  have := own_oldest h
  rwa [he] at this
end
end Go.Proofs.Ytchigfofcdildaa
