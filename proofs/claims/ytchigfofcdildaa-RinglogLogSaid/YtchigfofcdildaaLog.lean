/- RinglogLog returns true. -/
import Derived.Test.YtchigfofcdildaaGuard
import Derived.Test.YtchigfofcdildaaActs
namespace Go.Proofs.Ytchigfofcdildaa
open Go.RowKit

/-- the state of RinglogLog after i operations -/
def LogSt (W : World) (p r : Nat) (k : Nat) (aa : Option Addr) (ca : Nat) (acts : List (Int × Int × Int)) (i : Nat) (v : Value) (w : World) : Prop :=
  ∃ b c ws m R, v = .slice b ws.length c ∧ LogInv m R ws ∧ R.keep = k ∧ ws.length ≤ i ∧ m.base + m.log.length ≤ i ∧ (∀ x ∈ ws, x ≤ i) ∧ m.cells.length = 6 ∧
    OwnG (bothX p r m R) W (blk b ++ blk aa) w ∧ Seg w 3 1 b ws.length c (ints ws) ∧ Seg w 40 3 aa acts.length ca (trips acts) ∧ ∀ k ∈ blk b, k ∉ blk aa

theorem ints_set (a : List Int) (i : Nat) (x : Int) : ints (a.set i x) = (ints a).set i (.int .i64 x) := by simp [ints]

theorem pushM_size {m : MemS} {R : RingS} (hi : Inv m R) (tick : Int) (h0 : 0 ≤ tick) (h1 : 0 < R.ents.length → tick = R.newest + 1) :
    (pushM m R tick).1.base + (pushM m R tick).1.log.length = m.base + m.log.length ∧ (pushM m R tick).1.cells = m.cells ∧ (pushM m R tick).2.keep = R.keep := by
  unfold pushM
  have hl := hi.len
  have k1 := hi.keep1
  split
  · exact ⟨rfl, rfl, rfl⟩
  · rename_i hk
    have hln := add_len R tick m.mark
    have hmk := (hi.over tick h0 h1 hk).marks 1 (by simp only; omega)
    simp only at hmk
    rw [List.getD_eq_getElem?_getD, List.getElem?_eq_getElem (show 1 < (R.add tick m.mark).ents.length by omega), Option.getD_some]
    refine ⟨?_, rfl, rfl⟩
    unfold MemS.disc
    unfold MemS.mark at hmk
    simp only [List.length_drop]
    unfold MemS.mark
    omega

variable {W w : World} {p r : Nat} {k : Nat} {aa : Option Addr} {ca : Nat} {acts : List (Int × Int × Int)} {i : Nat}

/-- what holds after a Push and before the append of a zero -/
def LogMid (W : World) (p r : Nat) (k : Nat) (aa : Option Addr) (ca : Nat) (acts : List (Int × Int × Int)) (i : Nat) (b : Option Addr) (c : Nat) (ws : List Int) (w : World) : Prop :=
  ∃ m R, LogInv m R (ws ++ [0]) ∧ R.keep = k ∧ ws.length ≤ i ∧ m.base + m.log.length ≤ i ∧ (∀ x ∈ ws, x ≤ i) ∧ m.cells.length = 6 ∧
    OwnG (bothX p r m R) W (blk b ++ blk aa) w ∧ Seg w 3 1 b ws.length c (ints ws) ∧ Seg w 40 3 aa acts.length ca (trips acts) ∧ ∀ k ∈ blk b, k ∉ blk aa

theorem log_push {b : Option Addr} {c : Nat} {ws : List Int} {m : MemS} {R : RingS} (h1 : LogInv m R ws) (h2 : R.keep = k) (h3 : ws.length ≤ i) (h4 : m.base + m.log.length ≤ i) (h5 : ∀ x ∈ ws, x ≤ i) (h6 : m.cells.length = 6)
    (h7 : OwnG (bothX p r m R) W (blk b ++ blk aa) w) (h8 : Seg w 3 1 b ws.length c (ints ws)) (h9 : Seg w 40 3 aa acts.length ca (trips acts)) (h10 : ∀ k ∈ blk b, k ∉ blk aa) (hk : k ≤ 13) (hi : i ≤ 40) :
    Calls Try.prog 12 #[.pointer (some ⟨r, 0, none⟩), .int .i64 ws.length] w fun e w' => e = .returned (.int .i64 0) ∧ LogMid W p r k aa ca acts i b c ws w' := by
  have hn : 0 < R.ents.length → (ws.length : Int) = R.newest + 1 := fun _ => by rw [h1.newest]; omega
  obtain ⟨s1, s2, s3⟩ := pushM_size h1.inv ws.length (by omega) hn
  refine (h7.call (Y := bothX p r (pushM m R ws.length).1 (pushM m R ws.length).2) fun F hF => both_push hF h1.inv ws.length (by omega) hn (by omega) (by omega) (by omega)).mono ?_
  rintro e w' ⟨rfl, ho, hkp⟩
  exact ⟨rfl, _, _, h1.push, by omega, h3, by omega, h5, by rw [s2]; exact h6, ho, h8.same (fun k hk => hkp k (by simp [hk])), h9.same (fun k hk => hkp k (by simp [hk])), h10⟩

theorem LogMid.add {b : Option Addr} {c : Nat} {ws : List Int} (h : LogMid W p r k aa ca acts i b c ws w) {u w1 : World} {b' : Option Addr} {c' : Nat} (hu : Fr [] w u)
    (hs : Seg w1 3 1 b' (ws.length + 1) c' (ints ws ++ [.int .i64 0])) (hf : Fr (blk b) u w1) (he : Ext (blk b) u (blk b')) : LogSt W p r k aa ca acts (i + 1) (.slice b' (ws.length + 1) c') w1 := by
  obtain ⟨m, R, h1, h2, h3, h4, h5, h6, h7, h8, h9, h10⟩ := h
  have g := h7.gnew
  have hall := (hu.mono (by simp) : Fr (blk b) w u).trans hf (Ext.refl _ _)
  have hd : ∀ k ∈ blk b', k ∉ blk aa := fun k hk ha => by
    rcases he k hk with h | h
    · exact h10 k h ha
    · have := g k (by simp [ha]); have := hu.size; omega
  refine ⟨b', c', ws ++ [0], m, R, by simp, h1, h2, by simp; omega, by omega, fun x hx => ?_, h6, h7.own (bothX_frm _ _ _ _) hall (fun k hk => by simp [hk]) (fun k hk => ?_), ?_, h9.same (fun k hk => hall.block k (g k (by simp [hk])).2 (fun hb => h10 k hb hk)), hd⟩
  · simp at hx
    rcases hx with hx | rfl
    · have := h5 x hx; omega
    · omega
  · simp only [List.mem_append] at hk
    rcases hk with hk | hk
    · refine ⟨?_, hs.lt k hk⟩
      rcases he k hk with h | h
      · exact .inl (by simp [h])
      · exact .inr (Nat.le_trans hu.size h)
    · exact ⟨.inl (by simp [hk]), Nat.lt_of_lt_of_le (g k (by simp [hk])).2 hall.size⟩
  · rw [ints_append, List.length_append]; exact hs

/-- what holds after a Set and before the last count goes up -/
def LogUp (W : World) (p r : Nat) (k : Nat) (aa : Option Addr) (ca : Nat) (acts : List (Int × Int × Int)) (i : Nat) (b : Option Addr) (c : Nat) (ws : List Int) (w : World) : Prop :=
  ∃ m R, LogInv m R (if ws.length = 0 then ws else ws.set (ws.length - 1) (ws.getD (ws.length - 1) 0 + 1)) ∧ R.keep = k ∧ ws.length ≤ i ∧ m.base + m.log.length ≤ i + 1 ∧ (∀ x ∈ ws, x ≤ i) ∧ m.cells.length = 6 ∧
    OwnG (bothX p r m R) W (blk b ++ blk aa) w ∧ Seg w 3 1 b ws.length c (ints ws) ∧ Seg w 40 3 aa acts.length ca (trips acts) ∧ ∀ k ∈ blk b, k ∉ blk aa

theorem log_set {b : Option Addr} {c : Nat} {ws : List Int} {m : MemS} {R : RingS} (h1 : LogInv m R ws) (h2 : R.keep = k) (h3 : ws.length ≤ i) (h4 : m.base + m.log.length ≤ i) (h5 : ∀ x ∈ ws, x ≤ i) (h6 : m.cells.length = 6)
    (h7 : OwnG (bothX p r m R) W (blk b ++ blk aa) w) (h8 : Seg w 3 1 b ws.length c (ints ws)) (h9 : Seg w 40 3 aa acts.length ca (trips acts)) (h10 : ∀ k ∈ blk b, k ∉ blk aa) (hi : i ≤ 40) (a v : Int) (ha : 0 ≤ a) (ha2 : a < 6) :
    Calls Try.prog 13 #[.pointer (some ⟨p, 0, none⟩), .int .i64 a, .int .i64 v] w fun e w' => e = .returned (.tuple #[]) ∧ LogUp W p r k aa ca acts i b c ws w' := by
  obtain ⟨a, rfl⟩ := Int.eq_ofNat_of_zero_le ha
  have hb := h1.inv.base
  refine (h7.call (Y := bothX p r (m.set a v) R) fun F hF => both_set hF a v (by omega)).mono ?_
  rintro e w' ⟨rfl, ho, hkp⟩
  have := m.size_set a v
  exact ⟨rfl, _, _, h1.set a v (by omega), h2, h3, by omega, h5, by rw [m.len_set]; exact h6, ho, h8.same (fun k hk => hkp k (by simp [hk])), h9.same (fun k hk => hkp k (by simp [hk])), h10⟩

theorem LogUp.zero {b : Option Addr} {c : Nat} {ws : List Int} (h : LogUp W p r k aa ca acts i b c ws w) (hz : ws.length = 0) : LogSt W p r k aa ca acts (i + 1) (.slice b ws.length c) w := by
  obtain ⟨m, R, h1, h2, h3, h4, h5, h6, h7, h8, h9, h10⟩ := h
  rw [if_pos hz] at h1
  exact ⟨b, c, ws, m, R, rfl, h1, h2, by omega, by omega, fun x hx => by have := h5 x hx; omega, h6, h7, h8, h9, h10⟩

theorem LogUp.up {g off : Nat} {c : Nat} {ws : List Int} (h : LogUp W p r k aa ca acts i (some ⟨g, off, none⟩) c ws w) {x : Int} {j : Nat} (hj : ws.length = j + 1) (hx : ws[j]? = some x) :
    LogSt W p r k aa ca acts (i + 1) (.slice (some ⟨g, off, none⟩) ws.length c) (w.setCell ⟨g, off + j, none⟩ (.int .i64 (x + 1))) := by
  obtain ⟨m, R, h1, h2, h3, h4, h5, h6, h7, h8, h9, h10⟩ := h
  rw [if_neg (by omega), List.getD_eq_getElem?_getD, show ws.length - 1 = j by omega, hx, Option.getD_some] at h1
  have hf := (Fr.refl [g] w).setCell (p := ⟨g, off + j, none⟩) (.inl (by simp)) (.int .i64 (x + 1))
  have gn := h7.gnew
  refine ⟨some ⟨g, off, none⟩, c, ws.set j (x + 1), m, R, by simp, h1, h2, by simp; omega, by omega, fun y hy => ?_, h6, h7.own (bothX_frm _ _ _ _) hf (fun k hk => by simp [blk] at hk ⊢; exact .inl hk) (fun k hk => ⟨.inl hk, Nat.lt_of_lt_of_le (gn k hk).2 hf.size⟩), ?_, h9.same (fun k hk => ?_), h10⟩
  · rcases List.mem_or_eq_of_mem_set hy with h | rfl
    · have := h5 y h; omega
    · have := h5 x (List.mem_of_getElem? hx); omega
  · rw [List.length_set, ints_set]; exact h8.store (by omega) _
  · exact setCell_ne (fun e => h10 g (by simp [blk]) (by rw [← show k = g from e]; exact hk))

end Go.Proofs.Ytchigfofcdildaa
