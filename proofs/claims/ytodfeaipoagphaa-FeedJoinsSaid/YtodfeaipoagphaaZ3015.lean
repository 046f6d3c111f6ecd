/- FSolo (merged by merge.py). -/
import Derived.Test.YtodfeaipoagphaaZ3014
/- Package feed: a store alone, beside blocks that it leaves alone. -/
namespace Go.Proofs.Ytodfeaipoagphaa
open Go.RowKit

/-- the store (T, p, s) lies in blocks made since W; the blocks G are of now, made since W, and not of the store -/
structure SoloF (T : TypeId) (W : World) (G : List Nat) (p : Nat) (s : FS) (F : List Nat) (w : World) : Prop where
  a : IsSt T p s w F
  g : ∀ k ∈ F, k ∉ G
  n : ∀ k ∈ F, W.heap.size ≤ k
  fr : Fr [] W w
  gn : ∀ k ∈ G, W.heap.size ≤ k ∧ k < w.heap.size
def Solo (T : TypeId) (W : World) (G : List Nat) (p : Nat) (s : FS) (w : World) : Prop := ∃ F, SoloF T W G p s F w

section
variable {T T2 : TypeId} {W w w' : World} {G G' S F1' : List Nat} {p q : Nat} {s s' r : FS} {F : List Nat}
theorem Solo.frame (h : Solo T W G p s w) : Fr [] W w := by obtain ⟨_, k⟩ := h; exact k.fr
theorem Solo.gnew (h : Solo T W G p s w) : ∀ k ∈ G, W.heap.size ≤ k ∧ k < w.heap.size := by obtain ⟨_, k⟩ := h; exact k.gn
theorem SoloF.turn (h : SoloF T W G p s F w) (ha : IsSt T p s' w' F1') (hf : Fr F w w') (hx : Ext F w F1') (hG : ∀ k ∈ G', (k ∈ G ∨ (w.heap.size ≤ k ∧ k ∉ F1')) ∧ k < w'.heap.size) : Solo T W G' p s' w' ∧ Kept G w w' := by
  refine ⟨⟨F1', ⟨ha, fun k hk hm => ?_, fun k hk => ?_, h.fr.trans hf (fun k hk => .inr (h.n k hk)), fun k hk => ⟨?_, (hG k hk).2⟩⟩⟩, fun k hk => hf.block k (h.gn k hk).2 (fun hm => h.g k hm hk)⟩
  · rcases (hG k hm).1 with x | x
    · rcases hx k hk with y | y
      · exact h.g k y x
      · have := (h.gn k x).2; omega
    · exact x.2 hk
  · rcases hx k hk with x | x
    · exact h.n k x
    · have := h.fr.size; omega
  · rcases (hG k hk).1 with x | x
    · exact (h.gn k x).1
    · have := h.fr.size; omega
theorem Solo.own (h : Solo T W G p s w) (hf : Fr S w w') (hS : ∀ k ∈ S, k ∈ G) (hG : ∀ k ∈ G', (k ∈ G ∨ w.heap.size ≤ k) ∧ k < w'.heap.size) : Solo T W G' p s w' := by
  obtain ⟨F, h⟩ := h
  have h1 := (isSt_frm T p s).lt h.a
  refine ⟨F, ⟨(isSt_frm T p s).fr h.a hf (fun k hk hm => h.g k hk (hS k hm)), fun k hk hm => ?_, h.n, h.fr.trans hf (fun k hk => .inr (h.gn k (hS k hk)).1), fun k hk => ⟨?_, (hG k hk).2⟩⟩⟩
  · rcases (hG k hm).1 with x | x
    · exact h.g k hk x
    · have := h1 k hk; omega
  · rcases (hG k hk).1 with x | x
    · exact (h.gn k x).1
    · have := h.fr.size; omega
theorem Solo.old (h : Solo T W G p s w) (hf : Fr [] w w') : Solo T W G p s w' ∧ Kept G w w' :=
  ⟨h.own hf (by simp) (fun k hk => ⟨.inl hk, Nat.lt_of_lt_of_le (h.gnew k hk).2 hf.size⟩), fun k hk => hf.block k (h.gnew k hk).2 (by simp)⟩
theorem Solo.sub (h : Solo T W G p s w) (hs : ∀ k ∈ G', k ∈ G) : Solo T W G' p s w :=
  h.own (Fr.refl [] w) (by simp) fun k hk => ⟨.inl (hs k hk), (h.gnew k (hs k hk)).2⟩
theorem Solo.grow (h : Solo T W G p s w) (hf : Fr [] w w') (hG : ∀ k ∈ G', (k ∈ G ∨ w.heap.size ≤ k) ∧ k < w'.heap.size) : Solo T W G' p s w' := h.own hf (by simp) hG
theorem Duo.solo (h : Duo T T2 W G p q s r w) : Solo T W G p s w := by
  obtain ⟨F1, F2, h⟩ := h
  exact ⟨F1, ⟨h.a, h.g1, h.n1, h.fr, h.gn⟩⟩
theorem solo_new {k : Nat} {e : Ending} (h : NewTo T W k e w) : ∃ p, e = .returned (.pointer (some ⟨p, 0, none⟩)) ∧ Solo T W [] p (fnew k) w := by
  obtain ⟨p, F, rfl, hb, hf, hn⟩ := h
  exact ⟨p, rfl, F, ⟨hb, by simp, hn, hf, by simp⟩⟩
/-- a second store is made -/
theorem Solo.duo {k : Nat} {e : Ending} (h : Solo T W G p s w) (hn : NewTo T2 w k e w') : ∃ q, e = .returned (.pointer (some ⟨q, 0, none⟩)) ∧ Duo T T2 W G p q s (fnew k) w' ∧ Kept G w w' := by
  obtain ⟨q, F2, rfl, hb, hf2, hn2⟩ := hn
  have hk := (h.old hf2).2
  obtain ⟨F, h⟩ := h
  have hlt := (isSt_frm T p s).lt h.a
  have hz := h.fr.size
  exact ⟨q, rfl, ⟨F, F2, ⟨(isSt_frm T p s).fr h.a hf2 (by simp), hb, fun k hk hm => by have h1 := hlt k hk; have h2 := hn2 k hm; omega, h.g, fun k hk hm => by have h1 := hn2 k hk; have h2 := (h.gn k hm).2; omega, h.n, fun k hk => by have h2 := hn2 k hk; omega, h.fr.trans hf2 (by simp [Ext]), fun k hk => ⟨(h.gn k hk).1, Nat.lt_of_lt_of_le (h.gn k hk).2 hf2.size⟩⟩⟩, hk⟩

/-- what Send leaves -/
def SSend (W : World) (G : List Nat) (p : Nat) (s : FS) (t : Nat) (v : List (Int × Int)) (w : World) (e : Ending) (w' : World) : Prop :=
  ∃ po pc n, e = .returned (.tuple #[.slice po n pc, .int .i64 0]) ∧ n = (enc (varN t ++ varN s.ref ++ diffL s.base v)).length ∧ Seg w' 5 1 po (enc (varN t ++ varN s.ref ++ diffL s.base v)).length pc (bts (enc (varN t ++ varN s.ref ++ diffL s.base v))) ∧ (t ≤ 6000 → PktAt w' po pc t s.ref (diffL s.base v)) ∧ Solo 58 W (blk po ++ G) p (s.put t v) w' ∧ Kept G w w' ∧ w.heap.size ≤ w'.heap.size
theorem solo_send (h : Solo 58 W G p s w) (hg : s.Good) (t : Nat) (h0 : s.next ≤ (t : Int)) (h1 : t ≤ 6001) (vo : Option Addr) (vc : Nat) (v : List (Int × Int)) (hv : Seg w 48 2 vo v.length vc (v.flatMap clV)) (hiv : IsView v) (hl : v.length ≤ 12) :
    Calls Try.prog 12 #[.pointer (some ⟨p, 0, none⟩), .int .i64 (t : Int), .slice vo v.length vc] w (SSend W G p s t v w) := by
  obtain ⟨F1, h⟩ := h
  refine (send_any w p s h.a hg t h0 (by omega) vo vc v hv hiv hl).mono ?_
  rintro e w' ⟨po, pc, F', rfl, hs, hst, hf, hx, hn⟩
  have hlt := hs.lt
  have hb := bytes_len hg (show t < 1000000 by omega) hiv hl
  have hr := hg.ref.1
  obtain ⟨k1, k2⟩ := h.turn (G' := blk po ++ G) hst hf hx (fun k hk => by
    rcases List.mem_append.1 hk with x | x
    · exact ⟨.inr (hn k x), hlt k x⟩
    · exact ⟨.inl x, Nat.lt_of_lt_of_le (h.gn k x).2 hf.size⟩)
  exact ⟨po, pc, _, rfl, rfl, hs, fun h6 => ⟨hs, hb.2, hb.1, h6, by omega⟩, k1, k2, hf.size⟩
theorem solo_ack (h : Solo 58 W G p s w) (hg : s.Good) (t : Int) (ht : MV.fits t) :
    Calls Try.prog 15 #[.pointer (some ⟨p, 0, none⟩), .int .i64 t] w fun e w' => e = .returned (.tuple #[]) ∧ Solo 58 W G p (s.ack t) w' ∧ Kept G w w' := by
  obtain ⟨F1, h⟩ := h
  refine (ack_any h.a hg t ht).mono ?_
  rintro e w' ⟨rfl, F', hst, hf, hx⟩
  exact ⟨rfl, h.turn hst hf hx (fun k hk => ⟨.inl hk, Nat.lt_of_lt_of_le (h.gn k hk).2 hf.size⟩)⟩
end
/-- nothing was acknowledged -/
theorem no_ack {s : FS} (h : ∀ e ∈ s.L, e.acked = false) : s.ref = 0 ∧ s.base = [] := by
  have h1 : lastA s.L = none := by
    cases h2 : lastA s.L with
    | none => rfl
    | some e =>
      obtain ⟨h3, h4⟩ := lastA_some h2
      rw [h e h3] at h4; cases h4
  unfold FS.ref FS.base
  rw [h1]; exact ⟨rfl, rfl⟩
theorem put_noack {s : FS} {t : Int} {v : List (Int × Int)} (h : ∀ e ∈ s.L, e.acked = false) : ∀ e ∈ (s.put t v).L, e.acked = false := fun e he => by
  unfold FS.put at he
  have := List.mem_of_mem_drop he
  rcases List.mem_append.1 this with q | q
  · exact h e q
  · simp at q; rw [q]
/-- one view that was acknowledged -/
theorem ack_one {k : Nat} (hk : 1 ≤ k) (t : Nat) (v : List (Int × Int)) : ((fnew k).put (t : Int) v).ack (t : Int) = ⟨k, (t : Int) + 1, [⟨(t : Int), v, true⟩]⟩ ∧ (((fnew k).put (t : Int) v).ack (t : Int)).ref = t + 1 ∧ (((fnew k).put (t : Int) v).ack (t : Int)).base = v := by
  have e0 : (fnew k).put (t : Int) v = ⟨k, (t : Int) + 1, [⟨(t : Int), v, false⟩]⟩ := by
    unfold FS.put fnew
    show FS.mk k _ (([] ++ ([⟨(t : Int), v, false⟩] : List FE)).drop (0 + 1 - k)) = _
    rw [show 0 + 1 - k = 0 by omega]; rfl
  have e1 : ((fnew k).put (t : Int) v).ack (t : Int) = ⟨k, (t : Int) + 1, [⟨(t : Int), v, true⟩]⟩ := by
    rw [e0]; unfold FS.ack; simp
  rw [e1]
  refine ⟨rfl, ?_, rfl⟩
  show ((t : Int) + 1).toNat = t + 1
  omega
end Go.Proofs.Ytodfeaipoagphaa
