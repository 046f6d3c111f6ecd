/- A memory with its ring beside a local slice of rows (copies of the cells) and beside other local slices. -/
import Derived.Test.YtchigfofcdildaaRest
namespace Go.Proofs.Ytchigfofcdildaa
open Go.RowKit

/-- Z speaks of the blocks G0 alone -/
def Still (Z : World → Prop) (G0 : List Nat) : Prop := ∀ w w', Z w → Kept G0 w w' → Z w'

def heads (tabs : List (Nat × List Int)) : List Nat := tabs.map (·.1)

/-- what lies about: the object as seen, a local slice of rows, and Z of other blocks G0 -/
def TabSt (Z : World → Prop) (G0 : List Nat) (W : World) (p r : Nat) (S : Sp) (n T : Int) (sb : Option Addr) (c : Nat) (tabs : List (Nat × List Int)) (w : World) : Prop :=
  OwnG (objX p r S n T) W (blk sb ++ (G0 ++ heads tabs)) w ∧ Seg w 36 1 sb tabs.length c (tabVals tabs) ∧ Tabs w tabs ∧ Z w ∧ ∀ k ∈ blk sb, k ∉ G0 ++ heads tabs

section
variable {Z : World → Prop} {G0 : List Nat} {W w : World} {p r : Nat} {S S2 : Sp} {n T n2 T2 : Int} {sb : Option Addr} {c : Nat} {tabs : List (Nat × List Int)}

theorem mem_heads {x : Nat × List Int} (h : x ∈ tabs) : x.1 ∈ heads tabs := List.mem_map.2 ⟨x, h, rfl⟩

theorem TabSt.kept (hZ : Still Z G0) {w' : World} (h : TabSt Z G0 W p r S n T sb c tabs w) (ho : OwnG (objX p r S2 n2 T2) W (blk sb ++ (G0 ++ heads tabs)) w') (hk : Kept (blk sb ++ (G0 ++ heads tabs)) w w') :
    TabSt Z G0 W p r S2 n2 T2 sb c tabs w' := by
  obtain ⟨_, h2, h3, h4, h5⟩ := h
  exact ⟨ho, h2.same fun k hm => hk k (by simp [hm]), h3.kept fun x hx => hk _ (by simp [mem_heads hx]), hZ _ _ h4 (hk.sub fun k hm => by simp [hm]), h5⟩

theorem TabSt.call (hZ : Still Z G0) {f : FuncId} {args : Array Value} {v : Ending} (h : TabSt Z G0 W p r S n T sb c tabs w)
    (hc : ∀ F, IsObj w p r F S n T → Calls Try.prog f args w fun e w' => e = v ∧ ObjTo w p r F S2 n2 T2 w') :
    Calls Try.prog f args w fun e w' => e = v ∧ TabSt Z G0 W p r S2 n2 T2 sb c tabs w' :=
  (h.1.call (Y := objX p r S2 n2 T2) fun F hF => (hc F hF).mono fun e w' ⟨h1, F', h2⟩ => ⟨h1, F', h2⟩).mono fun e w' ⟨h1, h2, h3⟩ => ⟨h1, h.kept hZ h2 h3⟩

theorem TabSt.fr (hZ : Still Z G0) {w' : World} (h : TabSt Z G0 W p r S n T sb c tabs w) (hf : Fr [] w w') : TabSt Z G0 W p r S n T sb c tabs w' := by
  obtain ⟨a, b⟩ := h.1.fr (objX_frm _ _ _ _ _) hf
  exact h.kept hZ a b
theorem TabSt.mono (h : TabSt Z G0 W p r S n T sb c tabs w) (hn : n ≤ n2) (hT : T ≤ T2) : TabSt Z G0 W p r S n2 T2 sb c tabs w := ⟨h.1.mono fun F hF => IsObj.mono hF hn hT, h.2⟩
theorem TabSt.frame (h : TabSt Z G0 W p r S n T sb c tabs w) : Fr [] W w := h.1.frame

theorem tab_set (hZ : Still Z G0) (h : TabSt Z G0 W p r S n T sb c tabs w) (i v : Int) (hn : n ≤ 1000000) {S' : Sp} (he : S.set i v = S') :
    Calls Try.prog 13 #[.pointer (some ⟨p, 0, none⟩), .int .i64 i, .int .i64 v] w fun e w' => e = .returned (.tuple #[]) ∧ TabSt Z G0 W p r S' (n + 1) T sb c tabs w' :=
  h.call hZ fun F hF => he ▸ obj_set hF i v hn
theorem tab_push (hZ : Still Z G0) (h : TabSt Z G0 W p r S n T sb c tabs w) (tick : Int) (hn : n ≤ 1000000) (hT : T ≤ 1000000000) (ht : S.L.length = 0 → tick ≤ T + 1) {code : Int} {S' : Sp} (he : S.push tick = (code, S')) :
    Calls Try.prog 12 #[.pointer (some ⟨r, 0, none⟩), .int .i64 tick] w fun e w' => e = .returned (.int .i64 code) ∧ TabSt Z G0 W p r S' n (T + 1) sb c tabs w' :=
  h.call hZ fun F hF => by have := obj_push hF tick hn hT ht; rwa [he] at this
theorem tab_rewind (hZ : Still Z G0) (h : TabSt Z G0 W p r S n T sb c tabs w) (tick : Int) (hn : n ≤ 1000000) {code : Int} {S' : Sp} (he : S.rewind tick = (code, S')) :
    Calls Try.prog 16 #[.pointer (some ⟨r, 0, none⟩), .int .i64 tick] w fun e w' => e = .returned (.int .i64 code) ∧ TabSt Z G0 W p r S' n T sb c tabs w' :=
  h.call hZ fun F hF => by have := obj_rewind hF tick hn; rwa [he] at this
theorem tab_newest (hZ : Still Z G0) (h : TabSt Z G0 W p r S n T sb c tabs w) {x : Int} (he : S.newest = x) :
    Calls Try.prog 15 #[.pointer (some ⟨r, 0, none⟩)] w fun e w' => e = .returned (.int .i64 x) ∧ TabSt Z G0 W p r S n T sb c tabs w' :=
  h.call hZ fun F hF => (he ▸ obj_newest hF).mono fun e w' ⟨h1, k, h2⟩ => ⟨h1, h2 ▸ hF.toFr ((Fr.refl _ _).drewN k)⟩
theorem tab_oldest (hZ : Still Z G0) (h : TabSt Z G0 W p r S n T sb c tabs w) {x : Int} (he : S.oldest = x) :
    Calls Try.prog 14 #[.pointer (some ⟨r, 0, none⟩)] w fun e w' => e = .returned (.int .i64 x) ∧ TabSt Z G0 W p r S n T sb c tabs w' :=
  h.call hZ fun F hF => (he ▸ obj_oldest hF).mono fun e w' ⟨h1, h2⟩ => ⟨h1, h2 ▸ hF.to⟩

/-- the copy of the cells that has just been made -/
def pend (Z : World → Prop) (b : Nat) (l : List Int) : World → Prop := fun w => Z w ∧ w.heap[b]? = some (row l)
theorem Still.pend (hZ : Still Z G0) (b : Nat) (l : List Int) : Still (pend Z b l) (b :: G0) := fun w w' h hk =>
  ⟨hZ w w' h.1 (hk.sub fun k hm => by simp [hm]), (hk b (by simp)).trans h.2⟩

theorem tab_cells (hZ : Still Z G0) (h : TabSt Z G0 W p r S n T sb c tabs w) {l : List Int} (he : S.cells = l) (hl : l.length ≤ 1099511627776) :
    Calls Try.prog 22 #[.pointer (some ⟨p, 0, none⟩)] w fun e w' => e = .returned (.slice (some ⟨w.heap.size, 0, none⟩) l.length l.length) ∧ TabSt (pend Z w.heap.size l) (w.heap.size :: G0) W p r S n T sb c tabs w' := by
  subst he
  obtain ⟨F, hF, _⟩ := h.1
  refine (obj_cells hF hl).mono ?_
  rintro e w' ⟨h1, h2, h3⟩
  obtain ⟨a, b, c, d, e⟩ := h.fr hZ h3
  have g := h.1.gnew
  refine ⟨h1, h.1.own (objX_frm _ _ _ _ _) h3 (by simp) (fun k hk => ?_), b, c, ⟨d, h2⟩, fun k hk hm => ?_⟩
  · simp only [List.mem_append, List.cons_append, List.mem_cons] at hk
    rcases hk with hk | rfl | hk
    · have := a.gnew k (by simp [hk]); exact ⟨.inl (by simp [hk]), this.2⟩
    · exact ⟨.inr (Nat.le_refl _), lt_of_blk h2⟩
    · have := a.gnew k (by rcases hk with h | h <;> simp [h]); exact ⟨.inl (by rcases hk with h | h <;> simp [h]), this.2⟩
  · simp only [List.cons_append, List.mem_cons] at hm
    rcases hm with rfl | hm
    · have := (g w.heap.size (by simp [hk])).2; omega
    · exact e k hk hm

/-- the copy has been appended to the slice of rows -/
theorem TabSt.add (hZ : Still Z G0) {b : Nat} {l : List Int} {u w1 : World} {sb' : Option Addr} {c' : Nat} (h : TabSt (pend Z b l) (b :: G0) W p r S n T sb c tabs w) (hu : Fr [] w u)
    (hs : Seg w1 36 1 sb' (tabs.length + 1) c' (tabVals tabs ++ [.slice (some ⟨b, 0, none⟩) l.length l.length])) (hf : Fr (blk sb) u w1) (he : Ext (blk sb) u (blk sb')) :
    TabSt Z G0 W p r S n T sb' c' (tabs ++ [(b, l)]) w1 := by
  obtain ⟨h1, h2, h3, ⟨h4, h4b⟩, h5⟩ := h
  have g := h1.gnew
  have hall : Fr (blk sb) w w1 := (hu.mono (by simp) : Fr (blk sb) w u).trans hf (Ext.refl _ _)
  have hkp : ∀ k ∈ (b :: G0) ++ heads tabs, w1.heap[k]? = w.heap[k]? := fun k hk => hall.block k (g k (List.mem_append_right _ hk)).2 (fun hb => h5 k hb hk)
  have hh : heads (tabs ++ [(b, l)]) = heads tabs ++ [b] := by simp [heads]
  have hin : ∀ k, k ∈ G0 ++ heads (tabs ++ [(b, l)]) → k ∈ (b :: G0) ++ heads tabs := fun k hk => by
    rw [hh] at hk
    simp only [List.mem_append, List.mem_cons, List.cons_append, List.not_mem_nil, or_false] at hk ⊢
    rcases hk with hk | hk | rfl
    · exact .inr (.inl hk)
    · exact .inr (.inr hk)
    · exact .inl rfl
  refine ⟨h1.own (objX_frm _ _ _ _ _) hall (fun k hk => by simp [hk]) (fun k hk => ?_), ?_, fun x hx => ?_, hZ _ _ h4 fun k hk => hkp k (by simp [hk]), fun k hk hm => ?_⟩
  · rcases List.mem_append.1 hk with hk | hk
    · refine ⟨?_, hs.lt k hk⟩
      rcases he k hk with h | h
      · exact .inl (by simp [h])
      · exact .inr (Nat.le_trans hu.size h)
    · have := hin k hk
      exact ⟨.inl (List.mem_append_right _ this), Nat.lt_of_lt_of_le (g k (List.mem_append_right _ this)).2 hall.size⟩
  · rw [tabVals_append, List.length_append]; exact hs
  · rcases List.mem_append.1 hx with hx | hx
    · rw [hkp _ (by simp [mem_heads hx])]; exact h3 x hx
    · simp only [List.mem_singleton] at hx
      subst hx
      rw [hkp _ (by simp)]; exact h4b
  · have hm' := hin k hm
    rcases he k hk with h | h
    · exact h5 k h hm'
    · have := (g k (List.mem_append_right _ hm')).2; have := hu.size; omega

/-- the copy of the cells is let go -/
theorem TabSt.drop {b : Nat} {l : List Int} (h : TabSt (pend Z b l) (b :: G0) W p r S n T sb c tabs w) : TabSt Z G0 W p r S n T sb c tabs w := by
  obtain ⟨h1, h2, h3, ⟨h4, _⟩, h5⟩ := h
  have hin : ∀ k, k ∈ G0 ++ heads tabs → k ∈ (b :: G0) ++ heads tabs := fun k hk => by
    rw [List.cons_append]; exact List.mem_cons_of_mem _ hk
  exact ⟨h1.sub fun k hk => (List.mem_append.1 hk).elim (fun h => List.mem_append_left _ h) (fun h => List.mem_append_right _ (hin k h)), h2, h3, h4, fun k hk hm => h5 k hk (hin k hm)⟩
theorem TabSt.pendRd {b : Nat} {l : List Int} (h : TabSt (pend Z b l) (b :: G0) W p r S n T sb c tabs w) (hl : l.length ≤ maxLen) : Rd w 1 (some ⟨b, 0, none⟩) l.length (ints l) := (row_seg h.2.2.2.1.2 hl).rd
theorem TabSt.rowRd (h : TabSt Z G0 W p r S n T sb c tabs w) {k : Nat} (hk : k < tabs.length) (hm : tabs[k].2.length ≤ maxLen) : Rd w 1 (some ⟨tabs[k].1, 0, none⟩) tabs[k].2.length (ints tabs[k].2) := h.2.2.1.rd hk hm
theorem TabSt.cell (h : TabSt Z G0 W p r S n T sb c tabs w) {g off : Nat} (ha : sb = some ⟨g, off, none⟩) {k : Nat} (hk : k < tabs.length) :
    w.cell? ⟨g, off + k, none⟩ = some (.slice (some ⟨tabs[k].1, 0, none⟩) tabs[k].2.length tabs[k].2.length) := by
  subst ha
  obtain ⟨g', off', cur, ha, _, _, hc, _⟩ := h.2.1.at (by have := h.2.1.2.2.1; omega)
  cases ha
  rw [hc k (by omega), tabVals_get _ _ hk]
theorem TabSt.some (h : TabSt Z G0 W p r S n T sb c tabs w) (h0 : 0 < tabs.length) : ∃ g off, sb = some ⟨g, off, none⟩ := by
  obtain ⟨g', off', cur, ha, _⟩ := h.2.1.at (by have := h.2.1.2.2.1; omega)
  exact ⟨g', off', ha⟩
end
end Go.Proofs.Ytchigfofcdildaa
