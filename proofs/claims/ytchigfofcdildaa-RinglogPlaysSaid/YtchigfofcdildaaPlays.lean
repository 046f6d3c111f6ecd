/- RinglogPlays: the state of its loop. -/
import Derived.Test.YtchigfofcdildaaRef5
namespace Go.Proofs.Ytchigfofcdildaa
open Go.RowKit

/-- the object as S, beside the local variable of the reference (block q, cells a b c), the operation at hand (block A) and all operations; v reads as Sr -/
structure PlS (W : World) (p r q A : Nat) (aa : Option Addr) (ca : Nat) (acts : List (Int × Int × Int)) (x : Int × Int × Int) (S : Sp) (n T : Int) (G : List Nat) (a b c v : Value) (Sr : Sp) (w : World) : Prop where
  own : OwnG (objX p r S n T) W (q :: (A :: (blk aa ++ G))) w
  qb : w.heap[q]? = some (.cells #[a, b, c] 45 (0, 0))
  ab : w.heap[A]? = some (.cells #[.int .i64 x.1, .int .i64 x.2.1, .int .i64 x.2.2] 40 (0, 0))
  ref : IsRef w G v Sr
  acts : actsZ aa ca acts w
  qn : q ∉ A :: (blk aa ++ G)

section
variable {W w w' : World} {p r q A : Nat} {aa : Option Addr} {ca : Nat} {acts : List (Int × Int × Int)} {x : Int × Int × Int} {S S2 : Sp} {n T n2 T2 : Int} {G : List Nat} {a b c v a' b' c' : Value} {Sr : Sp} {ca' : Nat}

theorem PlS.kept (h : PlS W p r q A aa ca acts x S n T G a b c v Sr w) (ho : OwnG (objX p r S2 n2 T2) W (q :: (A :: (blk aa ++ G))) w') (hk : Kept (q :: (A :: (blk aa ++ G))) w w') : PlS W p r q A aa ca acts x S2 n2 T2 G a b c v Sr w' :=
  ⟨ho, (hk q (by simp)).trans h.qb, (hk A (by simp)).trans h.ab, h.ref.kept (hk.sub fun k hm => by simp [hm]), actsZ_still _ _ _ _ _ h.acts (hk.sub fun k hm => by simp [hm]), h.qn⟩
theorem PlS.call {f : FuncId} {args : Array Value} {e0 : Ending} (h : PlS W p r q A aa ca acts x S n T G a b c v Sr w)
    (hc : ∀ F, IsObj w p r F S n T → Calls Try.prog f args w fun e w' => e = e0 ∧ ObjTo w p r F S2 n2 T2 w') :
    Calls Try.prog f args w fun e w' => e = e0 ∧ PlS W p r q A aa ca acts x S2 n2 T2 G a b c v Sr w' :=
  (h.own.call (Y := objX p r S2 n2 T2) fun F hF => (hc F hF).mono fun e w' ⟨h1, F', h2⟩ => ⟨h1, F', h2⟩).mono fun e w' ⟨h1, h2, h3⟩ => ⟨h1, h.kept h2 h3⟩
theorem PlS.fr (h : PlS W p r q A aa ca acts x S n T G a b c v Sr w) (hf : Fr [] w w') : PlS W p r q A aa ca acts x S n T G a b c v Sr w' := by
  obtain ⟨h1, h2⟩ := h.own.fr (objX_frm _ _ _ _ _) hf
  exact h.kept h1 h2
theorem PlS.mono (h : PlS W p r q A aa ca acts x S n T G a b c v Sr w) (hn : n ≤ n2) (hT : T ≤ T2) : PlS W p r q A aa ca acts x S n2 T2 G a b c v Sr w :=
  ⟨h.own.mono fun F hF => IsObj.mono hF hn hT, h.qb, h.ab, h.ref, h.acts, h.qn⟩
theorem PlS.gl (h : PlS W p r q A aa ca acts x S n T G a b c v Sr w) : ∀ k ∈ G, k < w.heap.size := fun k hk => (h.own.gnew k (by simp [hk])).2
theorem PlS.refd {f : Value → Ending} {e : Ending} (h : PlS W p r q A aa ca acts x S n T G a b c v Sr w) (ht : RefTo w G S2 f e w') : ∃ v2 G2, e = f v2 ∧ PlS W p r q A aa ca acts x S n T G2 a b c v2 S2 w' := by
  obtain ⟨v2, G2, h1, h2, h3, h4⟩ := ht
  have g := h.own.gnew
  refine ⟨v2, G2, h1, h.own.own (objX_frm _ _ _ _ _) h3 (by simp) (fun k hk => ?_), h3.blk h.qb (by simp), h3.blk h.ab (by simp), h2, Seg.fr h.acts h3 (by simp), fun hm => ?_⟩
  · simp only [List.mem_cons, List.mem_append] at hk
    rcases hk with rfl | rfl | hk | hk
    · exact ⟨.inl (by simp), Nat.lt_of_lt_of_le (g k (by simp)).2 h3.size⟩
    · exact ⟨.inl (by simp), Nat.lt_of_lt_of_le (g k (by simp)).2 h3.size⟩
    · exact ⟨.inl (by simp [hk]), Nat.lt_of_lt_of_le (g k (by simp [hk])).2 h3.size⟩
    · rcases (h4 k hk).1 with h5 | h5
      · exact ⟨.inl (by simp [h5]), (h4 k hk).2⟩
      · exact ⟨.inr h5, (h4 k hk).2⟩
  · have hq := h.qn
    have hql := (g q (by simp)).2
    simp only [List.mem_cons, List.mem_append, not_or] at hq hm
    rcases hm with rfl | hm | hm
    · exact hq.1 rfl
    · exact hq.2.1 hm
    · rcases (h4 q hm).1 with h5 | h5
      · exact hq.2.2 h5
      · omega
theorem PlS.stored (h : PlS W p r q A aa ca acts x S n T G a b c v Sr w) (hf : Fr [q] w w') (hb : w'.heap[q]? = some (.cells #[a', b', c'] 45 (0, 0))) : PlS W p r q A aa ca acts x S n T G a' b' c' v Sr w' := by
  have hq := h.qn
  have g := h.own.gnew
  have hn : ∀ k ∈ A :: (blk aa ++ G), k ∉ [q] := fun k hk hm => by simp at hm; subst hm; exact hq hk
  have hk : Kept (A :: (blk aa ++ G)) w w' := fun k hk => hf.block k (g k (List.mem_cons_of_mem _ hk)).2 (hn k hk)
  exact ⟨h.own.own (objX_frm _ _ _ _ _) hf (by simp) (fun k hk => ⟨.inl hk, Nat.lt_of_lt_of_le (g k hk).2 hf.size⟩), hb, (hk A (by simp)).trans h.ab, h.ref.kept (hk.sub fun k hm => by simp [hm]), actsZ_still _ _ _ _ _ h.acts (hk.sub fun k hm => by simp [hm]), hq⟩
theorem PlS.qc (h : PlS W p r q A aa ca acts x S n T G a b c v Sr w) : w.cell? ⟨q, 0, none⟩ = some a ∧ w.cell? ⟨q, 1, none⟩ = some b ∧ w.cell? ⟨q, 2, none⟩ = some c := ⟨cell_blk h.qb 0, cell_blk h.qb 1, cell_blk h.qb 2⟩
theorem PlS.qf (h : PlS W p r q A aa ca acts x S n T G a b c v Sr w) : w.frozen? ⟨q, 0, none⟩ = false ∧ w.frozen? ⟨q, 1, none⟩ = false ∧ w.frozen? ⟨q, 2, none⟩ = false := ⟨frozen_blk h.qb 0, frozen_blk h.qb 1, frozen_blk h.qb 2⟩
theorem PlS.ac (h : PlS W p r q A aa ca acts x S n T G a b c v Sr w) : w.cell? ⟨A, 0, none⟩ = some (.int .i64 x.1) ∧ w.cell? ⟨A, 1, none⟩ = some (.int .i64 x.2.1) ∧ w.cell? ⟨A, 2, none⟩ = some (.int .i64 x.2.2) := ⟨cell_blk h.ab 0, cell_blk h.ab 1, cell_blk h.ab 2⟩
theorem PlS.ql (h : PlS W p r q A aa ca acts x S n T G a b c v Sr w) : q < w.heap.size := lt_of_blk h.qb
theorem IsRef.agg (h : IsRef w G v Sr) : ∃ k ca n cc la m lc, v = .agg #[.int .i64 k, .slice ca n cc, .slice la m lc] := by obtain ⟨ca, cc, la, lc, es, h⟩ := h; exact ⟨_, _, _, _, _, _, _, h.val⟩
theorem IsRef.six (h : IsRef w G v Sr) : Sr.cells.length = 6 := by obtain ⟨ca, cc, la, lc, es, h⟩ := h; exact h.six
theorem IsRef.row (h : IsRef w G (.agg #[a, b, c]) Sr) : ∃ ca cc, b = .slice ca Sr.cells.length cc ∧ Rd w 1 ca Sr.cells.length (ints Sr.cells) := by
  obtain ⟨ca, cc, la, lc, es, h⟩ := h
  have := h.val
  simp only [Value.agg.injEq] at this
  injection this with this
  simp at this
  exact ⟨ca, cc, this.2.1, h.cells⟩

theorem PlS.rowRd {a c : Value} {ca : Option Addr} {m cc : Nat} (h : PlS W p r q A aa ca' acts x S n T G a' b' c' (.agg #[a, .slice ca m cc, c]) Sr w) : m = Sr.cells.length ∧ Rd w 1 ca Sr.cells.length (ints Sr.cells) := by
  obtain ⟨ca4, cc4, hb, hrd⟩ := h.ref.row
  simp only [Value.slice.injEq] at hb
  obtain ⟨rfl, rfl, rfl⟩ := hb
  exact ⟨rfl, hrd⟩

theorem pl_cells (h : PlS W p r q A aa ca acts x S n T G a b c v Sr w) (hl : S.cells.length ≤ 1099511627776) :
    Calls Try.prog 22 #[.pointer (some ⟨p, 0, none⟩)] w fun e w' => e = .returned (.slice (some ⟨w.heap.size, 0, none⟩) S.cells.length S.cells.length) ∧ PlS W p r q A aa ca acts x S n T G a b c v Sr w' ∧ Rd w' 1 (some ⟨w.heap.size, 0, none⟩) S.cells.length (ints S.cells) := by
  obtain ⟨F, hF, _⟩ := h.own
  refine (obj_cells hF hl).mono ?_
  rintro e w' ⟨h1, h2, h3⟩
  exact ⟨h1, h.fr h3, rd_new h2 (by unfold maxLen; omega)⟩

theorem pl_oldest (h : PlS W p r q A aa ca acts x S n T G a b c v Sr w) :
    Calls Try.prog 14 #[.pointer (some ⟨r, 0, none⟩)] w fun e w' => e = .returned (.int .i64 S.oldest) ∧ PlS W p r q A aa ca acts x S n T G a b c v Sr w' :=
  h.call fun F hF => (obj_oldest hF).mono fun e w' ⟨h1, h2⟩ => ⟨h1, h2 ▸ hF.to⟩
theorem pl_newest (h : PlS W p r q A aa ca acts x S n T G a b c v Sr w) :
    Calls Try.prog 15 #[.pointer (some ⟨r, 0, none⟩)] w fun e w' => e = .returned (.int .i64 S.newest) ∧ PlS W p r q A aa ca acts x S n T G a b c v Sr w' :=
  h.call fun F hF => (obj_newest hF).mono fun e w' ⟨h1, k, h2⟩ => ⟨h1, h2 ▸ hF.toFr ((Fr.refl _ _).drewN k)⟩

/-- what is known of the ticks -/
theorem obj_ticks {F : List Nat} (h : IsObj w p r F S n T) : -1 ≤ S.newest ∧ S.newest ≤ T ∧ (0 < S.L.length → 0 ≤ S.oldest) ∧ ∀ tick, 0 < S.L.length → ¬ tick < S.oldest → ¬ S.newest < tick → (tick - S.oldest).toNat < S.L.length := by
  obtain ⟨m, R, _, hi, rfl, h1, h2, h3⟩ := h
  have hl : (seen m R).L.length = R.ents.length := by simp [seen]
  rw [seen_newest, seen_oldest, hl]
  refine ⟨hi.newest_ge, h2, fun h0 => ?_, fun tick h0 h1 h2 => ?_⟩
  · rw [RingS.oldest, dif_pos h0]; exact hi.first h0
  · obtain ⟨k, hk, hkl, _⟩ := hi.find tick h0 h1 h2
    rw [← hk]; exact hkl
theorem PlS.ticks (h : PlS W p r q A aa ca acts x S n T G a b c v Sr w) : -1 ≤ S.newest ∧ S.newest ≤ T ∧ (0 < S.L.length → 0 ≤ S.oldest) ∧ ∀ tick, 0 < S.L.length → ¬ tick < S.oldest → ¬ S.newest < tick → (tick - S.oldest).toNat < S.L.length := by
  obtain ⟨F, hF, _⟩ := h.own
  exact obj_ticks hF

theorem PlS.put (h : PlS W p r q A aa ca acts x S n T G a b c v Sr w) : PlS W p r q A aa ca acts x S n T G a' b' c' v Sr (((w.setCell ⟨q, 0, none⟩ a').setCell ⟨q, 1, none⟩ b').setCell ⟨q, 2, none⟩ c') := by
  refine h.stored ((((Fr.refl _ _).setCell (.inl (by simp)) _).setCell (.inl (by simp)) _).setCell (.inl (by simp)) _) ?_
  rw [setCell_blk (setCell_blk (setCell_blk h.qb 0 a') 1 b') 2 c']
  rfl

/-- the state before the comparison in a round -/
def PlMid (W : World) (p r q A : Nat) (aa : Option Addr) (ca : Nat) (acts : List (Int × Int × Int)) (x : Int × Int × Int) (i : Nat) (w : World) : Prop :=
  ∃ S G a b c, PlS W p r q A aa ca acts x S ((i : Int) + 1) (200 + ((i : Int) + 1)) G a b c (.agg #[a, b, c]) S w
theorem PlS.mid {i : Nat} (h : PlS W p r q A aa ca acts x S n T G a b c (.agg #[a, b, c]) S w) (hn : n ≤ (i : Int) + 1) (hT : T ≤ 200 + ((i : Int) + 1)) : PlMid W p r q A aa ca acts x i w := ⟨S, G, a, b, c, h.mono hn hT⟩

/-- the state at the head of the loop -/
def PlInv (W : World) (p r q : Nat) (aa : Option Addr) (ca : Nat) (acts : List (Int × Int × Int)) (i : Nat) (w : World) : Prop :=
  ∃ S G a b c, OwnG (objX p r S i (200 + i)) W (q :: (blk aa ++ G)) w ∧ w.heap[q]? = some (.cells #[a, b, c] 45 (0, 0)) ∧ IsRef w G (.agg #[a, b, c]) S ∧ actsZ aa ca acts w ∧ q ∉ blk aa ++ G

theorem PlS.next (h : PlS W p r q A aa ca acts x S n T G a b c (.agg #[a, b, c]) S w) {i : Nat} (hn : n ≤ (i : Int)) (hT : T ≤ 200 + (i : Int)) : PlInv W p r q aa ca acts i w :=
  ⟨S, G, a, b, c, (h.own.sub fun k hk => by simp only [List.mem_cons] at hk ⊢; rcases hk with h | h; exact .inl h; exact .inr (.inr h)).mono fun F hF => IsObj.mono hF hn hT, h.qb, h.ref, h.acts, fun hm => h.qn (List.mem_cons_of_mem _ hm)⟩

theorem PlInv.start {i : Nat} (hG : OwnG (objX p r S i (200 + i)) W (q :: (blk aa ++ G)) w) (hq : w.heap[q]? = some (.cells #[a, b, c] 45 (0, 0))) (hr : IsRef w G (.agg #[a, b, c]) S) (ha : actsZ aa ca acts w) (hn : q ∉ blk aa ++ G) (x : Int × Int × Int) :
    PlS W p r q w.heap.size aa ca acts x S i (200 + i) G a b c (.agg #[a, b, c]) S (w.alloc (.cells #[.int .i64 x.1, .int .i64 x.2.1, .int .i64 x.2.2] 40)) := by
  have hf : Fr [] w (w.alloc (.cells #[.int .i64 x.1, .int .i64 x.2.1, .int .i64 x.2.2] 40)) := (Fr.refl _ _).alloc _
  have g := hG.gnew
  have hs : w.heap.size < (w.alloc (.cells #[.int .i64 x.1, .int .i64 x.2.1, .int .i64 x.2.2] 40)).heap.size := by simp
  refine ⟨hG.own (objX_frm _ _ _ _ _) hf (by simp) (fun k hk => ?_), alloc_old hq, alloc_new _ _, hr.fr (fun k hk => (g k (by simp [hk])).2) hf, Seg.alloc ha _, fun hm => ?_⟩
  · simp only [List.mem_cons] at hk
    rcases hk with rfl | rfl | hk
    · exact ⟨.inl (by simp), Nat.lt_trans (g k (by simp)).2 hs⟩
    · exact ⟨.inr (Nat.le_refl _), hs⟩
    · exact ⟨.inl (List.mem_cons_of_mem _ hk), Nat.lt_trans (g k (List.mem_cons_of_mem _ hk)).2 hs⟩
  · simp only [List.mem_cons] at hm
    rcases hm with rfl | hm
    · have := (g w.heap.size (by simp)).2; omega
    · exact hn hm
end
end Go.Proofs.Ytchigfofcdildaa
