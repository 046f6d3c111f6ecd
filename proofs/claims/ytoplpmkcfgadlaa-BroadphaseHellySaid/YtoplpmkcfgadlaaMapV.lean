/- Maps from int to values of any kind: which entries lie there. -/
import Derived.Test.YtoplpmkcfgadlaaBase
import Derived.Test.YtoplpmkcfgadlaaProg
import Derived.Maps.OwnSet
import Derived.Maps.RangeWalk
import Derived.WalkArith
namespace Go.Proofs.Ytoplpmkcfgadlaa
open Go.RowKit Go.Maps

namespace MV
theorem lawI : Keyed Try.prog 3 := int_keyed Try.underlying3
def fits (k : Int) : Prop := -9223372036854775808 ≤ k ∧ k ≤ 9223372036854775807
theorem WF {k : Int} (h : fits k) : (Lit.int .i64 k).wf = true := WalkArith.wf_i64 h
theorem of_wf {k : Int} (h : (Lit.int .i64 k).wf = true) : fits k := by
  have h1 : IntKind.i64.min ≤ k ∧ k ≤ IntKind.i64.max := by simpa [Lit.wf] using h
  have e1 : IntKind.i64.min = -9223372036854775808 := rfl
  have e2 : IntKind.i64.max = 9223372036854775807 := rfl
  unfold fits; omega
theorem keyI {k : Int} (h : fits k) : keyOf Try.prog 3 (.int .i64 k) = some (.int .i64 k) := keyOf_int_mk Try.underlying3 (WF h)
theorem key_is {k : Int} : WideAt.IsKeyLit (.int .i64 k) := by trivial
theorem key_ne {x k : Int} (h : x ≠ k) : (Lit.int .i64 x) ≠ (Lit.int .i64 k) := fun e => h (by cases e; rfl)
/-- how an element reads: it is held as it is -/
def heldE : Value → Option (DataW Value × List MemPlace) := fun v => some (.held v, [])
theorem heldE_eq (v : Value) : heldE v = some (.held v, []) := rfl
theorem heldE_inv {v d : Value} {ps : List MemPlace} (h : heldE v = some (.held d, ps)) : v = d := by
  have h1 : some ((DataW.held v : DataW Value), ([] : List MemPlace)) = some (.held d, ps) := h
  simpa using (Option.some.inj h1 ▸ rfl : (DataW.held v : DataW Value) = ((DataW.held d : DataW Value), ps).1)
end MV
open MV

/-- D holds just the entries L -/
structure Lays (D : DataW Value) (L : List (Int × Value)) : Prop where
  size : Maps.size D = L.length
  tidy : Maps.Tidy D
  nodup : (L.map (·.1)).Nodup
  fit : ∀ e ∈ L, fits e.1
  has : ∀ k, fits k → Maps.has D (.int .i64 k) = L.any (·.1 == k)
  at_ : ∀ e ∈ L, ∀ z, D.atKey (.int .i64 e.1) z = .held e.2
/-- block b is a map in which just the entries L lie -/
def IsV (w : World) (b : Nat) (L : List (Int × Value)) : Prop := ∃ D : DataW Value, w.ownsMap Try.prog 3 heldE b L.length D ∧ Lays D L

section
variable {w w' : World} {b r : Nat} {L M : List (Int × Value)} {S : List Nat}
theorem Lays.perm {D : DataW Value} {L' : List (Int × Value)} (h : Lays D L) (hp : L.Perm L') : Lays D L' := by
  refine ⟨by rw [h.size, hp.length_eq], h.tidy, (hp.map _).nodup_iff.1 h.nodup, fun e he => h.fit e (hp.mem_iff.2 he), fun k hk => ?_, fun e he => h.at_ e (hp.mem_iff.2 he)⟩
  rw [h.has k hk, Bool.eq_iff_iff, List.any_eq_true, List.any_eq_true]
  exact ⟨fun ⟨x, hx, h2⟩ => ⟨x, hp.mem_iff.1 hx, h2⟩, fun ⟨x, hx, h2⟩ => ⟨x, hp.mem_iff.2 hx, h2⟩⟩
theorem IsV.perm {L' : List (Int × Value)} (h : IsV w b L) (hp : L.Perm L') : IsV w b L' := by
  obtain ⟨D, h1, h2⟩ := h
  exact ⟨D, by rw [← hp.length_eq]; exact h1, h2.perm hp⟩
theorem IsV.lt (h : IsV w b L) : b < w.heap.size := let ⟨_, h1, _⟩ := h; h1.lt
theorem IsV.fr (h : IsV w b L) (hf : Fr S w w') (hb : b ∉ S) : IsV w' b L := by
  obtain ⟨D, ⟨es, clock, h1, h2⟩, h3⟩ := h
  exact ⟨D, ⟨es, clock, hf.blk h1 hb, h2⟩, h3⟩
theorem IsV.nodup (h : IsV w b L) : (L.map (·.1)).Nodup := let ⟨_, _, h1⟩ := h; h1.nodup
theorem IsV.fit (h : IsV w b L) : ∀ e ∈ L, fits e.1 := let ⟨_, _, h1⟩ := h; h1.fit
theorem isV_made (w : World) : IsV (w.alloc (.map #[] 0)) w.heap.size [] :=
  ⟨.map [], World.ownsMap_made _ _ _ _, ⟨rfl, tidy_empty, List.nodup_nil, by simp, fun _ _ => rfl, by simp⟩⟩
theorem IsV.isMap (h : IsV w b L) : ∃ es clock, w.heap[b]? = some (.map es clock) := by
  obtain ⟨D, ⟨es, clock, h1, _⟩, _⟩ := h
  exact ⟨es, clock, h1⟩
theorem turned_fr (h : w.mapTurned w' b) : Fr [b] w w' := by
  obtain ⟨es, clock, es', clock', hb, rfl⟩ := h
  refine ⟨rfl, rfl, rfl, by simp [ChangeMaps.setBlock], fun k hk hn => ?_⟩
  exact ChangeMaps.heap_setBlock_other hb _ (by simpa using hn)
theorem turned_size (h : w.mapTurned w' b) : w'.heap.size = w.heap.size := by
  obtain ⟨es, clock, es', clock', hb, rfl⟩ := h
  simp [ChangeMaps.setBlock]

/-- what lies at a key -/
theorem IsV.look (h : IsV w b L) {T E : TypeId} (hT : Try.prog.underlying T = some (.map 3 E)) {z : Value} (hz : (zeroValue E).run Try.prog w = .ok z w) {k : Int} (hk : fits k) {v : Value} (hv : (k, v) ∈ L) :
    (Instr.lookup T (.map (some b)) (.int .i64 k) true).run Try.prog w = .ok (.tuple #[v, .bool true]) w := by
  obtain ⟨D, a, c⟩ := h
  obtain ⟨x, ps, hr, hx⟩ := a.look_ok lawI hT hz (heldE_eq z) (keyI hk)
  rw [hr, c.has k hk, List.any_eq_true.2 ⟨_, hv, by simp⟩]
  rw [c.at_ _ hv] at hx
  rw [heldE_inv hx]
theorem IsV.look_no (h : IsV w b L) {T E : TypeId} (hT : Try.prog.underlying T = some (.map 3 E)) {z : Value} (hz : (zeroValue E).run Try.prog w = .ok z w) {k : Int} (hk : fits k) (hn : ∀ e ∈ L, e.1 ≠ k) :
    (Instr.lookup T (.map (some b)) (.int .i64 k) true).run Try.prog w = .ok (.tuple #[z, .bool false]) w := by
  obtain ⟨D, a, c⟩ := h
  obtain ⟨x, ps, hr, hx⟩ := a.look_ok lawI hT hz (heldE_eq z) (keyI hk)
  have hh : Maps.has D (.int .i64 k) = false := by
    rw [c.has k hk, List.any_eq_false]
    intro e he
    simpa using hn e he
  rw [hr, hh]
  rw [atKey_of_not_has hh] at hx
  rw [heldE_inv hx]
theorem IsV.look1 (h : IsV w b L) {T E : TypeId} (hT : Try.prog.underlying T = some (.map 3 E)) {z : Value} (hz : (zeroValue E).run Try.prog w = .ok z w) {k : Int} (hk : fits k) {v : Value} (hv : (k, v) ∈ L) :
    (Instr.lookup T (.map (some b)) (.int .i64 k) false).run Try.prog w = .ok v w := by
  obtain ⟨D, a, c⟩ := h
  obtain ⟨x, ps, hr, hx⟩ := a.lookup lawI hT hz (heldE_eq z) (keyI hk)
  rw [hr]
  rw [c.at_ _ hv] at hx
  rw [heldE_inv hx]
/-- a store at a new key -/
theorem IsV.store_new (h : IsV w b L) {T E : TypeId} (hT : Try.prog.underlying T = some (.map 3 E)) (hl : L.length < maxLen) {k : Int} (hk : fits k) (hn : ∀ e ∈ L, e.1 ≠ k) (v : Value) :
    ∃ w', (Instr.mapUpdate T (.map (some b)) (.int .i64 k) v).run Try.prog w = .ok () w' ∧ IsV w' b (L ++ [(k, v)]) ∧ Fr [b] w w' ∧ w'.heap.size = w.heap.size := by
  obtain ⟨D, a, c⟩ := h
  obtain ⟨w', hr, ho, ht⟩ := a.store lawI hT hl (keyI hk) (heldE_eq v)
  have hh : Maps.has D (.int .i64 k) = false := by
    rw [c.has k hk, List.any_eq_false]
    intro e he
    simpa using hn e he
  refine ⟨w', hr, ⟨_, by simpa using ho, ⟨?_, c.tidy.put key_is _, ?_, ?_, fun x hx => ?_, fun e he z => ?_⟩⟩, turned_fr ht, turned_size ht⟩
  · rw [size_put c.tidy, hh, c.size]; simp
  · rw [List.map_append, List.nodup_append]
    refine ⟨c.nodup, by simp, ?_⟩
    intro x hx y hy
    obtain ⟨e, he, rfl⟩ := List.mem_map.1 hx
    simp at hy
    rw [hy]
    exact hn e he
  · intro e he
    rcases List.mem_append.1 he with q | q
    · exact c.fit e q
    · simp at q; rw [q]; exact hk
  · rw [List.any_append]
    by_cases e : x = k
    · subst e
      rw [has_put_same c.tidy.isMap key_is]; simp
    · rw [has_put_other (key_ne e), c.has x hx]
      have e2 : (k == x) = false := beq_eq_false_iff_ne.2 (fun h => e h.symm)
      simp [e2]
  · rcases List.mem_append.1 he with q | q
    · rw [atKey_put_other (key_ne (hn e q)), c.at_ e q]
    · simp at q; rw [q]; exact atKey_put_same c.tidy.isMap key_is _ _
/-- a store at a key that is there -/
theorem IsV.store_old (h : IsV w b L) {T E : TypeId} (hT : Try.prog.underlying T = some (.map 3 E)) (hl : L.length < maxLen) {k : Int} (hk : fits k) {v0 : Value} (hv0 : (k, v0) ∈ L) (v : Value) :
    ∃ w', (Instr.mapUpdate T (.map (some b)) (.int .i64 k) v).run Try.prog w = .ok () w' ∧ IsV w' b (L.map fun e => if e.1 = k then (k, v) else e) ∧ Fr [b] w w' ∧ w'.heap.size = w.heap.size := by
  obtain ⟨D, a, c⟩ := h
  obtain ⟨w', hr, ho, ht⟩ := a.store lawI hT hl (keyI hk) (heldE_eq v)
  have hh : Maps.has D (.int .i64 k) = true := by
    rw [c.has k hk, List.any_eq_true]; exact ⟨_, hv0, by simp⟩
  have hsz : Maps.size (D.put (.int .i64 k) (.held v)) = L.length := by rw [size_put c.tidy, hh, c.size]; simp
  have hkeys : (L.map fun e => if e.1 = k then (k, v) else e).map (·.1) = L.map (·.1) := by
    rw [List.map_map]
    refine List.map_congr_left fun e _ => ?_
    show (if e.1 = k then (k, v) else e).1 = e.1
    split
    · rename_i h; exact h.symm
    · rfl
  refine ⟨w', hr, ⟨_, ?_, ⟨by rw [hsz, List.length_map], c.tidy.put key_is _, by rw [hkeys]; exact c.nodup, ?_, fun x hx => ?_, fun e he z => ?_⟩⟩, turned_fr ht, turned_size ht⟩
  · obtain ⟨es, clock, o1, o2, o3, o4⟩ := ho
    refine ⟨es, clock, o1, o2, ?_, o4⟩
    rw [o4] at hsz
    simp only [Maps.size, length_sorted, List.length_map, Array.length_toList] at hsz
    rw [List.length_map]; omega
  · intro e he
    obtain ⟨e0, he0, rfl⟩ := List.mem_map.1 he
    split
    · exact hk
    · exact c.fit e0 he0
  · have e3 : ∀ L : List (Int × Value), L.any (fun e => e.1 == x) = (L.map (·.1)).any (· == x) := fun L => by rw [List.any_map]; rfl
    rw [e3, hkeys, ← e3]
    by_cases e : x = k
    · subst e
      rw [has_put_same c.tidy.isMap key_is, List.any_eq_true.2 ⟨_, hv0, by simp⟩]
    · rw [has_put_other (key_ne e), c.has x hx]
  · obtain ⟨e0, he0, rfl⟩ := List.mem_map.1 he
    by_cases h2 : e0.1 = k
    · rw [if_pos h2]; exact atKey_put_same c.tidy.isMap key_is _ _
    · rw [if_neg h2, atKey_put_other (key_ne h2), c.at_ e0 he0]
theorem nodup_filter_len {k : Int} : ∀ {L : List (Int × Value)}, (L.map (·.1)).Nodup → (L.filter fun e => e.1 != k).length + (if L.any (·.1 == k) then 1 else 0) = L.length
  | [], _ => rfl
  | e :: L, h => by
    rw [List.map_cons, List.nodup_cons] at h
    have ih := nodup_filter_len (k := k) h.2
    by_cases h2 : e.1 = k
    · have hn : L.any (fun e => e.1 == k) = false := by
        rw [List.any_eq_false]
        intro x hx hxe
        exact h.1 (by rw [h2, ← beq_iff_eq.1 hxe]; exact List.mem_map_of_mem hx)
      rw [hn] at ih
      simp only [Bool.false_eq_true, if_false] at ih
      have e1 : (e.1 != k) = false := by simp [h2]
      have e2 : (e.1 == k) = true := by simp [h2]
      rw [List.filter_cons, e1, List.any_cons, e2, Bool.true_or, if_pos rfl, if_neg (by decide), List.length_cons]; omega
    · have e1 : (e.1 != k) = true := by simpa using h2
      have e2 : (e.1 == k) = false := by simpa using h2
      rw [List.filter_cons, e1, List.any_cons, e2, Bool.false_or, if_pos rfl, List.length_cons, List.length_cons]; omega
theorem Lays.del {D : DataW Value} (c : Lays D L) {k : Int} (hk : fits k) : Lays (D.del (.int .i64 k)) (L.filter fun e => e.1 != k) := by
  refine ⟨?_, c.tidy.del _, (List.filter_sublist.map _).nodup c.nodup, fun e he => c.fit e (List.mem_filter.1 he).1, fun x hx => ?_, fun e he z => ?_⟩
  · have h1 := size_del (k := .int .i64 k) c.tidy
    have h2 := nodup_filter_len (k := k) c.nodup
    rw [c.has k hk, c.size] at h1
    omega
  · by_cases e : x = k
    · subst e
      rw [has_del_same]
      symm
      rw [List.any_eq_false]
      intro e he
      have := (List.mem_filter.1 he).2
      simpa using this
    · rw [has_del_other (key_ne e), c.has x hx, Bool.eq_iff_iff, List.any_eq_true, List.any_eq_true]
      constructor
      · rintro ⟨y, hy, h2⟩
        refine ⟨y, List.mem_filter.2 ⟨hy, ?_⟩, h2⟩
        have := beq_iff_eq.1 h2
        simp [this, e]
      · rintro ⟨y, hy, h2⟩
        exact ⟨y, (List.mem_filter.1 hy).1, h2⟩
  · obtain ⟨h1, h2⟩ := List.mem_filter.1 he
    rw [atKey_del_other (key_ne (by simpa using h2)), c.at_ e h1]
/-- delete -/
theorem IsV.drop (h : IsV w b L) {T E : TypeId} (hT : Try.prog.underlying T = some (.map 3 E)) {k : Int} (hk : fits k) (ty : TypeId) :
    ∃ w', (Builtin.delete_ #[T, 3] ty #[.map (some b), .int .i64 k]).run Try.prog w = .ok (.tuple #[]) w' ∧ IsV w' b (L.filter fun e => e.1 != k) ∧ Fr [b] w w' ∧ w'.heap.size = w.heap.size := by
  obtain ⟨D, a, c⟩ := h
  obtain ⟨w', hr, ho, ht⟩ := a.drop lawI hT (keyI hk) ty
  have c2 := c.del hk
  refine ⟨w', hr, ⟨_, ?_, c2⟩, turned_fr ht, turned_size ht⟩
  obtain ⟨es, clock, o1, o2, o3, o4⟩ := ho
  refine ⟨es, clock, o1, o2, ?_, o4⟩
  have hsz := c2.size
  rw [o4] at hsz
  simp only [Maps.size, length_sorted, List.length_map, Array.length_toList] at hsz
  omega
theorem IsV.len (h : IsV w b L) {T E : TypeId} (hT : Try.prog.underlying T = some (.map 3 E)) (ty : TypeId) : (Builtin.len_ #[T] ty #[.map (some b)]).run Try.prog w = .ok (.int .i64 (L.length : Int)) w := by
  obtain ⟨D, a, c⟩ := h
  rw [a.len hT ty, c.size]

/-- a loop over the map is under way: the entries M are still to come -/
def IsR (w : World) (b r : Nat) (L M : List (Int × Value)) : Prop := ∃ (D : DataW Value) (left : Lit → Bool) (cnt : Nat), w.ranges Try.prog 3 heldE b r L.length D left cnt ∧ Lays D L ∧ (∀ e ∈ M, e ∈ L) ∧ ∀ k, fits k → left (.int .i64 k) = M.any (·.1 == k)
theorem IsR.isV (h : IsR w b r L M) : IsV w b L := by
  obtain ⟨D, left, cnt, h1, h2, _⟩ := h
  exact ⟨D, h1.owns, h2⟩
theorem IsR.sub (h : IsR w b r L M) : ∀ e ∈ M, e ∈ L := let ⟨_, _, _, _, _, h1, _⟩ := h; h1
theorem IsR.lt (h : IsR w b r L M) : r < w.heap.size := let ⟨_, _, _, h1, _⟩ := h; h1.lt
theorem IsR.ne (h : IsR w b r L M) : r ≠ b := let ⟨_, _, _, h1, _⟩ := h; h1.ne
theorem IsR.fr (h : IsR w b r L M) (hf : Fr S w w') (hb : b ∉ S) (hr : r ∉ S) : IsR w' b r L M ∧ w'.rangeLeft b r = w.rangeLeft b r := by
  obtain ⟨D, left, cnt, h1, h2⟩ := h
  have e1 := h1.left_eq
  have hlb := h1.owns.lt
  have hlr := h1.lt
  obtain ⟨es, clock, since, seen, c0, q1, q2, q3, q4, q5, q6⟩ := h1
  have h3 : w'.ranges Try.prog 3 heldE b r L.length D left cnt := ⟨es, clock, since, seen, c0, hf.blk q1 hb, q2, q3, q4, hf.blk q5 hr, q6⟩
  exact ⟨⟨D, left, cnt, h3, h2⟩, by rw [h3.left_eq, e1]⟩
theorem grown_fr {q : Nat} (h : w.grownBy w' (some q)) : Fr [q] w w' := ⟨h.os, h.tape, h.output, h.size, fun i hi hn => h.block i hi (fun e => hn (by cases e; simp))⟩
theorem grown_fr0 (h : w.grownBy w' none) : Fr [] w w' := ⟨h.os, h.tape, h.output, h.size, fun i hi _ => h.block i hi (by simp)⟩
end

section
variable {w : World} {ops : Array Oper} {rest : List Oper} {o : Oper} {a : Act} {Q : Exit → Act → World → Prop} {b r : Nat} {L M : List (Int × Value)}
theorem wpList_range_V (hg : o.guard = none) (m : Operand) (T : TypeId) (hop : o.op = Op.range T m) (E : TypeId) (hT : Try.prog.underlying T = some (.map 3 E)) (hm : a.eval m = .map (some b)) (h : IsV w b L)
    (hK : ∀ w', IsR w' b w.heap.size L L → Fr [] w w' → wpList Try.prog ops Q rest (a.put o.dst (.pointer (some ⟨w.heap.size, 0, none⟩))) w') :
    wpList Try.prog ops Q (o :: rest) a w := by
  obtain ⟨D, h1, h2⟩ := h
  exact wpList_range_own w hg m T hop 3 E lawI hT heldE b L.length D hm h1 fun w' r1 r2 _ => hK w' ⟨D, _, _, r1, h2, fun _ h => h, h2.has⟩ (grown_fr0 r2)
theorem wpList_next_V (hg : o.guard = none) (it : Operand) (hop : o.op = Op.next it false) (hit : a.eval it = .pointer (some ⟨r, 0, none⟩)) (h : IsR w b r L M)
    (hDone : M = [] → wpList Try.prog ops Q rest (a.put o.dst (.tuple #[.bool false])) w)
    (hMore : ∀ (x : Int) (v : Value) (w' : World), (x, v) ∈ M → fits x → IsR w' b r L (M.filter fun e => e.1 != x) → w'.rangeLeft b r < w.rangeLeft b r → Fr [r] w w' → (Instr.entry (.pointer (some ⟨r, 0, none⟩))).run Try.prog w' = .ok (.tuple #[.int .i64 x, v]) w' →
      wpList Try.prog ops Q rest (a.put o.dst (.tuple #[.bool true, .int .i64 x, v])) w') :
    wpList Try.prog ops Q (o :: rest) a w := by
  obtain ⟨D, left, cnt, h1, h2, h3, h4⟩ := h
  have hleft := h1.left_eq
  refine wpList_next_ranges w hg it hop 3 lawI heldE (Value.int .i64) id (fun key kl hkey => by obtain ⟨x, rfl, _⟩ := Maps.keyOf_int_inv Try.underlying3 hkey; exact ⟨x, rfl⟩) (fun v y _ => ⟨v, rfl⟩) b r L.length D left cnt hit h1 (fun h0 hl => hDone ?_) ?_
  · cases M with
    | nil => rfl
    | cons e M =>
      have hfe := h2.fit e (h3 e (by simp))
      have := h4 e.1 hfe
      rw [hl] at this
      simp at this
  · intro x c kl y w' cnt' hkey hlk hv hat hrg hlt hgr hsz hen
    obtain ⟨x', ex, rfl, hwx⟩ := Maps.keyOf_int_inv Try.underlying3 hkey
    cases ex
    have hfx := of_wf hwx
    rw [h4 x hfx, List.any_eq_true] at hlk
    obtain ⟨e, heM, hex⟩ := hlk
    have hex := beq_iff_eq.1 hex
    have hat2 := h2.at_ e (h3 e heM) (.held c)
    rw [hex, hat (.held c)] at hat2
    have hce : c = e.2 := by
      obtain ⟨y1, y2⟩ := y
      have hy : y1 = .held e.2 := hat2
      rw [hy] at hv
      exact heldE_inv hv
    refine hMore x c w' ?_ hfx ⟨D, _, cnt', hrg, h2, fun e he => h3 e (List.mem_filter.1 he).1, fun k hk => ?_⟩ ?_ (grown_fr hgr) hen
    · rw [hce, ← hex]; exact heM
    · show (left (.int .i64 k) && !(Lit.int .i64 k).sameKey (.int .i64 x)) = _
      rw [h4 k hk]
      by_cases hkx : k = x
      · subst hkx
        rw [WideAt.sameKey_self key_is]
        simp
      · rw [sameKey_ne (key_ne hkx), Bool.not_false, Bool.and_true, Bool.eq_iff_iff, List.any_eq_true, List.any_eq_true]
        constructor
        · rintro ⟨y, hy, h2⟩
          refine ⟨y, List.mem_filter.2 ⟨hy, ?_⟩, h2⟩
          have := beq_iff_eq.1 h2
          simp [this, hkx]
        · rintro ⟨y, hy, h2⟩
          exact ⟨y, (List.mem_filter.1 hy).1, h2⟩
    · rw [hrg.left_eq, hleft]; exact hlt
theorem wpList_delete_V (hg : o.guard = none) (m x : Operand) (T : TypeId) (hop : o.op = Op.call { callee := Callee.builtin Builtin.delete, args := #[m, x], argTypes := #[T, 3] }) (E : TypeId) (hT : Try.prog.underlying T = some (.map 3 E)) (k : Int) (hk : fits k)
    (hm : a.eval m = .map (some b)) (hx : a.eval x = .int .i64 k) (h : IsV w b L) (hK : ∀ w', IsV w' b (L.filter fun e => e.1 != k) → Fr [b] w w' → wpList Try.prog ops Q rest (a.put o.dst (.tuple #[])) w') :
    wpList Try.prog ops Q (o :: rest) a w := by
  refine wpList_plain hg fun K' hK' => ?_
  obtain ⟨w', hrun, r1, r2, -⟩ := h.drop hT hk o.type
  unfold Oper.wp
  simp [execOp, hop, resolve, invoke, builtin, hm, hx, hrun, Result.andThen]
  exact hK' _ _ (hK w' r1 r2)
/-- the step where every element has one shape -/
theorem wpList_next_Vm {β : Type} (mk : β → Value) (hmk : ∀ e ∈ L, ∃ y, e.2 = mk y) (hg : o.guard = none) (it : Operand) (hop : o.op = Op.next it false) (hit : a.eval it = .pointer (some ⟨r, 0, none⟩)) (h : IsR w b r L M)
    (hDone : M = [] → wpList Try.prog ops Q rest (a.put o.dst (.tuple #[.bool false])) w)
    (hMore : ∀ (x : Int) (y : β) (w' : World), (x, mk y) ∈ M → fits x → IsR w' b r L (M.filter fun e => e.1 != x) → w'.rangeLeft b r < w.rangeLeft b r → Fr [r] w w' → (Instr.entry (.pointer (some ⟨r, 0, none⟩))).run Try.prog w' = .ok (.tuple #[.int .i64 x, mk y]) w' →
      wpList Try.prog ops Q rest (a.put o.dst (.tuple #[.bool true, .int .i64 x, mk y])) w') :
    wpList Try.prog ops Q (o :: rest) a w :=
  wpList_next_V hg it hop hit h hDone fun x v w' hm hf hr hl hfr hen => by
    obtain ⟨y, hy⟩ := hmk _ (h.sub _ hm)
    have hy : v = mk y := hy
    subst hy
    exact hMore x y w' hm hf hr hl hfr hen
end
end Go.Proofs.Ytoplpmkcfgadlaa
