/- FeedP, MapV, Own, FeedSt, Clone30, FeedM (merged by merge.py). -/
import Derived.Test.YtodfeaipoagphaaZ307
import Derived.Test.YtodfeaipoagphaaZ300
import Derived.Test.YtodfeaipoagphaaProg
import Derived.Maps.OwnSet
import Derived.Maps.RangeWalk
import Derived.WalkArith
import Derived.Test.YtodfeaipoagphaaZ305
import Derived.Lib.SliceRun
import Derived.StillTailTactics
/- Package feed, plain: what a store of views keeps, what a packet holds. -/
namespace Go.Proofs.Ytodfeaipoagphaa

structure FE where
  tick : Int
  view : List (Int × Int)
  acked : Bool
structure FS where
  keep : Nat
  next : Int
  L : List FE
structure FS.Good (s : FS) : Prop where
  k0 : 1 ≤ s.keep
  k1 : s.keep ≤ 64
  len : s.L.length ≤ s.keep
  n0 : 0 ≤ s.next
  n1 : s.next ≤ 1000000
  rise : s.L.Pairwise (fun a b => a.tick < b.tick)
  tick : ∀ e ∈ s.L, 0 ≤ e.tick ∧ e.tick < s.next
  view : ∀ e ∈ s.L, IsView e.view ∧ e.view.length ≤ 12
def fnew (k : Nat) : FS := ⟨k, 0, []⟩
theorem fnew_good {k : Nat} (h0 : 1 ≤ k) (h1 : k ≤ 64) : (fnew k).Good := ⟨h0, h1, by simp [fnew], by simp [fnew], by simp [fnew], by simp [fnew], by simp [fnew], by simp [fnew]⟩
def FS.put (s : FS) (t : Int) (v : List (Int × Int)) : FS := ⟨s.keep, t + 1, (s.L ++ ([⟨t, v, false⟩] : List FE)).drop (s.L.length + 1 - s.keep)⟩
def FS.ack (s : FS) (t : Int) : FS := ⟨s.keep, s.next, s.L.map fun e => if e.tick = t then ⟨e.tick, e.view, true⟩ else e⟩
def FS.has (s : FS) (t : Int) : Bool := s.L.any (·.tick == t)
/-- the acknowledged entry with the greatest tick -/
def lastA : List FE → Option FE
  | [] => none
  | e :: L => match lastA L with | some x => some x | none => if e.acked then some e else none
def FS.base (s : FS) : List (Int × Int) := match lastA s.L with | some e => e.view | none => []
def FS.ref (s : FS) : Nat := match lastA s.L with | some e => (e.tick + 1).toNat | none => 0
/-- the bytes of a packet -/
def FS.bytes (s : FS) (t : Nat) (v : List (Int × Int)) : List Nat := varN t ++ varN s.ref ++ diffL s.base v

theorem lastA_some : ∀ {L : List FE} {e : FE}, lastA L = some e → e ∈ L ∧ e.acked = true
  | [], _, h => by cases h
  | x :: L, e, h => by
    unfold lastA at h
    cases h2 : lastA L with
    | some y =>
      rw [h2] at h
      cases h
      have := lastA_some h2
      exact ⟨List.mem_cons_of_mem _ this.1, this.2⟩
    | none =>
      rw [h2] at h
      simp only at h
      split at h
      · rename_i ha; cases h; exact ⟨by simp, ha⟩
      · cases h
theorem lastA_none : ∀ {L : List FE}, lastA L = none → ∀ e ∈ L, e.acked = false
  | [], _, e, he => by simp at he
  | x :: L, h, e, he => by
    unfold lastA at h
    cases h2 : lastA L with
    | some y => rw [h2] at h; cases h
    | none =>
      rw [h2] at h
      simp only at h
      split at h
      · cases h
      · rename_i ha
        rcases List.mem_cons.1 he with rfl | he
        · simpa using ha
        · exact lastA_none h2 e he
theorem lastA_max : ∀ {L : List FE} {e : FE}, L.Pairwise (fun a b => a.tick < b.tick) → lastA L = some e → ∀ x ∈ L, x.acked = true → x.tick ≤ e.tick
  | [], _, _, h, _, _, _ => by cases h
  | y :: L, e, hp, h, x, hx, hxa => by
    obtain ⟨h1, h2⟩ := List.pairwise_cons.1 hp
    unfold lastA at h
    cases h3 : lastA L with
    | some z =>
      rw [h3] at h
      cases h
      rcases List.mem_cons.1 hx with rfl | hx
      · exact Int.le_of_lt (h1 e (lastA_some h3).1)
      · exact lastA_max h2 h3 x hx hxa
    | none =>
      rw [h3] at h
      simp only at h
      split at h
      · cases h
        rcases List.mem_cons.1 hx with rfl | hx
        · exact Int.le_refl _
        · rw [lastA_none h3 x hx] at hxa; cases hxa
      · cases h
theorem FS.Good.uniq {s : FS} (h : s.Good) {a b : FE} (ha : a ∈ s.L) (hb : b ∈ s.L) (e : a.tick = b.tick) : a = b := by
  have key : ∀ {L : List FE}, L.Pairwise (fun a b => a.tick < b.tick) → a ∈ L → b ∈ L → a = b := by
    intro L hp ma mb
    induction L with
    | nil => simp at ma
    | cons x L ih =>
      obtain ⟨h1, h2⟩ := List.pairwise_cons.1 hp
      rcases List.mem_cons.1 ma with q | q
      · rcases List.mem_cons.1 mb with r | r
        · rw [q, r]
        · have := h1 b r; rw [← q] at this; omega
      · rcases List.mem_cons.1 mb with r | r
        · have := h1 a q; rw [← r] at this; omega
        · exact ih h2 q r
  exact key h.rise ha hb
theorem FS.Good.put {s : FS} (h : s.Good) {t : Int} {v : List (Int × Int)} (ht : s.next ≤ t) (ht2 : t < 1000000) (hv : IsView v) (hl : v.length ≤ 12) : (s.put t v).Good := by
  have hmem : ∀ e ∈ (s.put t v).L, e ∈ s.L ∨ e = ⟨t, v, false⟩ := fun e he => by
    unfold FS.put at he
    have := List.mem_of_mem_drop he
    simpa using this
  have h0 := h.n0
  refine ⟨h.k0, h.k1, ?_, ?_, ?_, ?_, fun e he => ?_, fun e he => ?_⟩
  · show ((s.L ++ [_]).drop _).length ≤ s.keep
    rw [List.length_drop, List.length_append, List.length_singleton]; omega
  · show 0 ≤ t + 1; omega
  · show t + 1 ≤ 1000000; omega
  · refine List.Pairwise.sublist (List.drop_sublist _ _) ?_
    rw [List.pairwise_append]
    refine ⟨h.rise, List.pairwise_singleton _ _, fun a ha b hb => ?_⟩
    simp at hb
    rw [hb]
    have := (h.tick a ha).2
    show a.tick < t
    omega
  · show 0 ≤ e.tick ∧ e.tick < t + 1
    rcases hmem e he with q | q
    · have := h.tick e q; omega
    · rw [q]; show 0 ≤ t ∧ t < t + 1; omega
  · rcases hmem e he with q | q
    · exact h.view e q
    · rw [q]; exact ⟨hv, hl⟩
theorem FS.Good.ack {s : FS} (h : s.Good) (t : Int) : (s.ack t).Good := by
  have hm : ∀ e : FE, (if e.tick = t then (⟨e.tick, e.view, true⟩ : FE) else e).tick = e.tick ∧ (if e.tick = t then (⟨e.tick, e.view, true⟩ : FE) else e).view = e.view := fun e => by split <;> exact ⟨rfl, rfl⟩
  refine ⟨h.k0, h.k1, by show (s.L.map _).length ≤ s.keep; rw [List.length_map]; exact h.len, h.n0, h.n1, ?_, fun e he => ?_, fun e he => ?_⟩
  · show (s.L.map _).Pairwise _
    rw [List.pairwise_map]
    refine h.rise.imp fun {a b} hab => ?_
    rw [(hm a).1, (hm b).1]; exact hab
  · obtain ⟨x, hx, rfl⟩ := List.mem_map.1 he
    rw [(hm x).1]; exact h.tick x hx
  · obtain ⟨x, hx, rfl⟩ := List.mem_map.1 he
    rw [(hm x).2]; exact h.view x hx
theorem FS.Good.base {s : FS} (h : s.Good) : IsView s.base ∧ s.base.length ≤ 12 := by
  unfold FS.base
  cases h2 : lastA s.L with
  | some e => exact h.view e (lastA_some h2).1
  | none => exact ⟨view_nil, by simp⟩
theorem FS.Good.ref {s : FS} (h : s.Good) : (s.ref : Int) ≤ s.next ∧ (s.ref = 0 → s.base = []) ∧ (0 < s.ref → ∃ e ∈ s.L, e.acked = true ∧ e.tick + 1 = (s.ref : Int) ∧ s.base = e.view) := by
  unfold FS.ref FS.base
  have h0 := h.n0
  cases h2 : lastA s.L with
  | some e =>
    obtain ⟨h3, h4⟩ := lastA_some h2
    have h5 := h.tick e h3
    exact ⟨by show ((e.tick + 1).toNat : Int) ≤ _; omega, fun h6 => by have h6 : (e.tick + 1).toNat = 0 := h6; omega, fun _ => ⟨e, h3, h4, by show e.tick + 1 = ((e.tick + 1).toNat : Int); omega, rfl⟩⟩
  | none => exact ⟨by show (0 : Int) ≤ _; omega, fun _ => rfl, fun h3 => by have h3 : 0 < 0 := h3; omega⟩
theorem bytes_len {s : FS} (h : s.Good) {t : Nat} (ht : t < 1000000) {v : List (Int × Int)} (hv : IsView v) (hl : v.length ≤ 12) : (s.bytes t v).length ≤ 400 ∧ BytesB (s.bytes t v) := by
  have h1 := h.base
  have h2 := h.ref.1
  have h3 := h.n1
  have h4 := diffL_len h1.1 hv (by omega) (by omega)
  have h5 := varN_len (show t < 18446744073709551616 by omega)
  have h6 := varN_len (show s.ref < 18446744073709551616 by omega)
  constructor
  · unfold FS.bytes
    rw [List.length_append, List.length_append]
    omega
  · unfold FS.bytes
    exact ((varN_bytes _).app (varN_bytes _)).app (diffL_bytes _ _)
end Go.Proofs.Ytodfeaipoagphaa
/- Maps from int to values of any kind: which entries lie there. -/
namespace Go.Proofs.Ytodfeaipoagphaa
open Go.RowKit Go.Maps

namespace MV
theorem lawI : Keyed Try.prog 3 := int_keyed Try.underlying3
def fits (k : Int) : Prop := -9223372036854775808 ≤ k ∧ k ≤ 9223372036854775807
theorem WF {k : Int} (h : fits k) : (Lit.int .i64 k).wf = true := WalkArith.wf_i64 h
theorem of_wf {k : Int} (h : (Lit.int .i64 k).wf = true) : fits k := by
  have h1 : IntKind.i64.min ≤ k ∧ k ≤ IntKind.i64.max := by simpa [Lit.wf] using h
  have e1 : IntKind.i64.min = -9223372036854775808 := rfl
  have e2 : IntKind.i64.max = 9223372036854775807 := rfl
  unfold fits; omega
theorem keyI {k : Int} (h : fits k) : keyOf Try.prog 3 (.int .i64 k) = some (.int .i64 k) := keyOf_int_mk Try.underlying3 (WF h)
theorem key_is {k : Int} : WideAt.IsKeyLit (.int .i64 k) := by trivial
theorem key_ne {x k : Int} (h : x ≠ k) : (Lit.int .i64 x) ≠ (Lit.int .i64 k) := fun e => h (by cases e; rfl)
/-- how an element reads: it is held as it is -/
def heldE : Value → Option (DataW Value × List MemPlace) := fun v => some (.held v, [])
theorem heldE_eq (v : Value) : heldE v = some (.held v, []) := rfl
theorem heldE_inv {v d : Value} {ps : List MemPlace} (h : heldE v = some (.held d, ps)) : v = d := by
  have h1 : some ((DataW.held v : DataW Value), ([] : List MemPlace)) = some (.held d, ps) := h
  simpa using (Option.some.inj h1 ▸ rfl : (DataW.held v : DataW Value) = ((DataW.held d : DataW Value), ps).1)
end MV
open MV

/-- D holds just the entries L -/
structure Lays (D : DataW Value) (L : List (Int × Value)) : Prop where
  size : Maps.size D = L.length
  tidy : Maps.Tidy D
  nodup : (L.map (·.1)).Nodup
  fit : ∀ e ∈ L, fits e.1
  has : ∀ k, fits k → Maps.has D (.int .i64 k) = L.any (·.1 == k)
  at_ : ∀ e ∈ L, ∀ z, D.atKey (.int .i64 e.1) z = .held e.2
/-- block b is a map in which just the entries L lie -/
def IsV (w : World) (b : Nat) (L : List (Int × Value)) : Prop := ∃ D : DataW Value, w.ownsMap Try.prog 3 heldE b L.length D ∧ Lays D L

section
variable {w w' : World} {b r : Nat} {L M : List (Int × Value)} {S : List Nat}
theorem Lays.perm {D : DataW Value} {L' : List (Int × Value)} (h : Lays D L) (hp : L.Perm L') : Lays D L' := by
  refine ⟨by rw [h.size, hp.length_eq], h.tidy, (hp.map _).nodup_iff.1 h.nodup, fun e he => h.fit e (hp.mem_iff.2 he), fun k hk => ?_, fun e he => h.at_ e (hp.mem_iff.2 he)⟩
  rw [h.has k hk, Bool.eq_iff_iff, List.any_eq_true, List.any_eq_true]
  exact ⟨fun ⟨x, hx, h2⟩ => ⟨x, hp.mem_iff.1 hx, h2⟩, fun ⟨x, hx, h2⟩ => ⟨x, hp.mem_iff.2 hx, h2⟩⟩
theorem IsV.perm {L' : List (Int × Value)} (h : IsV w b L) (hp : L.Perm L') : IsV w b L' := by
  obtain ⟨D, h1, h2⟩ := h
  exact ⟨D, by rw [← hp.length_eq]; exact h1, h2.perm hp⟩
theorem IsV.lt (h : IsV w b L) : b < w.heap.size := let ⟨_, h1, _⟩ := h; h1.lt
theorem IsV.fr (h : IsV w b L) (hf : Fr S w w') (hb : b ∉ S) : IsV w' b L := by
  obtain ⟨D, ⟨es, clock, h1, h2⟩, h3⟩ := h
  exact ⟨D, ⟨es, clock, hf.blk h1 hb, h2⟩, h3⟩
theorem IsV.nodup (h : IsV w b L) : (L.map (·.1)).Nodup := let ⟨_, _, h1⟩ := h; h1.nodup
theorem IsV.fit (h : IsV w b L) : ∀ e ∈ L, fits e.1 := let ⟨_, _, h1⟩ := h; h1.fit
theorem isV_made (w : World) : IsV (w.alloc (.map #[] 0)) w.heap.size [] :=
  ⟨.map [], World.ownsMap_made _ _ _ _, ⟨rfl, tidy_empty, List.nodup_nil, by simp, fun _ _ => rfl, by simp⟩⟩
theorem IsV.isMap (h : IsV w b L) : ∃ es clock, w.heap[b]? = some (.map es clock) := by
  obtain ⟨D, ⟨es, clock, h1, _⟩, _⟩ := h
  exact ⟨es, clock, h1⟩
theorem turned_fr (h : w.mapTurned w' b) : Fr [b] w w' := by
  obtain ⟨es, clock, es', clock', hb, rfl⟩ := h
  refine ⟨rfl, rfl, rfl, by simp [ChangeMaps.setBlock], fun k hk hn => ?_⟩
  exact ChangeMaps.heap_setBlock_other hb _ (by simpa using hn)
theorem turned_size (h : w.mapTurned w' b) : w'.heap.size = w.heap.size := by
  obtain ⟨es, clock, es', clock', hb, rfl⟩ := h
  simp [ChangeMaps.setBlock]

/-- what lies at a key -/
theorem IsV.look (h : IsV w b L) {T E : TypeId} (hT : Try.prog.underlying T = some (.map 3 E)) {z : Value} (hz : (zeroValue E).run Try.prog w = .ok z w) {k : Int} (hk : fits k) {v : Value} (hv : (k, v) ∈ L) :
    (Instr.lookup T (.map (some b)) (.int .i64 k) true).run Try.prog w = .ok (.tuple #[v, .bool true]) w := by
  obtain ⟨D, a, c⟩ := h
  obtain ⟨x, ps, hr, hx⟩ := a.look_ok lawI hT hz (heldE_eq z) (keyI hk)
  rw [hr, c.has k hk, List.any_eq_true.2 ⟨_, hv, by simp⟩]
  rw [c.at_ _ hv] at hx
  rw [heldE_inv hx]
theorem IsV.look_no (h : IsV w b L) {T E : TypeId} (hT : Try.prog.underlying T = some (.map 3 E)) {z : Value} (hz : (zeroValue E).run Try.prog w = .ok z w) {k : Int} (hk : fits k) (hn : ∀ e ∈ L, e.1 ≠ k) :
    (Instr.lookup T (.map (some b)) (.int .i64 k) true).run Try.prog w = .ok (.tuple #[z, .bool false]) w := by
  obtain ⟨D, a, c⟩ := h
  obtain ⟨x, ps, hr, hx⟩ := a.look_ok lawI hT hz (heldE_eq z) (keyI hk)
  have hh : Maps.has D (.int .i64 k) = false := by
    rw [c.has k hk, List.any_eq_false]
    intro e he
    simpa using hn e he
  rw [hr, hh]
  rw [atKey_of_not_has hh] at hx
  rw [heldE_inv hx]
theorem IsV.look1 (h : IsV w b L) {T E : TypeId} (hT : Try.prog.underlying T = some (.map 3 E)) {z : Value} (hz : (zeroValue E).run Try.prog w = .ok z w) {k : Int} (hk : fits k) {v : Value} (hv : (k, v) ∈ L) :
    (Instr.lookup T (.map (some b)) (.int .i64 k) false).run Try.prog w = .ok v w := by
  obtain ⟨D, a, c⟩ := h
  obtain ⟨x, ps, hr, hx⟩ := a.lookup lawI hT hz (heldE_eq z) (keyI hk)
  rw [hr]
  rw [c.at_ _ hv] at hx
  rw [heldE_inv hx]
/-- a store at a new key -/
theorem IsV.store_new (h : IsV w b L) {T E : TypeId} (hT : Try.prog.underlying T = some (.map 3 E)) (hl : L.length < maxLen) {k : Int} (hk : fits k) (hn : ∀ e ∈ L, e.1 ≠ k) (v : Value) :
    ∃ w', (Instr.mapUpdate T (.map (some b)) (.int .i64 k) v).run Try.prog w = .ok () w' ∧ IsV w' b (L ++ [(k, v)]) ∧ Fr [b] w w' ∧ w'.heap.size = w.heap.size := by
  obtain ⟨D, a, c⟩ := h
  obtain ⟨w', hr, ho, ht⟩ := a.store lawI hT hl (keyI hk) (heldE_eq v)
  have hh : Maps.has D (.int .i64 k) = false := by
    rw [c.has k hk, List.any_eq_false]
    intro e he
    simpa using hn e he
  refine ⟨w', hr, ⟨_, by simpa using ho, ⟨?_, c.tidy.put key_is _, ?_, ?_, fun x hx => ?_, fun e he z => ?_⟩⟩, turned_fr ht, turned_size ht⟩
  · rw [size_put c.tidy, hh, c.size]; simp
  · rw [List.map_append, List.nodup_append]
    refine ⟨c.nodup, by simp, ?_⟩
    intro x hx y hy
    obtain ⟨e, he, rfl⟩ := List.mem_map.1 hx
    simp at hy
    rw [hy]
    exact hn e he
  · intro e he
    rcases List.mem_append.1 he with q | q
    · exact c.fit e q
    · simp at q; rw [q]; exact hk
  · rw [List.any_append]
    by_cases e : x = k
    · subst e
      rw [has_put_same c.tidy.isMap key_is]; simp
    · rw [has_put_other (key_ne e), c.has x hx]
      have e2 : (k == x) = false := beq_eq_false_iff_ne.2 (fun h => e h.symm)
      simp [e2]
  · rcases List.mem_append.1 he with q | q
    · rw [atKey_put_other (key_ne (hn e q)), c.at_ e q]
    · simp at q; rw [q]; exact atKey_put_same c.tidy.isMap key_is _ _
/-- a store at a key that is there -/
theorem IsV.store_old (h : IsV w b L) {T E : TypeId} (hT : Try.prog.underlying T = some (.map 3 E)) (hl : L.length < maxLen) {k : Int} (hk : fits k) {v0 : Value} (hv0 : (k, v0) ∈ L) (v : Value) :
    ∃ w', (Instr.mapUpdate T (.map (some b)) (.int .i64 k) v).run Try.prog w = .ok () w' ∧ IsV w' b (L.map fun e => if e.1 = k then (k, v) else e) ∧ Fr [b] w w' ∧ w'.heap.size = w.heap.size := by
  obtain ⟨D, a, c⟩ := h
  obtain ⟨w', hr, ho, ht⟩ := a.store lawI hT hl (keyI hk) (heldE_eq v)
  have hh : Maps.has D (.int .i64 k) = true := by
    rw [c.has k hk, List.any_eq_true]; exact ⟨_, hv0, by simp⟩
  have hsz : Maps.size (D.put (.int .i64 k) (.held v)) = L.length := by rw [size_put c.tidy, hh, c.size]; simp
  have hkeys : (L.map fun e => if e.1 = k then (k, v) else e).map (·.1) = L.map (·.1) := by
    rw [List.map_map]
    refine List.map_congr_left fun e _ => ?_
    show (if e.1 = k then (k, v) else e).1 = e.1
    split
    · rename_i h; exact h.symm
    · rfl
  refine ⟨w', hr, ⟨_, ?_, ⟨by rw [hsz, List.length_map], c.tidy.put key_is _, by rw [hkeys]; exact c.nodup, ?_, fun x hx => ?_, fun e he z => ?_⟩⟩, turned_fr ht, turned_size ht⟩
  · obtain ⟨es, clock, o1, o2, o3, o4⟩ := ho
    refine ⟨es, clock, o1, o2, ?_, o4⟩
    rw [o4] at hsz
    simp only [Maps.size, length_sorted, List.length_map, Array.length_toList] at hsz
    rw [List.length_map]; omega
  · intro e he
    obtain ⟨e0, he0, rfl⟩ := List.mem_map.1 he
    split
    · exact hk
    · exact c.fit e0 he0
  · have e3 : ∀ L : List (Int × Value), L.any (fun e => e.1 == x) = (L.map (·.1)).any (· == x) := fun L => by rw [List.any_map]; rfl
    rw [e3, hkeys, ← e3]
    by_cases e : x = k
    · subst e
      rw [has_put_same c.tidy.isMap key_is, List.any_eq_true.2 ⟨_, hv0, by simp⟩]
    · rw [has_put_other (key_ne e), c.has x hx]
  · obtain ⟨e0, he0, rfl⟩ := List.mem_map.1 he
    by_cases h2 : e0.1 = k
    · rw [if_pos h2]; exact atKey_put_same c.tidy.isMap key_is _ _
    · rw [if_neg h2, atKey_put_other (key_ne h2), c.at_ e0 he0]
theorem nodup_filter_len {k : Int} : ∀ {L : List (Int × Value)}, (L.map (·.1)).Nodup → (L.filter fun e => e.1 != k).length + (if L.any (·.1 == k) then 1 else 0) = L.length
  | [], _ => rfl
  | e :: L, h => by
    rw [List.map_cons, List.nodup_cons] at h
    have ih := nodup_filter_len (k := k) h.2
    by_cases h2 : e.1 = k
    · have hn : L.any (fun e => e.1 == k) = false := by
        rw [List.any_eq_false]
        intro x hx hxe
        exact h.1 (by rw [h2, ← beq_iff_eq.1 hxe]; exact List.mem_map_of_mem hx)
      rw [hn] at ih
      simp only [Bool.false_eq_true, if_false] at ih
      have e1 : (e.1 != k) = false := by simp [h2]
      have e2 : (e.1 == k) = true := by simp [h2]
      rw [List.filter_cons, e1, List.any_cons, e2, Bool.true_or, if_pos rfl, if_neg (by decide), List.length_cons]; omega
    · have e1 : (e.1 != k) = true := by simpa using h2
      have e2 : (e.1 == k) = false := by simpa using h2
      rw [List.filter_cons, e1, List.any_cons, e2, Bool.false_or, if_pos rfl, List.length_cons, List.length_cons]; omega
theorem Lays.del {D : DataW Value} (c : Lays D L) {k : Int} (hk : fits k) : Lays (D.del (.int .i64 k)) (L.filter fun e => e.1 != k) := by
  refine ⟨?_, c.tidy.del _, (List.filter_sublist.map _).nodup c.nodup, fun e he => c.fit e (List.mem_filter.1 he).1, fun x hx => ?_, fun e he z => ?_⟩
  · have h1 := size_del (k := .int .i64 k) c.tidy
    have h2 := nodup_filter_len (k := k) c.nodup
    rw [c.has k hk, c.size] at h1
    omega
  · by_cases e : x = k
    · subst e
      rw [has_del_same]
      symm
      rw [List.any_eq_false]
      intro e he
      have := (List.mem_filter.1 he).2
      simpa using this
    · rw [has_del_other (key_ne e), c.has x hx, Bool.eq_iff_iff, List.any_eq_true, List.any_eq_true]
      constructor
      · rintro ⟨y, hy, h2⟩
        refine ⟨y, List.mem_filter.2 ⟨hy, ?_⟩, h2⟩
        have := beq_iff_eq.1 h2
        simp [this, e]
      · rintro ⟨y, hy, h2⟩
        exact ⟨y, (List.mem_filter.1 hy).1, h2⟩
  · obtain ⟨h1, h2⟩ := List.mem_filter.1 he
    rw [atKey_del_other (key_ne (by simpa using h2)), c.at_ e h1]
/-- delete -/
theorem IsV.drop (h : IsV w b L) {T E : TypeId} (hT : Try.prog.underlying T = some (.map 3 E)) {k : Int} (hk : fits k) (ty : TypeId) :
    ∃ w', (Builtin.delete_ #[T, 3] ty #[.map (some b), .int .i64 k]).run Try.prog w = .ok (.tuple #[]) w' ∧ IsV w' b (L.filter fun e => e.1 != k) ∧ Fr [b] w w' ∧ w'.heap.size = w.heap.size := by
  obtain ⟨D, a, c⟩ := h
  obtain ⟨w', hr, ho, ht⟩ := a.drop lawI hT (keyI hk) ty
  have c2 := c.del hk
  refine ⟨w', hr, ⟨_, ?_, c2⟩, turned_fr ht, turned_size ht⟩
  obtain ⟨es, clock, o1, o2, o3, o4⟩ := ho
  refine ⟨es, clock, o1, o2, ?_, o4⟩
  have hsz := c2.size
  rw [o4] at hsz
  simp only [Maps.size, length_sorted, List.length_map, Array.length_toList] at hsz
  omega
theorem IsV.len (h : IsV w b L) {T E : TypeId} (hT : Try.prog.underlying T = some (.map 3 E)) (ty : TypeId) : (Builtin.len_ #[T] ty #[.map (some b)]).run Try.prog w = .ok (.int .i64 (L.length : Int)) w := by
  obtain ⟨D, a, c⟩ := h
  rw [a.len hT ty, c.size]

/-- a loop over the map is under way: the entries M are still to come -/
def IsR (w : World) (b r : Nat) (L M : List (Int × Value)) : Prop := ∃ (D : DataW Value) (left : Lit → Bool) (cnt : Nat), w.ranges Try.prog 3 heldE b r L.length D left cnt ∧ Lays D L ∧ (∀ e ∈ M, e ∈ L) ∧ ∀ k, fits k → left (.int .i64 k) = M.any (·.1 == k)
theorem IsR.isV (h : IsR w b r L M) : IsV w b L := by
  obtain ⟨D, left, cnt, h1, h2, _⟩ := h
  exact ⟨D, h1.owns, h2⟩
theorem IsR.sub (h : IsR w b r L M) : ∀ e ∈ M, e ∈ L := let ⟨_, _, _, _, _, h1, _⟩ := h; h1
theorem IsR.lt (h : IsR w b r L M) : r < w.heap.size := let ⟨_, _, _, h1, _⟩ := h; h1.lt
theorem IsR.ne (h : IsR w b r L M) : r ≠ b := let ⟨_, _, _, h1, _⟩ := h; h1.ne
theorem IsR.fr (h : IsR w b r L M) (hf : Fr S w w') (hb : b ∉ S) (hr : r ∉ S) : IsR w' b r L M ∧ w'.rangeLeft b r = w.rangeLeft b r := by
  obtain ⟨D, left, cnt, h1, h2⟩ := h
  have e1 := h1.left_eq
  have hlb := h1.owns.lt
  have hlr := h1.lt
  obtain ⟨es, clock, since, seen, c0, q1, q2, q3, q4, q5, q6⟩ := h1
  have h3 : w'.ranges Try.prog 3 heldE b r L.length D left cnt := ⟨es, clock, since, seen, c0, hf.blk q1 hb, q2, q3, q4, hf.blk q5 hr, q6⟩
  exact ⟨⟨D, left, cnt, h3, h2⟩, by rw [h3.left_eq, e1]⟩
theorem grown_fr {q : Nat} (h : w.grownBy w' (some q)) : Fr [q] w w' := ⟨h.os, h.tape, h.output, h.size, fun i hi hn => h.block i hi (fun e => hn (by cases e; simp))⟩
theorem grown_fr0 (h : w.grownBy w' none) : Fr [] w w' := ⟨h.os, h.tape, h.output, h.size, fun i hi _ => h.block i hi (by simp)⟩
end

section
variable {w : World} {ops : Array Oper} {rest : List Oper} {o : Oper} {a : Act} {Q : Exit → Act → World → Prop} {b r : Nat} {L M : List (Int × Value)}
theorem wpList_range_V (hg : o.guard = none) (m : Operand) (T : TypeId) (hop : o.op = Op.range T m) (E : TypeId) (hT : Try.prog.underlying T = some (.map 3 E)) (hm : a.eval m = .map (some b)) (h : IsV w b L)
    (hK : ∀ w', IsR w' b w.heap.size L L → Fr [] w w' → wpList Try.prog ops Q rest (a.put o.dst (.pointer (some ⟨w.heap.size, 0, none⟩))) w') :
    wpList Try.prog ops Q (o :: rest) a w := by
  obtain ⟨D, h1, h2⟩ := h
  exact wpList_range_own w hg m T hop 3 E lawI hT heldE b L.length D hm h1 fun w' r1 r2 _ => hK w' ⟨D, _, _, r1, h2, fun _ h => h, h2.has⟩ (grown_fr0 r2)
theorem wpList_next_V (hg : o.guard = none) (it : Operand) (hop : o.op = Op.next it false) (hit : a.eval it = .pointer (some ⟨r, 0, none⟩)) (h : IsR w b r L M)
    (hDone : M = [] → wpList Try.prog ops Q rest (a.put o.dst (.tuple #[.bool false])) w)
    (hMore : ∀ (x : Int) (v : Value) (w' : World), (x, v) ∈ M → fits x → IsR w' b r L (M.filter fun e => e.1 != x) → w'.rangeLeft b r < w.rangeLeft b r → Fr [r] w w' → (Instr.entry (.pointer (some ⟨r, 0, none⟩))).run Try.prog w' = .ok (.tuple #[.int .i64 x, v]) w' →
      wpList Try.prog ops Q rest (a.put o.dst (.tuple #[.bool true, .int .i64 x, v])) w') :
    wpList Try.prog ops Q (o :: rest) a w := by
  obtain ⟨D, left, cnt, h1, h2, h3, h4⟩ := h
  have hleft := h1.left_eq
  refine wpList_next_ranges w hg it hop 3 lawI heldE (Value.int .i64) id (fun key kl hkey => by obtain ⟨x, rfl, _⟩ := Maps.keyOf_int_inv Try.underlying3 hkey; exact ⟨x, rfl⟩) (fun v y _ => ⟨v, rfl⟩) b r L.length D left cnt hit h1 (fun h0 hl => hDone ?_) ?_
  · cases M with
    | nil => rfl
    | cons e M =>
      have hfe := h2.fit e (h3 e (by simp))
      have := h4 e.1 hfe
      rw [hl] at this
      simp at this
  · intro x c kl y w' cnt' hkey hlk hv hat hrg hlt hgr hsz hen
    obtain ⟨x', ex, rfl, hwx⟩ := Maps.keyOf_int_inv Try.underlying3 hkey
    cases ex
    have hfx := of_wf hwx
    rw [h4 x hfx, List.any_eq_true] at hlk
    obtain ⟨e, heM, hex⟩ := hlk
    have hex := beq_iff_eq.1 hex
    have hat2 := h2.at_ e (h3 e heM) (.held c)
    rw [hex, hat (.held c)] at hat2
    have hce : c = e.2 := by
      obtain ⟨y1, y2⟩ := y
      have hy : y1 = .held e.2 := hat2
      rw [hy] at hv
      exact heldE_inv hv
    refine hMore x c w' ?_ hfx ⟨D, _, cnt', hrg, h2, fun e he => h3 e (List.mem_filter.1 he).1, fun k hk => ?_⟩ ?_ (grown_fr hgr) hen
    · rw [hce, ← hex]; exact heM
    · show (left (.int .i64 k) && !(Lit.int .i64 k).sameKey (.int .i64 x)) = _
      rw [h4 k hk]
      by_cases hkx : k = x
      · subst hkx
        rw [WideAt.sameKey_self key_is]
        simp
      · rw [sameKey_ne (key_ne hkx), Bool.not_false, Bool.and_true, Bool.eq_iff_iff, List.any_eq_true, List.any_eq_true]
        constructor
        · rintro ⟨y, hy, h2⟩
          refine ⟨y, List.mem_filter.2 ⟨hy, ?_⟩, h2⟩
          have := beq_iff_eq.1 h2
          simp [this, hkx]
        · rintro ⟨y, hy, h2⟩
          exact ⟨y, (List.mem_filter.1 hy).1, h2⟩
    · rw [hrg.left_eq, hleft]; exact hlt
theorem wpList_delete_V (hg : o.guard = none) (m x : Operand) (T : TypeId) (hop : o.op = Op.call { callee := Callee.builtin Builtin.delete, args := #[m, x], argTypes := #[T, 3] }) (E : TypeId) (hT : Try.prog.underlying T = some (.map 3 E)) (k : Int) (hk : fits k)
    (hm : a.eval m = .map (some b)) (hx : a.eval x = .int .i64 k) (h : IsV w b L) (hK : ∀ w', IsV w' b (L.filter fun e => e.1 != k) → Fr [b] w w' → wpList Try.prog ops Q rest (a.put o.dst (.tuple #[])) w') :
    wpList Try.prog ops Q (o :: rest) a w := by
  refine wpList_plain hg fun K' hK' => ?_
  obtain ⟨w', hrun, r1, r2, -⟩ := h.drop hT hk o.type
  unfold Oper.wp
  simp [execOp, hop, resolve, invoke, builtin, hm, hx, hrun, Result.andThen]
  exact hK' _ _ (hK w' r1 r2)
/-- the step where every element has one shape -/
theorem wpList_next_Vm {β : Type} (mk : β → Value) (hmk : ∀ e ∈ L, ∃ y, e.2 = mk y) (hg : o.guard = none) (it : Operand) (hop : o.op = Op.next it false) (hit : a.eval it = .pointer (some ⟨r, 0, none⟩)) (h : IsR w b r L M)
    (hDone : M = [] → wpList Try.prog ops Q rest (a.put o.dst (.tuple #[.bool false])) w)
    (hMore : ∀ (x : Int) (y : β) (w' : World), (x, mk y) ∈ M → fits x → IsR w' b r L (M.filter fun e => e.1 != x) → w'.rangeLeft b r < w.rangeLeft b r → Fr [r] w w' → (Instr.entry (.pointer (some ⟨r, 0, none⟩))).run Try.prog w' = .ok (.tuple #[.int .i64 x, mk y]) w' →
      wpList Try.prog ops Q rest (a.put o.dst (.tuple #[.bool true, .int .i64 x, mk y])) w') :
    wpList Try.prog ops Q (o :: rest) a w :=
  wpList_next_V hg it hop hit h hDone fun x v w' hm hf hr hl hfr hen => by
    obtain ⟨y, hy⟩ := hmk _ (h.sub _ hm)
    have hy : v = mk y := hy
    subst hy
    exact hMore x y w' hm hf hr hl hfr hen
end
end Go.Proofs.Ytodfeaipoagphaa
/- A thing made of blocks F that may change, beside blocks G (of local slices) that it leaves alone. -/
namespace Go.Proofs.Ytodfeaipoagphaa
open Go.RowKit

def Kept (G : List Nat) (w w' : World) : Prop := ∀ k ∈ G, w'.heap[k]? = w.heap[k]?
theorem Kept.refl (G : List Nat) (w : World) : Kept G w w := fun _ _ => rfl
theorem Kept.trans {G : List Nat} {a b c : World} (h : Kept G a b) (h2 : Kept G b c) : Kept G a c := fun k hk => (h2 k hk).trans (h k hk)
theorem Kept.sub {G G' : List Nat} {a b : World} (h : Kept G a b) (hs : ∀ k ∈ G', k ∈ G) : Kept G' a b := fun k hk => h k (hs k hk)

/-- X speaks of the blocks F alone -/
structure Frm (X : World → List Nat → Prop) : Prop where
  lt : ∀ {w F}, X w F → ∀ k ∈ F, k < w.heap.size
  fr : ∀ {w w' F S}, X w F → Fr S w w' → (∀ k ∈ F, k ∉ S) → X w' F

/-- X holds of w with blocks F made since W; the blocks G are of now and made since W too, and none of them is in F -/
def OwnG (X : World → List Nat → Prop) (W : World) (G : List Nat) (w : World) : Prop :=
  ∃ F, X w F ∧ Fr [] W w ∧ Ext [] W F ∧ (∀ k ∈ F, k ∉ G) ∧ ∀ k ∈ G, W.heap.size ≤ k ∧ k < w.heap.size

variable {X Y : World → List Nat → Prop} {W w : World} {G : List Nat}

theorem OwnG.frame (h : OwnG X W G w) : Fr [] W w := by obtain ⟨F, a, b, c⟩ := h; exact b
theorem OwnG.gnew (h : OwnG X W G w) : ∀ k ∈ G, W.heap.size ≤ k ∧ k < w.heap.size := by obtain ⟨F, a, b, c, d, e⟩ := h; exact e

theorem OwnG.call {f : FuncId} {args : Array Value} {v : Ending} (h : OwnG X W G w)
    (hc : ∀ F, X w F → Calls Try.prog f args w fun e w' => e = v ∧ ∃ F', Y w' F' ∧ Fr F w w' ∧ Ext F w F') :
    Calls Try.prog f args w fun e w' => e = v ∧ OwnG Y W G w' ∧ Kept G w w' := by
  obtain ⟨F, a, b, c, d, e⟩ := h
  refine (hc F a).mono ?_
  rintro x w' ⟨h1, F', hY, h5, h6⟩
  refine ⟨h1, ⟨F', hY, b.trans h5 c, c.trans h6 b.size, fun k hk hg => ?_, fun k hk => ⟨(e k hk).1, Nat.lt_of_lt_of_le (e k hk).2 h5.size⟩⟩, fun k hk => h5.block k (e k hk).2 (fun hf => d k hf hk)⟩
  rcases h6 k hk with h | h
  · exact d k h hg
  · have := (e k hg).2; omega

/-- the program itself changes blocks of G, or makes new ones -/
theorem OwnG.own (hX : Frm X) {S G' : List Nat} {w' : World} (h : OwnG X W G w) (hf : Fr S w w') (hS : ∀ k ∈ S, k ∈ G) (hG : ∀ k ∈ G', (k ∈ G ∨ w.heap.size ≤ k) ∧ k < w'.heap.size) : OwnG X W G' w' := by
  obtain ⟨F, a, b, c, d, e⟩ := h
  refine ⟨F, hX.fr a hf (fun k hk hs => d k hk (hS k hs)), b.trans hf (fun k hk => .inr (e k (hS k hk)).1), c, fun k hk hg => ?_, fun k hk => ⟨?_, (hG k hk).2⟩⟩
  · rcases (hG k hg).1 with h | h
    · exact d k hk h
    · have := hX.lt a k hk; omega
  · rcases (hG k hk).1 with h | h
    · exact (e k h).1
    · exact Nat.le_trans b.size h

theorem OwnG.fr (hX : Frm X) {w' : World} (h : OwnG X W G w) (hf : Fr [] w w') : OwnG X W G w' ∧ Kept G w w' :=
  ⟨h.own hX hf (by simp) (fun k hk => ⟨.inl hk, Nat.lt_of_lt_of_le (h.gnew k hk).2 hf.size⟩), fun k hk => hf.block k (h.gnew k hk).2 (by simp)⟩
theorem OwnG.mono (h : OwnG X W G w) (hm : ∀ F, X w F → Y w F) : OwnG Y W G w := by
  obtain ⟨F, a, b⟩ := h; exact ⟨F, hm F a, b⟩
theorem OwnG.sub {G' : List Nat} (h : OwnG X W G w) (hs : ∀ k ∈ G', k ∈ G) : OwnG X W G' w := by
  obtain ⟨F, a, b, c, d, e⟩ := h
  exact ⟨F, a, b, c, fun k hk hg => d k hk (hs k hg), fun k hk => e k (hs k hk)⟩

end Go.Proofs.Ytodfeaipoagphaa
/- Package feed: a store of views in memory. -/
namespace Go.Proofs.Ytodfeaipoagphaa
open Go.RowKit

/-- an entry with the slice that it holds -/
structure FC where
  e : FE
  vo : Option Addr
  vc : Nat
def FC.val (c : FC) : Value := .agg #[.slice c.vo c.e.view.length c.vc, .bool c.e.acked]
def FC.kv (c : FC) : Int × Value := (c.e.tick, c.val)
/-- the store at block p, its map at block b -/
structure IsStC (w : World) (T : TypeId) (p b : Nat) (s : FS) (cs : List FC) : Prop where
  L : s.L = cs.map FC.e
  p : w.heap[p]? = some (.cells #[.int .i64 (s.keep : Int), .int .i64 s.next, .map (some b)] T (0, 0))
  map : IsV w b (cs.map FC.kv)
  segs : ∀ c ∈ cs, Seg w 48 2 c.vo c.e.view.length c.vc (c.e.view.flatMap clV)
def IsSt (T : TypeId) (p : Nat) (s : FS) : World → List Nat → Prop := fun w F => ∃ b cs, IsStC w T p b s cs ∧ F = p :: b :: cs.flatMap fun c => blk c.vo

section
variable {w w' : World} {T : TypeId} {p b : Nat} {s : FS} {cs : List FC} {F S : List Nat}
theorem IsStC.ne (h : IsStC w T p b s cs) (hT : T ≠ 48) : p ≠ b ∧ ∀ c ∈ cs, p ∉ blk c.vo ∧ b ∉ blk c.vo := by
  obtain ⟨es, clock, hm⟩ := h.map.isMap
  refine ⟨fun e => ?_, fun c hc => ⟨(h.segs c hc).ne_type h.p (fun e => hT e.symm), fun hb => ?_⟩⟩
  · have h1 := h.p
    rw [e, hm] at h1; cases h1
  · rcases (h.segs c hc).2.2.2 with ⟨hn, _⟩ | ⟨g, off, cur, ha, hg, _⟩
    · rw [hn] at hb; simp [blk] at hb
    · rw [ha] at hb; simp [blk] at hb; rw [hb, hg] at hm; cases hm
theorem IsStC.fr (h : IsStC w T p b s cs) (hf : Fr S w w') (hS : ∀ k ∈ p :: b :: cs.flatMap (fun c => blk c.vo), k ∉ S) : IsStC w' T p b s cs :=
  ⟨h.L, hf.blk h.p (hS p (by simp)), h.map.fr hf (hS b (by simp)), fun c hc => (h.segs c hc).fr hf fun k hk => hS k (by simp only [List.mem_cons, List.mem_flatMap]; exact .inr (.inr ⟨c, hc, hk⟩))⟩
theorem isSt_frm (T : TypeId) (p : Nat) (s : FS) : Frm (IsSt T p s) := by
  refine ⟨fun {w F} h k hk => ?_, fun {w w' F S} h hf hS => ?_⟩
  · obtain ⟨b, cs, hc, rfl⟩ := h
    simp only [List.mem_cons, List.mem_flatMap] at hk
    rcases hk with rfl | rfl | ⟨c, hc2, hk⟩
    · exact lt_of_blk hc.p
    · exact hc.map.lt
    · exact (hc.segs c hc2).lt k hk
  · obtain ⟨b, cs, hc, rfl⟩ := h
    exact ⟨b, cs, hc.fr hf hS, rfl⟩
theorem IsStC.kv {e : FE} (h : IsStC w T p b s cs) (he : e ∈ s.L) : ∃ c ∈ cs, c.e = e := by
  rw [h.L] at he
  obtain ⟨c, hc, rfl⟩ := List.mem_map.1 he
  exact ⟨c, hc, rfl⟩
theorem IsStC.no {t : Int} (h : IsStC w T p b s cs) (hn : ∀ e ∈ s.L, e.tick ≠ t) : ∀ x ∈ cs.map FC.kv, x.1 ≠ t := by
  intro x hx
  obtain ⟨c, hc, rfl⟩ := List.mem_map.1 hx
  exact hn c.e (by rw [h.L]; exact List.mem_map_of_mem hc)
end
end Go.Proofs.Ytodfeaipoagphaa
/- slices.Clone of cells (turned from chapter 9's text). -/
namespace Go.Proofs.Ytodfeaipoagphaa
open Go.RowKit Go.Lib

theorem cells_one1 (t : List (Int × Int)) : ∀ u ∈ t.flatMap clV, u.oneCell' = true := by
  intro u hu
  obtain ⟨x, -, hx⟩ := List.mem_flatMap.1 hu
  simp [clV] at hx
  rcases hx with rfl | rfl <;> rfl
def SegOf (w : World) (xs : List (Int × Int)) (e : Ending) (w' : World) : Prop := ∃ bo bc, e = .returned (.slice bo xs.length bc) ∧ Seg w' 48 2 bo xs.length bc (xs.flatMap clV) ∧ Fr [] w w' ∧ ∀ k ∈ blk bo, w.heap.size ≤ k

set_option maxRecDepth 100000 in
set_option maxHeartbeats 1000000 in
theorem clone_any (w : World) (ao : Option Addr) (cap : Nat) (t : List (Int × Int)) (h : Seg w 48 2 ao t.length cap (t.flatMap clV)) (ht : t.length ≤ 1099511627776) :
    Calls Try.prog 31 #[.slice ao t.length cap] w (SegOf w t) := by
  obtain ⟨i0, hi, hz0, hz1, hz2⟩ := info_parts infoCell
  have hp : (t.flatMap clV).length = t.length * 2 := flat_len clV 2 (fun _ => rfl) t
  rcases h.2.2.2 with ⟨rfl, hn, hc⟩ | ⟨g, off, cur, rfl, hg, h2, h3⟩
  · have : t = [] := List.eq_nil_of_length_eq_zero hn
    subst this
    subst hc
    have HS := Lib.hid h
    have q : ∀ u : World, (binOp .eql 30 (.slice none 0 0) (.slice none 0 0)).run Try.prog u = .ok (.bool true) u := fun u => run_eql_slice_nil u _ _ none 0 0 0 0 Try.underlying30
    clear h hp hn
    go_enter Try.func31, Try.ntmps31
    go_wp2
    go_ret
    exact ⟨none, 0, rfl, HS.out, Fr.refl _ _, by simp [blk]⟩
  · have hone := Seg.one w.heap.size #[] 48 2 0 (alloc_new w (.cells #[] 48)) rfl (by unfold maxLen; omega)
    have HO := Lib.hid hone
    have HN := Lib.hid (h.alloc (.cells #[] 48)).news
    have H1 := Lib.hid (cells_one1 t)
    have HP := Lib.hid hp
    have q : ∀ u : World, (binOp .eql 30 (.slice (some ⟨g, off, none⟩) t.length cap) (.slice none 0 0)).run Try.prog u = .ok (.bool false) u := fun u => run_eql_slice_nil u _ _ _ _ _ _ _ Try.underlying30
    clear h hone hp hg h2 h3
    go_enter Try.func31, Try.ntmps31
    go_wp2_with (at_builtin; refine wpList_append_seg rfl _ _ 30 rfl 48 i0 _ 2 16 Try.underlying30 hi hz0 hz1 hz2 rfl (by decide) (some ⟨w.heap.size, 0, none⟩) 0 0 [] rfl HO.out ⟨g, off, none⟩ t.length cap (t.flatMap clV) rfl HP.out HN.out H1.out (by unfold maxLen; omega) (by omega) ?_; intro ao' cap' w5 hs5 hf5 hx5; have HF5 := Lib.hid hf5; have HX5 := Lib.hid hx5; have HS5 := Lib.hid hs5; clear hs5 hf5 hx5)
    go_ret
    refine ⟨ao', cap', by simp, ?_, ((Fr.refl [] w).alloc _).trans HF5.out (fun k hk => .inr (by simp [blk] at hk; omega)), fun k hk => ?_⟩
    · have := HS5.out; simpa using this
    · rcases HX5.out k hk with h | h
      · simp [blk] at h; omega
      · simp at h; omega

end Go.Proofs.Ytodfeaipoagphaa
/- Package feed: the small functions: newStore, NewSender, NewReceiver, kept, Latest, View, Ack. -/
namespace Go.Proofs.Ytodfeaipoagphaa
open Go.RowKit

theorem infoStore : (Try.prog.info? 55).map (·.size) = some 3 := by kernel_rfl
theorem infoEnt : (Try.prog.info? 61).map (·.size) = some 2 := by kernel_rfl
theorem zeroEnt (w : World) : (zeroValue 61).run Try.prog w = .ok (.agg #[.slice none 0 0, .bool false]) w := by kernel_rfl
theorem undT : Try.prog.underlying 53 = some (.map 3 61) := Try.underlying53

set_option maxRecDepth 100000 in
set_option maxHeartbeats 2000000 in
theorem newstore_any (w : World) (k : Nat) (hk : 1 ≤ k) (hk2 : k ≤ 64) :
    Calls Try.prog 24 #[.int .i64 (k : Int)] w fun e w' => ∃ b, e = .returned (.agg #[.int .i64 (k : Int), .int .i64 0, .map (some b)]) ∧ IsV w' b [] ∧ w.heap.size ≤ b ∧ Fr [] w w' := by
  have hmm := @run_makeMap Try.prog
  have hmax : max (k : Int) 1 = (k : Int) := by omega
  obtain ⟨w1, hw1⟩ : ∃ w1, w1 = w.alloc (.cells #[.int .i64 0, .int .i64 0, .map none] 55) := ⟨_, rfl⟩
  obtain ⟨s, hs⟩ : ∃ s, s = w.heap.size := ⟨_, rfl⟩
  have HB := Lib.hid (by rw [hw1, hs]; exact alloc_new _ _ : w1.heap[s]? = some (.cells #[.int .i64 0, .int .i64 0, .map none] 55 (0, 0)))
  have F1 := Lib.hid (by rw [hw1]; exact (Fr.refl _ _).alloc _ : Fr [] w w1)
  have HW1 := Lib.hid hw1
  have HS := Lib.hid hs
  have HV := Lib.hid (isV_made w1)
  clear hw1 hs
  go_enter Try.func24, Try.ntmps24
  go_upto_region 1 with fail
  rw [← HS.out, ← HW1.out]
  go_wp2_with (refine wpList_storeB rfl 55 (Operand.tmp 2) (Operand.tmp 6) rfl s 3 #[.int .i64 (k : Int), .int .i64 0, .map (some w1.heap.size)] rfl rfl _ 55 (by exact alloc_old HB.out) rfl rfl infoStore (by simp [Value.oneCell']) ?_; intro w5 hb5 hf5; have HB5 := Lib.hid hb5; have HF5 := Lib.hid hf5; clear hb5 hf5)
  have t0 := cell_blk HB5.out 0
  have t1 := cell_blk HB5.out 1
  have t2 := cell_blk HB5.out 2
  refine bodyPost_ret (v := .agg #[.int .i64 (k : Int), .int .i64 0, .map (some w1.heap.size)]) (by simp [results, Try.results24, go_sem, t0, t1, t2]) rfl ⟨w1.heap.size, rfl, ?_, F1.out.size, ?_⟩
  · exact HV.out.fr HF5.out (by have := lt_of_blk HB.out; simp; omega)
  · exact (F1.out.alloc _).trans HF5.out (fun q hq => .inr (by have := HS.out; simp at hq; omega))

/-- a new sender, a new receiver -/
def NewTo (T : TypeId) (w : World) (k : Nat) (e : Ending) (w' : World) : Prop := ∃ p F, e = .returned (.pointer (some ⟨p, 0, none⟩)) ∧ IsSt T p (fnew k) w' F ∧ Fr [] w w' ∧ ∀ q ∈ F, w.heap.size ≤ q
theorem newTo {T : TypeId} {w w1 w2 : World} {k b p : Nat} (hv : IsV w1 b []) (hb : w.heap.size ≤ b) (f1 : Fr [] w w1) (hp : w1.heap.size ≤ p) (f2 : Fr [] w1 w2) (h : w2.heap[p]? = some (.cells #[.int .i64 (k : Int), .int .i64 0, .map (some b)] T (0, 0))) : NewTo T w k (.returned (.pointer (some ⟨p, 0, none⟩))) w2 := by
  refine ⟨p, _, rfl, ⟨b, [], ⟨rfl, h, hv.fr f2 (by simp), by simp⟩, rfl⟩, f1.trans f2 (by simp [Ext]), fun q hq => ?_⟩
  have := f1.size
  simp at hq
  omega

set_option maxRecDepth 100000 in
set_option maxHeartbeats 2000000 in
theorem newsender_any (w : World) (k : Nat) (hk : 1 ≤ k) (hk2 : k ≤ 64) : Calls Try.prog 9 #[.int .i64 (k : Int)] w (NewTo 58 w k) := by
  have HN := Lib.hid (newstore_any w k hk hk2)
  go_enter Try.func9, Try.ntmps9
  go_wp2_with fail
  refine HN.out.mono ?_
  rintro e w1 ⟨b, rfl, hv, hb, f1⟩
  have HV := Lib.hid hv
  have HB := Lib.hid hb
  have F1 := Lib.hid f1
  clear hv hb f1
  go_wp2_with fail
  go_ret
  exact newTo HV.out HB.out F1.out (Nat.le_refl _) ((Fr.refl _ _).alloc _) (alloc_new _ _)
set_option maxRecDepth 100000 in
set_option maxHeartbeats 2000000 in
theorem newreceiver_any (w : World) (k : Nat) (hk : 1 ≤ k) (hk2 : k ≤ 64) : Calls Try.prog 10 #[.int .i64 (k : Int)] w (NewTo 59 w k) := by
  have HN := Lib.hid (newstore_any w k hk hk2)
  go_enter Try.func10, Try.ntmps10
  go_wp2_with fail
  refine HN.out.mono ?_
  rintro e w1 ⟨b, rfl, hv, hb, f1⟩
  have HV := Lib.hid hv
  have HB := Lib.hid hb
  have F1 := Lib.hid f1
  clear hv hb f1
  go_wp2_with fail
  go_ret
  exact newTo HV.out HB.out F1.out (Nat.le_refl _) ((Fr.refl _ _).alloc _) (alloc_new _ _)

section
variable {w : World} {T : TypeId} {p b : Nat} {s : FS} {cs : List FC}
theorem has_yes {s : FS} {t : Int} (h : s.has t = true) : ∃ e ∈ s.L, e.tick = t := by
  unfold FS.has at h
  obtain ⟨e, he, h2⟩ := List.any_eq_true.1 h
  exact ⟨e, he, beq_iff_eq.1 h2⟩
theorem has_no {s : FS} {t : Int} (h : s.has t = false) : ∀ e ∈ s.L, e.tick ≠ t := by
  unfold FS.has at h
  rw [List.any_eq_false] at h
  exact fun e he h2 => h e he (beq_iff_eq.2 h2)

set_option maxRecDepth 100000 in
set_option maxHeartbeats 2000000 in
theorem kept_any (h : IsStC w T p b s cs) (k : Int) (hk : MV.fits k) :
    Calls Try.prog 29 #[.pointer (some ⟨p, 0, none⟩), .int .i64 k] w fun e w' => e = .returned (.bool (s.has k)) ∧ Fr [] w w' := by
  have c2 : w.cell? ⟨p, 2, none⟩ = some (.map (some b)) := cell_blk h.p 2
  cases hh : s.has k with
  | true =>
    obtain ⟨e0, he0, hek⟩ := has_yes hh
    obtain ⟨c, hc, hce⟩ := h.kv he0
    have hl : (Instr.lookup 53 (.map (some b)) (.int .i64 k) true).run Try.prog w = .ok (.tuple #[.agg #[.slice c.vo c.e.view.length c.vc, .bool c.e.acked], .bool true]) w :=
      h.map.look undT (zeroEnt w) hk (v := c.val) (by rw [← hek, ← hce]; exact List.mem_map_of_mem hc)
    obtain ⟨vo, hvo⟩ : ∃ x, x = c.vo := ⟨_, rfl⟩
    obtain ⟨vn, hvn⟩ : ∃ x, x = c.e.view.length := ⟨_, rfl⟩
    obtain ⟨vc, hvc⟩ : ∃ x, x = c.vc := ⟨_, rfl⟩
    obtain ⟨va, hva⟩ : ∃ x, x = c.e.acked := ⟨_, rfl⟩
    rw [← hvo, ← hvn, ← hvc, ← hva] at hl
    clear h hh he0 hek hc hce hvo hvn hvc hva
    go_enter Try.func29, Try.ntmps29
    go_wp2_with fail
    go_ret
    exact ⟨rfl, (Fr.refl [] w).alloc _⟩
  | false =>
    have hl := h.map.look_no undT (zeroEnt w) hk (h.no (has_no hh))
    clear h hh
    go_enter Try.func29, Try.ntmps29
    go_wp2_with fail
    go_ret
    exact ⟨rfl, (Fr.refl [] w).alloc _⟩

set_option maxHeartbeats 2000000 in
theorem latest_any (h : IsStC w T p b s cs) (hg : s.Good) :
    Calls Try.prog 19 #[.pointer (some ⟨p, 0, none⟩)] w fun e w' => e = .returned (.int .i64 (s.next - 1)) ∧ w = w' := by
  have c1 : w.cell? ⟨p, 1, none⟩ = some (.int .i64 s.next) := cell_blk h.p 1
  have w1 : IntKind.i64.wrap (s.next - 1) = s.next - 1 := IntWalk.i64_in _ (by have := hg.n0; have := hg.n1; omega)
  clear h hg
  go_enter Try.func19, Try.ntmps19
  go_wp2
  go_ret
  exact ⟨rfl, rfl⟩
end
end Go.Proofs.Ytodfeaipoagphaa
