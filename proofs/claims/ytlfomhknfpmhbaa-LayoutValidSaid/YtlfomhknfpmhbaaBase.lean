/- Base: frames between worlds (which blocks may have changed), segments of a block that a slice covers, and the law of append on such a segment. Generic over the program. -/
import Derived.WalkKit
import Derived.WalkLawsBesides
import Derived.WalkSpells
import Derived.BigQuiet
import Derived.Deep.QuietTactic
import Derived.Deep.RegionLaw
import Derived.Deep.MidRow
import Derived.Lib.Hide
import Derived.Maps.AppendAt
namespace Go.Proofs.Ytlfomhknfpmhbaa
open Go.RowKit

/-- only the blocks of S may have changed; blocks may have come -/
structure Fr (S : List Nat) (w w' : World) : Prop where
  os : w'.os = w.os
  tape : w'.tape = w.tape
  output : w'.output = w.output
  size : w.heap.size ≤ w'.heap.size
  block : ∀ k, k < w.heap.size → k ∉ S → w'.heap[k]? = w.heap[k]?

/-- what S' names is in S or new since w -/
def Ext (S : List Nat) (w : World) (S' : List Nat) : Prop := ∀ k ∈ S', k ∈ S ∨ w.heap.size ≤ k

theorem Ext.refl (S : List Nat) (w : World) : Ext S w S := fun _ h => .inl h

theorem Fr.refl (S : List Nat) (w : World) : Fr S w w := ⟨rfl, rfl, rfl, Nat.le_refl _, fun _ _ _ => rfl⟩

theorem Fr.trans {S T : List Nat} {a b c : World} (h : Fr S a b) (k : Fr T b c) (hT : Ext S a T) : Fr S a c :=
  ⟨k.os.trans h.os, k.tape.trans h.tape, k.output.trans h.output, Nat.le_trans h.size k.size, fun i hi hS =>
    (k.block i (Nat.lt_of_lt_of_le hi h.size) (fun hm => by rcases hT i hm with h1 | h1; exact hS h1; omega)).trans (h.block i hi hS)⟩

theorem Ext.trans {S T U : List Nat} {a b : World} (h : Ext S a T) (k : Ext T b U) (hs : a.heap.size ≤ b.heap.size) : Ext S a U := fun i hi => by
  rcases k i hi with h1 | h1
  · exact h i h1
  · exact .inr (by omega)

theorem Fr.mono {S T : List Nat} {a b : World} (h : Fr S a b) (hT : ∀ k ∈ S, k ∈ T) : Fr T a b :=
  ⟨h.os, h.tape, h.output, h.size, fun i hi hn => h.block i hi (fun hm => hn (hT i hm))⟩

theorem Fr.alloc {S : List Nat} {a w : World} (h : Fr S a w) (o : Obj) : Fr S a (w.alloc o) :=
  ⟨h.os, h.tape, h.output, by simp; have := h.size; omega, fun k hk hS => (Go.heap_alloc_old w o (r := k) (by have := h.size; omega)).trans (h.block k hk hS)⟩

theorem Fr.drew {S : List Nat} {a w : World} (h : Fr S a w) : Fr S a w.drew := ⟨h.os, h.tape, h.output, h.size, h.block⟩

theorem Fr.drewN {S : List Nat} {a w : World} (h : Fr S a w) (n : Nat) : Fr S a (w.drewN n) := ⟨h.os, h.tape, h.output, h.size, h.block⟩

theorem Fr.setCell {S : List Nat} {a w : World} (h : Fr S a w) {p : Addr} (hp : p.block ∈ S ∨ a.heap.size ≤ p.block) (v : Value) : Fr S a (w.setCell p v) :=
  ⟨h.os, h.tape, h.output, by simp; exact h.size, fun k hk hS => (Below.heap_setCell w p v k (fun e => by subst e; rcases hp with h1 | h1; exact hS h1; omega)).trans (h.block k hk hS)⟩

theorem heap_setCells_ne (b : Nat) : ∀ (vs : List Value) (o : Nat) (w : World) (k : Nat), k ≠ b → (w.setCells b o vs).heap[k]? = w.heap[k]?
  | [], _, _, _, _ => rfl
  | v :: r, o, w, k, h => by
    rw [World.setCells, heap_setCells_ne b r (o + 1) _ k h, Below.heap_setCell _ _ _ _ (by simpa using h)]

theorem size_setCells (b : Nat) : ∀ (vs : List Value) (o : Nat) (w : World), (w.setCells b o vs).heap.size = w.heap.size
  | [], _, _ => rfl
  | v :: r, o, w => by rw [World.setCells, size_setCells b r]; simp

theorem meta_setCells (b : Nat) : ∀ (vs : List Value) (o : Nat) (w : World), (w.setCells b o vs).os = w.os ∧ (w.setCells b o vs).tape = w.tape ∧ (w.setCells b o vs).output = w.output
  | [], _, _ => ⟨rfl, rfl, rfl⟩
  | v :: r, o, w => by rw [World.setCells]; exact meta_setCells b r _ _

theorem Fr.setCells {S : List Nat} {a w : World} (h : Fr S a w) {b : Nat} (hp : b ∈ S ∨ a.heap.size ≤ b) (o : Nat) (vs : List Value) : Fr S a (w.setCells b o vs) := by
  obtain ⟨h1, h2, h3⟩ := meta_setCells b vs o w
  refine ⟨h1.trans h.os, h2.trans h.tape, h3.trans h.output, by rw [size_setCells]; exact h.size, fun k hk hS => ?_⟩
  rw [heap_setCells_ne b vs o w k (fun e => by subst e; rcases hp with h1 | h1; exact hS h1; omega)]
  exact h.block k hk hS

theorem Fr.blk {S : List Nat} {w w' : World} (h : Fr S w w') {k : Nat} {o : Obj} (hk : w.heap[k]? = some o) (hS : k ∉ S) : w'.heap[k]? = some o :=
  (h.block k (Array.getElem?_eq_some_iff.1 hk).1 hS).trans hk

theorem lt_of_blk {w : World} {k : Nat} {o : Obj} (hk : w.heap[k]? = some o) : k < w.heap.size := (Array.getElem?_eq_some_iff.1 hk).1

theorem Fr.below {S : List Nat} {w w' : World} (h : Fr S w w') {B : Nat} (hB : B ≤ w.heap.size) (hS : ∀ k ∈ S, B ≤ k) : Below B w w' :=
  ⟨h.os, h.tape, h.output, h.size, fun k hk => h.block k (by omega) (fun hm => by have := hS k hm; omega)⟩

theorem Fr.ofBelow {w w' : World} (h : Below w.heap.size w w') (S : List Nat) : Fr S w w' :=
  ⟨h.os, h.tape, h.output, h.size, fun k hk _ => h.block k hk⟩

theorem Fr.nil {w w' : World} (h : Fr [] w w') : Below w.heap.size w w' := h.below (Nat.le_refl _) (by simp)

/-! ### blocks of cells -/

theorem cell_blk {w : World} {p : Nat} {c : Array Value} {T : TypeId} {f : Nat × Nat} (h : w.heap[p]? = some (.cells c T f)) (i : Nat) : w.cell? ⟨p, i, none⟩ = c[i]? := by
  simp [World.cell?, h]

theorem frozen_blk {w : World} {p : Nat} {c : Array Value} {T : TypeId} (h : w.heap[p]? = some (.cells c T (0, 0))) (i : Nat) : w.frozen? ⟨p, i, none⟩ = false := by
  simp [World.frozen?, h]

theorem setCell_blk {w : World} {p : Nat} {c : Array Value} {T : TypeId} {f : Nat × Nat} (h : w.heap[p]? = some (.cells c T f)) (i : Nat) (v : Value) :
    (w.setCell ⟨p, i, none⟩ v).heap[p]? = some (.cells (c.setIfInBounds i v) T f) := by
  simp [World.setCell, Array.getElem?_modify, h]

theorem setCell_ne {w : World} {a : Addr} {v : Value} {k : Nat} (h : k ≠ a.block) : (w.setCell a v).heap[k]? = w.heap[k]? := Below.heap_setCell w a v k h

theorem alloc_old {w : World} {o o' : Obj} {k : Nat} (h : w.heap[k]? = some o) : (w.alloc o').heap[k]? = some o := (Go.heap_alloc_old w o' (lt_of_blk h)).trans h

theorem alloc_new (w : World) (o : Obj) : (w.alloc o).heap[w.heap.size]? = some o := Go.heap_alloc_new w o

theorem setCells_blk {p : Nat} {T : TypeId} {f : Nat × Nat} : ∀ (vs : List Value) (o : Nat) (w : World) (c : Array Value), w.heap[p]? = some (.cells c T f) → o + vs.length ≤ c.size →
    (w.setCells p o vs).heap[p]? = some (.cells (c.toList.take o ++ vs ++ c.toList.drop (o + vs.length)).toArray T f)
  | [], o, w, c, h, _ => by simp [World.setCells, h]
  | v :: r, o, w, c, h, hs => by
    rw [World.setCells, setCells_blk r (o + 1) _ _ (setCell_blk h o v) (by simp at hs ⊢; omega)]
    simp only [List.length_cons] at hs
    congr 3
    simp only [Array.toList_setIfInBounds]
    apply List.ext_getElem?
    intro j
    simp only [List.append_assoc, List.getElem?_append, List.length_take, List.length_set, Array.length_toList, List.getElem?_take, List.getElem?_drop, List.getElem?_set, List.length_cons]
    have e1 : min (o + 1) c.size = o + 1 := by omega
    have e2 : min o c.size = o := by omega
    rw [e1, e2]
    by_cases h1 : j < o
    · simp [h1, show j < o + 1 by omega, show o ≠ j by omega]
    · by_cases h2 : j = o
      · subst h2; simp [show j < c.size by omega]
      · have h3 : ¬ j < o + 1 := by omega
        have h5 : j - o = (j - (o + 1)) + 1 := by omega
        simp only [h1, h3, if_false]
        rw [h5, List.getElem?_cons_succ]
        by_cases h4 : j - (o + 1) < r.length
        · simp [h4]
        · rw [if_neg h4, if_neg (by omega), if_neg (by omega)]
          congr 1; omega

/-! ### segments -/

def blk : Option Addr → List Nat
  | none => []
  | some a => [a.block]

/-- the slice '.slice ao n cap' of elements of 'size' cells covers the cells xs of a block that is no string's, with its spare room -/
def Seg (w : World) (e : TypeId) (size : Nat) (ao : Option Addr) (n cap : Nat) (xs : List Value) : Prop :=
  xs.length = n * size ∧ cap ≤ maxLen ∧ n ≤ cap ∧
  ((ao = none ∧ n = 0 ∧ cap = 0) ∨
   ∃ g off cur, ao = some ⟨g, off, none⟩ ∧ w.heap[g]? = some (.cells cur e (0, 0)) ∧ off + cap * size ≤ cur.size ∧ (cur.toList.drop off).take (n * size) = xs)

theorem Seg.nil (w : World) (e : TypeId) (size : Nat) : Seg w e size none 0 0 [] := ⟨by simp, by simp, by simp, .inl ⟨rfl, rfl, rfl⟩⟩

section
variable {w w' : World} {e : TypeId} {size : Nat} {ao : Option Addr} {n cap : Nat} {xs : List Value}

theorem Seg.lt (h : Seg w e size ao n cap xs) : ∀ k ∈ blk ao, k < w.heap.size := by
  intro k hk
  rcases h.2.2.2 with ⟨rfl, _⟩ | ⟨g, off, cur, rfl, hg, _⟩
  · simp [blk] at hk
  · simp [blk] at hk; subst hk; exact lt_of_blk hg

theorem Seg.same (h : Seg w e size ao n cap xs) (hb : ∀ k ∈ blk ao, w'.heap[k]? = w.heap[k]?) : Seg w' e size ao n cap xs := by
  refine ⟨h.1, h.2.1, h.2.2.1, ?_⟩
  rcases h.2.2.2 with h1 | ⟨g, off, cur, rfl, hg, h2⟩
  · exact .inl h1
  · exact .inr ⟨g, off, cur, rfl, (hb g (by simp [blk])).trans hg, h2⟩

theorem Seg.fr {S : List Nat} (h : Seg w e size ao n cap xs) (hf : Fr S w w') (hS : ∀ k ∈ blk ao, k ∉ S) : Seg w' e size ao n cap xs :=
  h.same fun k hk => hf.block k (h.lt k hk) (hS k hk)

theorem Seg.alloc (h : Seg w e size ao n cap xs) (o : Obj) : Seg (w.alloc o) e size ao n cap xs :=
  h.same fun k hk => Go.heap_alloc_old w o (h.lt k hk)

theorem Seg.drew (h : Seg w e size ao n cap xs) : Seg w.drew e size ao n cap xs := h.same fun _ _ => rfl
theorem Seg.drewN (h : Seg w e size ao n cap xs) (m : Nat) : Seg (w.drewN m) e size ao n cap xs := h.same fun _ _ => rfl

theorem Seg.setCell_other (h : Seg w e size ao n cap xs) {p : Addr} {v : Value} (hp : p.block ∉ blk ao) : Seg (w.setCell p v) e size ao n cap xs :=
  h.same fun _ hk => setCell_ne (fun e => hp (e ▸ hk))

/-- an element is there: so there is a block -/
theorem Seg.at (h : Seg w e size ao n cap xs) (hn : 0 < cap) : ∃ g off cur, ao = some ⟨g, off, none⟩ ∧ w.heap[g]? = some (.cells cur e (0, 0)) ∧ off + cap * size ≤ cur.size ∧
    (∀ j, j < n * size → w.cell? ⟨g, off + j, none⟩ = xs[j]?) ∧ ∀ j, w.frozen? ⟨g, j, none⟩ = false := by
  rcases h.2.2.2 with ⟨_, _, hc⟩ | ⟨g, off, cur, rfl, hg, h2, h3⟩
  · omega
  · refine ⟨g, off, cur, rfl, hg, h2, fun j hj => ?_, fun j => frozen_blk hg j⟩
    rw [cell_blk hg, ← h3, List.getElem?_take, if_pos hj, List.getElem?_drop, Array.getElem?_toList]

/-- the slice cut at its head and its end: x[lo:hi:mx] -/
theorem Seg.cut (h : Seg w e size ao n cap xs) {lo hi mx : Nat} (h1 : lo ≤ hi) (h2 : hi ≤ mx) (h3 : mx ≤ cap) (h4 : hi ≤ n) {g off : Nat} (ha : ao = some ⟨g, off, none⟩) :
    Seg w e size (some ⟨g, off + lo * size, none⟩) (hi - lo) (mx - lo) ((xs.drop (lo * size)).take ((hi - lo) * size)) := by
  obtain ⟨e1, e2, e3, e4⟩ := h
  have hx : hi * size ≤ n * size := Nat.mul_le_mul_right _ h4
  have hl : lo * size ≤ hi * size := Nat.mul_le_mul_right _ h1
  have hm : mx * size ≤ cap * size := Nat.mul_le_mul_right _ h3
  have hd : (hi - lo) * size = hi * size - lo * size := Nat.sub_mul _ _ _
  have hd2 : (mx - lo) * size = mx * size - lo * size := Nat.sub_mul _ _ _
  have hlm : lo * size ≤ mx * size := Nat.mul_le_mul_right _ (by omega)
  refine ⟨by simp [e1, hd]; omega, by omega, by omega, .inr ?_⟩
  rcases e4 with ⟨hn, _⟩ | ⟨g', off', cur, ha', hg, k1, k2⟩
  · rw [hn] at ha; cases ha
  · rw [ha'] at ha; cases ha
    refine ⟨g, off + lo * size, cur, rfl, hg, by omega, ?_⟩
    rw [← k2, List.drop_take, List.take_take, List.drop_drop]
    congr 1
    omega

theorem Seg.take (h : Seg w e size ao n cap xs) {k : Nat} (hk : k ≤ n) : Seg w e size ao k cap (xs.take (k * size)) := by
  obtain ⟨e1, e2, e3, e4⟩ := h
  have hx : k * size ≤ n * size := Nat.mul_le_mul_right _ hk
  refine ⟨by rw [List.length_take]; omega, e2, by omega, ?_⟩
  rcases e4 with ⟨hn, h1, h2⟩ | ⟨g', off', cur, ha', hg, k1, k2⟩
  · exact .inl ⟨hn, by omega, h2⟩
  · exact .inr ⟨g', off', cur, ha', hg, k1, by rw [← k2, List.take_take]; congr 1; omega⟩

/-- a store into the segment -/
theorem Seg.store {g off : Nat} (h : Seg w e size (some ⟨g, off, none⟩) n cap xs) {i : Nat} (hi : i < n * size) (v : Value) :
    Seg (w.setCell ⟨g, off + i, none⟩ v) e size (some ⟨g, off, none⟩) n cap (xs.set i v) := by
  obtain ⟨e1, e2, e3, e4⟩ := h
  refine ⟨by simp [e1], e2, e3, .inr ?_⟩
  rcases e4 with ⟨hn, h1, h2⟩ | ⟨g', off', cur, ha', hg, k1, k2⟩
  · cases hn
  · cases ha'
    refine ⟨g, off, _, rfl, setCell_blk hg _ v, by simpa using k1, ?_⟩
    rw [← k2, Array.toList_setIfInBounds]
    apply List.ext_getElem?
    intro j
    simp only [List.getElem?_take, List.getElem?_drop, List.getElem?_set, List.length_take, List.length_drop, Array.length_toList]
    have hb : n * size ≤ cap * size := Nat.mul_le_mul_right _ e3
    by_cases hj : j < n * size
    · by_cases hij : i = j
      · subst hij; simp [hj, show off + i < cur.size by omega, show i < min (n * size) (cur.size - off) by omega]
      · simp [hj, hij]
    · simp [hj, show i ≠ j by omega]

end

theorem Seg.one {w : World} (b : Nat) (c : Array Value) (e : TypeId) (size n : Nat) (h : w.heap[b]? = some (.cells c e (0, 0))) (hs : c.size = n * size) (hm : n ≤ maxLen) :
    Seg w e size (some ⟨b, 0, none⟩) n n c.toList :=
  ⟨by simpa using hs, hm, Nat.le_refl _, .inr ⟨b, 0, c, rfl, h, by omega, by rw [List.drop_zero, ← hs]; exact List.take_of_length_le (by simp)⟩⟩

/-- the slice '.slice ao n _' of elements of 'size' cells reads as the cells xs -/
def Rd (w : World) (size : Nat) (ao : Option Addr) (n : Nat) (xs : List Value) : Prop :=
  xs.length = n * size ∧ n ≤ maxLen ∧ (n = 0 ∨ ∃ g off, ao = some ⟨g, off, none⟩ ∧ g < w.heap.size ∧ ∀ j, j < n * size → w.cell? ⟨g, off + j, none⟩ = xs[j]?)

theorem Seg.rd {w : World} {e : TypeId} {size : Nat} {ao : Option Addr} {n cap : Nat} {xs : List Value} (h : Seg w e size ao n cap xs) : Rd w size ao n xs := by
  refine ⟨h.1, Nat.le_trans h.2.2.1 h.2.1, ?_⟩
  rcases h.2.2.2 with ⟨_, hn, _⟩ | ⟨g, off, cur, rfl, hg, h2, h3⟩
  · exact .inl hn
  · refine .inr ⟨g, off, rfl, lt_of_blk hg, fun j hj => ?_⟩
    rw [cell_blk hg, ← h3, List.getElem?_take, if_pos hj, List.getElem?_drop, Array.getElem?_toList]

theorem Rd.fr {w w' : World} {S : List Nat} {size : Nat} {ao : Option Addr} {n : Nat} {xs : List Value} (h : Rd w size ao n xs) (hf : Fr S w w') (hS : ∀ k ∈ blk ao, k ∉ S) : Rd w' size ao n xs := by
  refine ⟨h.1, h.2.1, ?_⟩
  rcases h.2.2 with hn | ⟨g, off, rfl, hg, hc⟩
  · exact .inl hn
  · refine .inr ⟨g, off, rfl, Nat.lt_of_lt_of_le hg hf.size, fun j hj => ?_⟩
    rw [← hc j hj]
    exact World.cell?_of_block (a := ⟨g, off + j, none⟩) (hf.block g hg (hS g (by simp [blk])))

theorem Rd.at {w : World} {size : Nat} {ao : Option Addr} {n : Nat} {xs : List Value} (h : Rd w size ao n xs) (hn : 0 < n) :
    ∃ g off, ao = some ⟨g, off, none⟩ ∧ g < w.heap.size ∧ ∀ j, j < n * size → w.cell? ⟨g, off + j, none⟩ = xs[j]? := by
  rcases h.2.2 with h1 | h1
  · omega
  · exact h1

/-- the address of x[lo:..:mx] -/
def cutA (ao : Option Addr) (lo mx size : Nat) : Option Addr := if mx = lo then ao else ao.map (·.add (lo * size))

theorem cutA_eq (ao : Option Addr) (lo size : Nat) : cutA ao lo lo size = ao := by simp [cutA]
theorem cutA_ne {g off lo mx size : Nat} (h : mx ≠ lo) : cutA (some ⟨g, off, none⟩) lo mx size = some ⟨g, off + lo * size, none⟩ := by
  simp only [cutA, if_neg h, Option.map_some, Addr.add_mid]
theorem cutA_none (lo mx size : Nat) : cutA none lo mx size = none := by simp [cutA]
theorem cutA_zero {g off : Nat} {mx size : Nat} : cutA (some ⟨g, off, none⟩) 0 mx size = some ⟨g, off, none⟩ := by
  unfold cutA; split <;> simp [Addr.add]

theorem blk_cutA {ao : Option Addr} {lo mx size : Nat} : blk (cutA ao lo mx size) = blk ao := by
  cases ao with
  | none => simp [cutA, blk]
  | some a => unfold cutA; split <;> simp [blk, Addr.add]; split <;> rfl

theorem Seg.cutA {w : World} {e : TypeId} {size : Nat} {ao : Option Addr} {n cap : Nat} {xs : List Value} (h : Seg w e size ao n cap xs) {lo hi mx : Nat} (h1 : lo ≤ hi) (h2 : hi ≤ mx) (h3 : mx ≤ cap) (h4 : hi ≤ n) :
    Seg w e size (cutA ao lo mx size) (hi - lo) (mx - lo) ((xs.drop (lo * size)).take ((hi - lo) * size)) := by
  rcases h.2.2.2 with ⟨rfl, hn, hc⟩ | ⟨g, off, cur, rfl, hg, k1, k2⟩
  · rw [cutA_none, show hi - lo = 0 by omega, show mx - lo = 0 by omega]; simpa using Seg.nil w e size
  · by_cases hm : mx = lo
    · subst hm
      rw [cutA_eq, show hi - mx = 0 by omega, Nat.sub_self]
      exact ⟨by simp, by simp, by simp, .inr ⟨g, off, cur, rfl, hg, by omega, by simp⟩⟩
    · rw [cutA_ne hm]; exact h.cut h1 h2 h3 h4 rfl

/-- x[lo:] -/
theorem run_slice_from {P : Program} (t e : TypeId) (ht : P.underlying t = some (.slice e)) (size : Nat) (hs : (P.info? e).map (fun i => i.size) = some size) (ao : Option Addr) (n cap lo : Nat) (h : lo ≤ n) (w : World) :
    (Instr.slice t (.slice ao n cap) (some (.int .i64 lo)) none none).run P w = .ok (.slice (Proofs.Ytlfomhknfpmhbaa.cutA ao lo cap size) (n - lo) (cap - lo)) w := by
  have he : P.elem t = e := by simp [Program.elem, ht]
  obtain ⟨i, hi, hi2⟩ := Option.map_eq_some_iff.1 hs
  have hsz : (sizeOf e).run P w = .ok size w := by simp [sizeOf, typeInfo, hi, hi2]
  rw [run_slice_l w t ao n cap (by rw [he]; exact ht) .i64 lo (by omega) (by omega), he, hsz]
  rfl

/-- x[:hi] -/
theorem run_slice_to {P : Program} (t e : TypeId) (ht : P.underlying t = some (.slice e)) (size : Nat) (hs : (P.info? e).map (fun i => i.size) = some size) (ao : Option Addr) (n cap hi' : Nat) (h : hi' ≤ cap) (w : World) :
    (Instr.slice t (.slice ao n cap) none (some (.int .i64 hi')) none).run P w = .ok (.slice ao hi' cap) w := by
  have he : P.elem t = e := by simp [Program.elem, ht]
  obtain ⟨i, hi, hi2⟩ := Option.map_eq_some_iff.1 hs
  have hsz : (sizeOf e).run P w = .ok size w := by simp [sizeOf, typeInfo, hi, hi2]
  rw [run_slice_h w t ao n cap (by rw [he]; exact ht) .i64 hi' (by omega) (by omega), he, hsz]
  simp only [Result.andThen, sliced, Int.toNat_natCast, Nat.sub_zero, Nat.zero_mul]
  congr 2
  cases ao with
  | none => split <;> rfl
  | some a => split <;> simp [Addr.add]

/-- x[lo:hi:mx] -/
theorem run_slice_three {P : Program} (t e : TypeId) (ht : P.underlying t = some (.slice e)) (size : Nat) (hs : (P.info? e).map (fun i => i.size) = some size) (ao : Option Addr) (n cap lo hi' mx : Nat) (l h m : Int)
    (el : l = lo) (eh : h = hi') (em : m = mx) (h1 : lo ≤ hi') (h2 : hi' ≤ mx) (h3 : mx ≤ cap) (w : World) :
    (Instr.slice t (.slice ao n cap) (some (.int .i64 l)) (some (.int .i64 h)) (some (.int .i64 m))).run P w = .ok (.slice (Proofs.Ytlfomhknfpmhbaa.cutA ao lo mx size) (hi' - lo) (mx - lo)) w := by
  subst el; subst eh; subst em
  have he : P.elem t = e := by simp [Program.elem, ht]
  obtain ⟨i, hi, hi2⟩ := Option.map_eq_some_iff.1 hs
  have hsz : (sizeOf e).run P w = .ok size w := by simp [sizeOf, typeInfo, hi, hi2]
  rw [run_slice_any w t ao n cap (by rw [he]; exact ht), he]
  have hb : (Instr.sliceBounds true n cap (some (.int .i64 (lo : Int))) (some (.int .i64 (hi' : Int))) (some (.int .i64 (mx : Int)))).run P w = .ok (lo, hi', mx) w := by
    have a1 : (0 : Int) ≤ mx ∧ (mx : Int) ≤ cap := by omega
    have a2 : (0 : Int) ≤ hi' ∧ (hi' : Int) ≤ mx := by omega
    have a3 : (0 : Int) ≤ lo ∧ (lo : Int) ≤ hi' := by omega
    simp [Instr.sliceBounds, run_sliceBound_if, h1, h2, h3]
  rw [hb]
  simp only [Result.andThen, hsz]
  rfl

theorem Seg.news {w : World} {e : TypeId} {size : Nat} {ad : Addr} {n cap : Nat} {xs : List Value} (h : Seg w e size (some ad) n cap xs) : ∀ j u, xs[j]? = some u → w.cell? (ad.add j) = some u := by
  intro j u hu
  rcases h.2.2.2 with ⟨hn, _⟩ | ⟨g, off, cur, ha, hg, k1, k2⟩
  · cases hn
  · cases ha
    have hj : j < n * size := by have := (List.getElem?_eq_some_iff.1 hu).1; rw [h.1] at this; exact this
    rw [Addr.add_mid, cell_blk hg, ← hu, ← k2, List.getElem?_take, if_pos hj, List.getElem?_drop, Array.getElem?_toList]

theorem getElem?_app_lt {xs ys : List Value} {j : Nat} (h : j < xs.length) : (xs ++ ys)[j]? = xs[j]? := List.getElem?_append_left h

theorem splice_take (c news xs : List Value) (off p q : Nat) (hx : xs.length = p) (hn : news.length = q) (ht : (c.drop off).take p = xs) (hc : off + p ≤ c.length) :
    ((c.take (off + p) ++ news ++ c.drop (off + p + news.length)).drop off).take (p + q) = xs ++ news := by
  have e : c.take (off + p) = c.take off ++ xs := by rw [List.take_add, ht]
  have hl : (c.take off).length = off := by simp; omega
  rw [e, List.append_assoc, List.append_assoc, List.drop_append, hl, Nat.sub_self, List.drop_zero, List.drop_of_length_le (by omega), List.nil_append, ← List.append_assoc]
  have hq : (xs ++ news).length = p + q := by simp [hx, hn]
  rw [← hq, List.take_left]

/-- append on a segment: in place, or in a new block -/
theorem run_append_seg {P : Program} (w : World) (t ty e : TypeId) (i : TypeInfo) (z : Value) (size bytes : Nat) (ht : P.underlying t = some (.slice e)) (hi : P.info? e = some i) (hz : i.zero = some z)
    (hsize : i.size = size) (hby : i.bytes = bytes) (hzs : z.cells.size = size) (hsz : 0 < size)
    (ao : Option Addr) (n cap : Nat) (xs : List Value) (hseg : Seg w e size ao n cap xs)
    (a : Addr) (m c : Nat) (news : List Value) (hl : news.length = m * size) (hnews : ∀ j u, news[j]? = some u → w.cell? (a.add j) = some u) (h1 : ∀ u ∈ news, u.oneCell' = true)
    (h63 : n + m ≤ maxLen) (hbytes : (n + m) * bytes ≤ 140737488355328) :
    ∃ ao' cap' w', (Builtin.append_ #[t, t] ty #[.slice ao n cap, .slice (some a) m c]).run P w = .ok (.slice ao' (n + m) cap') w' ∧ Seg w' e size ao' (n + m) cap' (xs ++ news) ∧
      Fr (blk ao) w w' ∧ Ext (blk ao) w (blk ao') := by
  have hsmall : n + m ≤ 9223372036854775807 := by simp only [maxLen] at h63; omega
  obtain ⟨e1, e2, e3, e4⟩ := hseg
  subst hsize; subst hby
  have hlen : (xs ++ news).length = (n + m) * i.size := by rw [List.length_append, e1, hl, Nat.add_mul]
  have grown : ∀ (old : Nat), old < n + m →
      Seg (w.drew.alloc (.cells (xs.toArray ++ news.toArray ++ Builtin.zeroCells z.cells (grownCap w (n + m) old e - (n + m))) e)) e i.size
        (some ⟨w.heap.size, 0, none⟩) (n + m) (grownCap w (n + m) old e) (xs ++ news) ∧
      Fr (blk ao) w (w.drew.alloc (.cells (xs.toArray ++ news.toArray ++ Builtin.zeroCells z.cells (grownCap w (n + m) old e - (n + m))) e)) := by
    intro old ho
    have hge := grownCap_ge w (n + m) old e
    have hcm : grownCap w (n + m) old e ≤ maxLen := grownCap_le_maxLen w (n + m) old e h63
    refine ⟨⟨hlen, hcm, hge, .inr ⟨w.heap.size, 0, _, rfl, alloc_new w.drew _, ?_, ?_⟩⟩, (Fr.refl _ _).drew.alloc _⟩
    · simp only [Array.size_append, List.size_toArray, size_zeroCells, hzs, e1, hl, ← Nat.add_mul, Nat.zero_add]
      exact Nat.mul_le_mul_right _ (by omega)
    · simp only [Array.toList_append, List.append_assoc, List.drop_zero]
      rw [← List.append_assoc, ← hlen]
      exact List.take_left
  rcases e4 with ⟨rfl, rfl, rfl⟩ | ⟨g, off, cur, rfl, hg, hfit, htake⟩
  · have hx : xs = [] := List.eq_nil_of_length_eq_zero (by simpa using e1)
    subst hx
    by_cases hm : m = 0
    · subst hm
      have hn : news = [] := List.eq_nil_of_length_eq_zero (by simpa using hl)
      subst hn
      refine ⟨none, 0, w, ?_, Seg.nil w e i.size, Fr.refl _ _, Ext.refl _ _⟩
      simp [Builtin.append_, run_underlying ht, sizeOf, typeInfo, hi, Builtin.lenOf, Builtin.firstCells, loadCells, loadCellsFrom]
    · have hr := run_append_nil (P := P) w t ty e i z ht hi hz a m c news hl hnews (by omega) (by omega) (by have hb := hbytes; simp only [Nat.zero_add] at hb; omega)
      have hgr := grown 0 (by omega)
      simp only [Nat.zero_add, List.nil_append, Array.empty_append] at hgr ⊢
      exact ⟨_, _, _, hr, hgr.1, hgr.2, fun k hk => by simp [blk] at hk; right; omega⟩
  · by_cases hroom : n + m ≤ cap
    · have hcap : (n + m) * i.size ≤ cap * i.size := Nat.mul_le_mul_right _ hroom
      have hnm : (n + m) * i.size = n * i.size + m * i.size := Nat.add_mul _ _ _
      have hr := run_append_room_cells (P := P) w t ty e i ht hi g off n cap a m c news hl hnews h1 hroom
        (fun j hj => by rw [cell_blk hg, Array.getElem?_eq_getElem (by omega)]; rfl) (fun j hj => frozen_blk hg _)
      refine ⟨_, _, _, hr, ⟨hlen, e2, hroom, .inr ⟨g, off, _, rfl, setCells_blk news _ w cur hg (by omega), ?_, ?_⟩⟩, (Fr.refl _ _).setCells (by simp [blk]) _ _, Ext.refl _ _⟩
      · simp only [List.size_toArray, List.length_append, List.length_take, List.length_drop, Array.length_toList]
        omega
      · rw [hnm]
        exact splice_take cur.toList news xs off (n * i.size) (m * i.size) e1 hl htake (by simp; omega)
    · have holds : ∀ j u, xs[j]? = some u → w.cell? ((⟨g, off, none⟩ : Addr).add j) = some u := by
        intro j u hu
        have hj : j < n * i.size := by have := (List.getElem?_eq_some_iff.1 hu).1; omega
        rw [Addr.add_mid, cell_blk hg, ← hu, ← htake, List.getElem?_take, if_pos hj, List.getElem?_drop, Array.getElem?_toList]
      have hr := run_append_grow (P := P) w t ty e i z ht hi hz ⟨g, off, none⟩ n cap xs e1 holds a m c news hl hnews (by omega) (by omega) (growslice_fits (by omega) hbytes)
      have hgr := grown cap (by omega)
      exact ⟨_, _, _, hr, hgr.1, hgr.2, fun k hk => by simp [blk] at hk; right; omega⟩

theorem wp_append_seg {P : Program} {o : Oper} {a : Act} {w : World} {K : Act → World → Prop} {Q : Exit → Act → World → Prop} (s x : Operand) (t : TypeId)
    (ho : o.op = .call { callee := .builtin .append, args := #[s, x], argTypes := #[t, t] })
    (e : TypeId) (i : TypeInfo) (z : Value) (size bytes : Nat) (ht : P.underlying t = some (.slice e)) (hi : P.info? e = some i) (hz : i.zero = some z)
    (hsize : i.size = size) (hby : i.bytes = bytes) (hzs : z.cells.size = size) (hsz : 0 < size)
    (ao : Option Addr) (n cap : Nat) (xs : List Value) (hs : a.eval s = .slice ao n cap) (hseg : Seg w e size ao n cap xs)
    (ad : Addr) (m c : Nat) (news : List Value) (hx : a.eval x = .slice (some ad) m c) (hl : news.length = m * size) (hnews : ∀ j u, news[j]? = some u → w.cell? (ad.add j) = some u) (h1 : ∀ u ∈ news, u.oneCell' = true)
    (h63 : n + m ≤ maxLen) (hbytes : (n + m) * bytes ≤ 140737488355328)
    (h : ∀ ao' cap' w', Seg w' e size ao' (n + m) cap' (xs ++ news) → Fr (blk ao) w w' → Ext (blk ao) w (blk ao') → K (a.put o.dst (.slice ao' (n + m) cap')) w') : o.wp P a w K Q := by
  obtain ⟨ao', cap', w', hr, h2, h3, h4⟩ := run_append_seg (P := P) w t o.type e i z size bytes ht hi hz hsize hby hzs hsz ao n cap xs hseg ad m c news hl hnews h1 h63 hbytes
  unfold Oper.wp execOp
  simp only [ho, resolve, invoke, builtin, Sem.run_bind, Sem.run_pure, Result.andThen_ok, List.map_toArray, List.map_cons, List.map_nil, hs, hx, hr]
  exact h ao' cap' w' h2 h3 h4

theorem wpList_append_seg {P : Program} {ops : Array Oper} {rest : List Oper} {o : Oper} {a : Act} {w : World} {Q : Exit → Act → World → Prop} (hgd : o.guard = none) (s x : Operand) (t : TypeId)
    (ho : o.op = .call { callee := .builtin .append, args := #[s, x], argTypes := #[t, t] })
    (e : TypeId) (i : TypeInfo) (z : Value) (size bytes : Nat) (ht : P.underlying t = some (.slice e)) (hi : P.info? e = some i) (hz : i.zero = some z)
    (hsize : i.size = size) (hby : i.bytes = bytes) (hzs : z.cells.size = size) (hsz : 0 < size)
    (ao : Option Addr) (n cap : Nat) (xs : List Value) (hs : a.eval s = .slice ao n cap) (hseg : Seg w e size ao n cap xs)
    (ad : Addr) (m c : Nat) (news : List Value) (hx : a.eval x = .slice (some ad) m c) (hl : news.length = m * size) (hnews : ∀ j u, news[j]? = some u → w.cell? (ad.add j) = some u) (h1 : ∀ u ∈ news, u.oneCell' = true)
    (h63 : n + m ≤ maxLen) (hbytes : (n + m) * bytes ≤ 140737488355328)
    (h : ∀ ao' cap' w', Seg w' e size ao' (n + m) cap' (xs ++ news) → Fr (blk ao) w w' → Ext (blk ao) w (blk ao') → wpList P ops Q rest (a.put o.dst (.slice ao' (n + m) cap')) w') :
    wpList P ops Q (o :: rest) a w :=
  wpList_plain hgd fun _ hK => wp_append_seg s x t ho e i z size bytes ht hi hz hsize hby hzs hsz ao n cap xs hs hseg ad m c news hx hl hnews h1 h63 hbytes fun ao' cap' w' a1 a2 a3 => hK _ _ (h ao' cap' w' a1 a2 a3)

theorem step_append_seg {P : Program} {ops : Array Oper} {o : Oper} {a : Act} {w : World} {K : Act → World → Prop} {Q : Exit → Act → World → Prop} {E : Prop} (hgd : o.guard = none) (s x : Operand) (t : TypeId)
    (ho : o.op = .call { callee := .builtin .append, args := #[s, x], argTypes := #[t, t] })
    (e : TypeId) (i : TypeInfo) (z : Value) (size bytes : Nat) (ht : P.underlying t = some (.slice e)) (hi : P.info? e = some i) (hz : i.zero = some z)
    (hsize : i.size = size) (hby : i.bytes = bytes) (hzs : z.cells.size = size) (hsz : 0 < size)
    (ao : Option Addr) (n cap : Nat) (xs : List Value) (hs : a.eval s = .slice ao n cap) (hseg : Seg w e size ao n cap xs)
    (ad : Addr) (m c : Nat) (news : List Value) (hx : a.eval x = .slice (some ad) m c) (hl : news.length = m * size) (hnews : ∀ j u, news[j]? = some u → w.cell? (ad.add j) = some u) (h1 : ∀ u ∈ news, u.oneCell' = true)
    (h63 : n + m ≤ maxLen) (hbytes : (n + m) * bytes ≤ 140737488355328)
    (h : ∀ ao' cap' w', Seg w' e size ao' (n + m) cap' (xs ++ news) → Fr (blk ao) w w' → Ext (blk ao) w (blk ao') → K (a.put o.dst (.slice ao' (n + m) cap')) w') :
    if Region.wanted o (yielded ops a.tmps) = true then Oper.wp P o a w K Q else E := by
  rw [if_pos (by simp [Region.wanted, hgd])]
  exact wp_append_seg s x t ho e i z size bytes ht hi hz hsize hby hzs hsz ao n cap xs hs hseg ad m c news hx hl hnews h1 h63 hbytes h

end Go.Proofs.Ytlfomhknfpmhbaa
