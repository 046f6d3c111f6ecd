/- Mem, Row, Val, Val2, Val3, VisP, VisB, VisR (merged by merge.py). -/
import Derived.Test.YtcgndeggemceaaaProg
import Derived.Test.YtcgndeggemceaaaZ280
import Derived.DataReads
import Derived.OpenShut
import Derived.Laws.Bits64b
import Derived.IntWalk
/- Package cellmem: what a memory is in the heap, and the contracts of its small methods. -/
namespace Go.Proofs.Ytcgndeggemceaaa
open Go.RowKit

theorem ret_int {k : IntKind} {a b : Int} (h : a = b) : Ending.returned (.int k a) = .returned (.int k b) := by rw [h]
theorem ret_bool {a b : Bool} (h : a = b) : Ending.returned (.bool a) = .returned (.bool b) := by rw [h]

structure MemS where
  cells : List Int
  log : List (Int × Int)
  base : Int

def ints (l : List Int) : List Value := l.map (Value.int .i64)
def pairs (l : List (Int × Int)) : List Value := l.flatMap fun x => [.int .i64 x.1, .int .i64 x.2]

theorem ints_length (l : List Int) : (ints l).length = l.length := by simp [ints]
theorem ints_get (l : List Int) (j : Nat) : (ints l)[j]? = l[j]?.map (Value.int .i64) := by simp [ints]
theorem ints_append (l m : List Int) : ints (l ++ m) = ints l ++ ints m := by simp [ints]
theorem pairs_length (l : List (Int × Int)) : (pairs l).length = l.length * 2 := by
  induction l with
  | nil => rfl
  | cons x l ih => simp only [pairs, List.flatMap_cons, List.length_append, List.length_cons, List.length_nil] at ih ⊢; omega
theorem pairs_append (l m : List (Int × Int)) : pairs (l ++ m) = pairs l ++ pairs m := by simp [pairs]
theorem pairs_cons (x : Int × Int) (m : List (Int × Int)) : pairs (x :: m) = .int .i64 x.1 :: .int .i64 x.2 :: pairs m := by simp [pairs]
theorem pairs_drop (k : Nat) (l : List (Int × Int)) : (pairs l).drop (k * 2) = pairs (l.drop k) := by
  induction l generalizing k with
  | nil => simp [pairs]
  | cons x l ih =>
    cases k with
    | zero => simp
    | succ k => rw [pairs_cons, List.drop_succ_cons, ← ih k, show (k + 1) * 2 = k * 2 + 1 + 1 by omega, List.drop_succ_cons, List.drop_succ_cons]
theorem pairs_take (k : Nat) (l : List (Int × Int)) : (pairs l).take (k * 2) = pairs (l.take k) := by
  induction l generalizing k with
  | nil => simp [pairs]
  | cons x l ih =>
    cases k with
    | zero => simp [pairs]
    | succ k => rw [pairs_cons, List.take_succ_cons, pairs_cons, ← ih k, show (k + 1) * 2 = k * 2 + 1 + 1 by omega, List.take_succ_cons, List.take_succ_cons]
theorem pairs_get0 (l : List (Int × Int)) (k : Nat) : (pairs l)[k * 2]? = l[k]?.map fun x => .int .i64 x.1 := by
  induction l generalizing k with
  | nil => simp [pairs]
  | cons x l ih =>
    cases k with
    | zero => simp [pairs]
    | succ k => rw [pairs_cons, show (k + 1) * 2 = k * 2 + 1 + 1 by omega, List.getElem?_cons_succ, List.getElem?_cons_succ, ih]; simp
theorem pairs_get1 (l : List (Int × Int)) (k : Nat) : (pairs l)[k * 2 + 1]? = l[k]?.map fun x => .int .i64 x.2 := by
  induction l generalizing k with
  | nil => simp [pairs]
  | cons x l ih =>
    cases k with
    | zero => simp [pairs]
    | succ k => rw [pairs_cons, show (k + 1) * 2 = k * 2 + 1 + 1 by omega, List.getElem?_cons_succ, List.getElem?_cons_succ, ih]; simp

theorem ints_one (l : List Int) : ∀ u ∈ ints l, u.oneCell' = true := by
  intro u hu; simp only [ints, List.mem_map] at hu; obtain ⟨_, _, rfl⟩ := hu; rfl
theorem pairs_one (l : List (Int × Int)) : ∀ u ∈ pairs l, u.oneCell' = true := by
  intro u hu; simp only [pairs, List.mem_flatMap] at hu; obtain ⟨x, _, hx⟩ := hu; simp at hx; rcases hx with rfl | rfl <;> rfl








section
variable {w : World} {p : Nat} {F : List Nat} {s : MemS}




def MemS.has (s : MemS) (i : Int) : Bool := decide (0 ≤ i ∧ i < s.cells.length)
def MemS.get (s : MemS) (i : Int) : Int := if s.has i then s.cells.getD i.toNat 0 else 0
def MemS.mark (s : MemS) : Int := s.base + s.log.length





def MemS.check (s : MemS) (m : Int) : Int := if m < s.base then 24 else if s.base + s.log.length < m then 6 else 0

end
end Go.Proofs.Ytcgndeggemceaaa
/- What a row is told of a slice of ints that came in, in the form of these texts. -/
namespace Go.Proofs.Ytcgndeggemceaaa
open Go.RowKit

theorem rd_of_row {w : World} {a : Option Addr} {len cap : Nat} {zs : List Int}
    (h : (a = none ∧ len = 0 ∧ cap = 0 ∧ zs = []) ∨
      ∃ x, a = some x ∧ len ≤ cap ∧ cap ≤ maxLen ∧ zs.length = cap ∧ (∀ i, i < zs.length → w.cell? (x.add i) = some (.int .i64 (zs.getD i 0))) ∧ ∀ n ∈ zs, (Lit.int .i64 n).wf = true) :
    ∃ l : List Int, l.length = len ∧ Rd w 1 a l.length (ints l) ∧ ∀ x ∈ l, -9223372036854775808 ≤ x ∧ x ≤ 9223372036854775807 := by
  rcases h with ⟨rfl, rfl, rfl, rfl⟩ | ⟨x, rfl, hl, hm, hz, hc, hw⟩
  · exact ⟨[], rfl, ⟨rfl, by simp, .inl rfl⟩, by simp⟩
  · have hlen : (zs.take len).length = len := by simp; omega
    refine ⟨zs.take len, hlen, ⟨by simp [ints_length], by rw [hlen]; omega, ?_⟩, fun y hy => ?_⟩
    · rw [hlen]
      rcases Nat.eq_zero_or_pos len with h0 | h0
      · exact .inl h0
      · right
        have h1 := hc 0 (by omega)
        have hs : x.spot = none := by
          have := World.cell?_spot h1
          simpa [Addr.add] using this
        have hg : x.block < w.heap.size := by
          have h2 : w.cell? x = some (.int .i64 (zs.getD 0 0)) := by simpa [Addr.add] using h1
          unfold World.cell? at h2
          cases hb : w.heap[x.block]? with
          | none => rw [hb] at h2; cases h2
          | some o => exact lt_of_blk hb
        obtain ⟨g, off, sp⟩ := x
        simp only at hs
        subst hs
        refine ⟨g, off, rfl, hg, fun j hj => ?_⟩
        have h3 := hc j (by omega)
        rw [Addr.add_mid] at h3
        rw [h3, ints_get, List.getElem?_take_of_lt (by omega), List.getElem?_eq_getElem (by omega)]
        simp [List.getD_eq_getElem?_getD, show j < zs.length by omega]
    · have := Go.bounds_i64 (hw y (List.mem_of_mem_take hy))
      exact ⟨by omega, by omega⟩
end Go.Proofs.Ytcgndeggemceaaa
/- Package layout: within, proper, validNumbers, validBody. -/
namespace Go.Proofs.Ytcgndeggemceaaa
open Go.RowKit

def inB (lo hi x : Int) : Bool := decide (lo ≤ x ∧ x ≤ hi)
def allB (lo hi : Int) (xs : List Int) : Bool := xs.all (inB lo hi)


theorem alloc_new2 (w : World) (o o' : Obj) : ((w.alloc o).alloc o').heap[w.heap.size + 1]? = some o' := by
  have := alloc_new (w.alloc o) o'
  rwa [World.size_alloc] at this


def BX (x0 y0 x1 y1 : Int) : Value := .agg #[.int .i64 x0, .int .i64 y0, .int .i64 x1, .int .i64 y1]
def properB (x0 y0 x1 y1 : Int) : Bool := decide (x0 ≤ x1) && decide (y0 ≤ y1) && (inB (-1048576) 1048576 x0 && inB (-1048576) 1048576 y0 && inB (-1048576) 1048576 x1 && inB (-1048576) 1048576 y1)

end Go.Proofs.Ytcgndeggemceaaa
/- Package layout: validNumbers, validBody. -/
namespace Go.Proofs.Ytcgndeggemceaaa
open Go.RowKit

def stCells (s : St) : Array Value := #[.int .i64 s.players, .slice s.bo s.nb s.bc, .int .i64 s.x0, .int .i64 s.y0, .int .i64 s.x1, .int .i64 s.y1, .slice s.ro s.rn s.rc, .slice s.dO s.dn s.dc, .int .i64 s.fog, .int .i64 s.gx, .int .i64 s.gy, .int .i64 s.push, .int .i64 s.drag, .int .i64 s.rest, .int .i64 s.rounds, .int .i64 s.fuel]

/-- a body -/
structure Bd where
  rad : Int
  po : Option Addr
  pn : Nat
  pc : Nat
  px : Int
  py : Int
  vx : Int
  vy : Int
  im : Int
  a : Int
  b : Int
def Bd.cells (d : Bd) : List Value := [.int .i64 d.rad, .slice d.po d.pn d.pc, .int .i64 d.px, .int .i64 d.py, .int .i64 d.vx, .int .i64 d.vy, .int .i64 d.im, .int .i64 d.a, .int .i64 d.b]
def Bd.shape (d : Bd) : Value := .agg #[.int .i64 d.rad, .slice d.po d.pn d.pc]
def Bd.motion (d : Bd) : Value := .agg #[.int .i64 d.px, .int .i64 d.py, .int .i64 d.vx, .int .i64 d.vy, .int .i64 d.im]
def Bd.val (d : Bd) : Value := .agg #[.int .i64 d.rad, .slice d.po d.pn d.pc, .int .i64 d.px, .int .i64 d.py, .int .i64 d.vx, .int .i64 d.vy, .int .i64 d.im, .int .i64 d.a, .int .i64 d.b]

def n1 (s : St) : Bool := inB (1) (8) s.players
def n2 (s : St) : Bool := inB (s.players) (24) (s.nb : Int)
def n3 (s : St) : Bool := inB (0) (4194304) s.fog
def n4 (s : St) : Bool := inB (-16384) (16384) s.gx && inB (-16384) (16384) s.gy
def n5 (s : St) : Bool := inB (0) (16384) s.push
def n6 (s : St) : Bool := inB (0) (1024) s.drag && inB (0) (1024) s.rest
def n7 (s : St) : Bool := inB (1) (4) s.rounds
def n8 (s : St) : Bool := inB (0) (1000) s.fuel
def numsB (s : St) : Bool := n1 s && n2 s && n3 s && n4 s && n5 s && n6 s && n7 s && n8 s
theorem St.bnd (s : St) : 0 ≤ (s.nb : Int) := by omega

def d1 (d : Bd) (x0 y0 x1 y1 : Int) : Bool := inB (0) (4096) d.im
def d2 (d : Bd) (x0 y0 x1 y1 : Int) : Bool := inB (-16384) (16384) d.vx && inB (-16384) (16384) d.vy
def d3 (d : Bd) (x0 y0 x1 y1 : Int) : Bool := inB (x0) (x1) d.px
def d4 (d : Bd) (x0 y0 x1 y1 : Int) : Bool := inB (y0) (y1) d.py
def d5 (d : Bd) (x0 y0 x1 y1 : Int) : Bool := inB (-2147483647) (2147483647) d.a && inB (-2147483647) (2147483647) d.b
def bodyB (d : Bd) (x0 y0 x1 y1 : Int) : Bool := d1 d x0 y0 x1 y1 && d2 d x0 y0 x1 y1 && d3 d x0 y0 x1 y1 && d4 d x0 y0 x1 y1 && d5 d x0 y0 x1 y1
theorem alloc_new3 (w : World) (a b o' : Obj) : (((w.alloc a).alloc b).alloc o').heap[w.heap.size + 1 + 1]? = some o' := by
  have := alloc_new ((w.alloc a).alloc b) o'
  rwa [World.size_alloc, World.size_alloc] at this
theorem alloc_new4 (w : World) (a b c o' : Obj) : ((((w.alloc a).alloc b).alloc c).alloc o').heap[w.heap.size + 1 + 1 + 1]? = some o' := by
  have := alloc_new (((w.alloc a).alloc b).alloc c) o'
  rwa [World.size_alloc, World.size_alloc, World.size_alloc] at this

end Go.Proofs.Ytcgndeggemceaaa
/- Package layout: validMap. -/
namespace Go.Proofs.Ytcgndeggemceaaa
open Go.RowKit

theorem flat_len {α : Type} (f : α → List Value) (k : Nat) (hk : ∀ x, (f x).length = k) : ∀ (l : List α), (l.flatMap f).length = l.length * k
  | [] => by simp
  | x :: l => by rw [List.flatMap_cons, List.length_append, hk, flat_len f k hk l, List.length_cons, Nat.add_mul]; omega
theorem flat_get {α : Type} (f : α → List Value) (k : Nat) (hk : ∀ x, (f x).length = k) : ∀ (l : List α) (i j : Nat) (hi : i < l.length), j < k → (l.flatMap f)[i * k + j]? = (f l[i])[j]?
  | [], _, _, hi, _ => by simp at hi
  | x :: l, 0, j, _, hj => by
    rw [List.flatMap_cons, Nat.zero_mul, Nat.zero_add, List.getElem?_append_left (by rw [hk]; exact hj)]; rfl
  | x :: l, i + 1, j, hi, hj => by
    rw [List.flatMap_cons, List.getElem?_append_right (by rw [hk, Nat.add_mul]; omega), hk, show (i + 1) * k + j - k = i * k + j by rw [Nat.add_mul]; omega]
    exact flat_get f k hk l i j (by simpa using hi) hj

structure Bx where
  x0 : Int
  y0 : Int
  x1 : Int
  y1 : Int
def Bx.cells (b : Bx) : List Value := [.int .i64 b.x0, .int .i64 b.y0, .int .i64 b.x1, .int .i64 b.y1]
def Bx.ok (b : Bx) : Bool := properB b.x0 b.y0 b.x1 b.y1
def drCells (d : Int × Int) : List Value := [.int .i64 d.1, .int .i64 d.2]
def drOk (n : Int) (d : Int × Int) : Bool := (inB 0 n d.1 && inB 0 n d.2) && !(d.1 == d.2)

def mapB (rooms : List Bx) (doors : List (Int × Int)) : Bool := decide (rooms.length ≤ 8) && decide (doors.length ≤ 16) && rooms.all Bx.ok && doors.all (drOk ((rooms.length : Int) - 1))

/-- what a setup's rooms and doors lead to -/
structure MapAt (w : World) (s : St) (rooms : List Bx) (doors : List (Int × Int)) : Prop where
  rn : s.rn = rooms.length
  dn : s.dn = doors.length
  rr : Rd w 4 s.ro rooms.length (rooms.flatMap Bx.cells)
  dr : Rd w 2 s.dO doors.length (doors.flatMap drCells)
theorem MapAt.old {w w' : World} {s : St} {rooms : List Bx} {doors : List (Int × Int)} (h : MapAt w s rooms doors) (hf : Fr [] w w') : MapAt w' s rooms doors := ⟨h.rn, h.dn, h.rr.fr hf (by simp), h.dr.fr hf (by simp)⟩

theorem Rd.room {w : World} {ao : Option Addr} {rooms : List Bx} (h : Rd w 4 ao rooms.length (rooms.flatMap Bx.cells)) {i : Nat} (hi : i < rooms.length) : ∃ g off, ao = some ⟨g, off, none⟩ ∧ g < w.heap.size ∧
    w.cell? ⟨g, off + i * 4, none⟩ = some (.int .i64 rooms[i].x0) ∧ w.cell? ⟨g, off + i * 4 + 1, none⟩ = some (.int .i64 rooms[i].y0) ∧ w.cell? ⟨g, off + i * 4 + 2, none⟩ = some (.int .i64 rooms[i].x1) ∧ w.cell? ⟨g, off + i * 4 + 3, none⟩ = some (.int .i64 rooms[i].y1) := by
  obtain ⟨g, off, ha, hg, hc⟩ := h.at (by omega)
  have key : ∀ j, j < 4 → w.cell? ⟨g, off + (i * 4 + j), none⟩ = (Bx.cells rooms[i])[j]? := fun j hj => by
    rw [hc _ (by omega), flat_get Bx.cells 4 (fun _ => rfl) rooms i j hi hj]
  refine ⟨g, off, ha, hg, ?_, ?_, ?_, ?_⟩
  · have := key 0 (by omega); rw [Nat.add_zero] at this; exact this
  · have := key 1 (by omega); rw [← Nat.add_assoc] at this; exact this
  · have := key 2 (by omega); rw [← Nat.add_assoc] at this; exact this
  · have := key 3 (by omega); rw [← Nat.add_assoc] at this; exact this

theorem Rd.door {w : World} {ao : Option Addr} {doors : List (Int × Int)} (h : Rd w 2 ao doors.length (doors.flatMap drCells)) {i : Nat} (hi : i < doors.length) : ∃ g off, ao = some ⟨g, off, none⟩ ∧ g < w.heap.size ∧
    w.cell? ⟨g, off + i * 2, none⟩ = some (.int .i64 doors[i].1) ∧ w.cell? ⟨g, off + i * 2 + 1, none⟩ = some (.int .i64 doors[i].2) := by
  obtain ⟨g, off, ha, hg, hc⟩ := h.at (by omega)
  have key : ∀ j, j < 2 → w.cell? ⟨g, off + (i * 2 + j), none⟩ = (drCells doors[i])[j]? := fun j hj => by
    rw [hc _ (by omega), flat_get drCells 2 (fun _ => rfl) doors i j hi hj]
  refine ⟨g, off, ha, hg, ?_, ?_⟩
  · have := key 0 (by omega); rw [Nat.add_zero] at this; exact this
  · have := key 1 (by omega); rw [← Nat.add_assoc] at this; exact this

theorem not_all_of {α : Type} {l : List α} {p : α → Bool} {i : Nat} (hi : i < l.length) (h : p l[i] = false) : l.all p = false := by
  rw [List.all_eq_false]
  exact ⟨l[i], List.getElem_mem hi, by rw [h]; simp⟩
theorem all_snoc {α : Type} {l : List α} {p : α → Bool} {i : Nat} (hi : i < l.length) (ht : (l.take i).all p = true) (h : p l[i] = true) : (l.take (i + 1)).all p = true := by
  rw [List.take_succ_eq_append_getElem hi, List.all_append, ht]
  simp [h]

end Go.Proofs.Ytcgndeggemceaaa
/- Chapter 27, plain: rooms, doors, what is connected. -/
namespace Go.Proofs.Ytcgndeggemceaaa
open Go.RowKit

def inBx (b : Bx) (x y : Int) : Bool := decide (b.x0 ≤ x) && decide (x ≤ b.x1) && decide (b.y0 ≤ y) && decide (y ≤ b.y1)
def roomN (rooms : List Bx) (x y : Int) : Nat := rooms.findIdx fun b => inBx b x y
def roomOf (rooms : List Bx) (x y : Int) : Int := if roomN rooms x y < rooms.length then (roomN rooms x y : Int) else -1
/-- no room among the first i holds the point -/
def NoRoom (rooms : List Bx) (x y : Int) (i : Nat) : Prop := ∀ j (h : j < rooms.length), j < i → inBx rooms[j] x y = false

theorem NoRoom.zero (rooms : List Bx) (x y : Int) : NoRoom rooms x y 0 := fun _ _ h => by omega
theorem NoRoom.step {rooms : List Bx} {x y : Int} {i : Nat} (h : NoRoom rooms x y i) (hi : i < rooms.length) (h0 : inBx rooms[i] x y = false) : NoRoom rooms x y (i + 1) := fun j hj hji => by
  by_cases e : j = i
  · subst e; exact h0
  · exact h j hj (by omega)
theorem roomN_hit {rooms : List Bx} {x y : Int} {i : Nat} (h : NoRoom rooms x y i) (hi : i < rooms.length) (h1 : inBx rooms[i] x y = true) : roomN rooms x y = i := by
  unfold roomN
  rw [List.findIdx_eq hi]
  exact ⟨h1, fun j hj => h j (by omega) hj⟩
theorem roomOf_hit {rooms : List Bx} {x y : Int} {i : Nat} (h : NoRoom rooms x y i) (hi : i < rooms.length) (h1 : inBx rooms[i] x y = true) : (i : Int) = roomOf rooms x y := by
  unfold roomOf
  rw [roomN_hit h hi h1, if_pos hi]
theorem roomOf_none {rooms : List Bx} {x y : Int} (h : NoRoom rooms x y rooms.length) : (-1 : Int) = roomOf rooms x y := by
  unfold roomOf
  rw [if_neg]
  intro hlt
  have h1 := List.findIdx_getElem (w := hlt)
  have h2 := h _ hlt hlt
  unfold roomN at h2
  rw [h1] at h2
  cases h2
theorem roomOf_lt (rooms : List Bx) (x y : Int) : -1 ≤ roomOf rooms x y ∧ roomOf rooms x y < (rooms.length : Int) := by
  unfold roomOf
  split <;> omega
theorem inBx_yes {b : Bx} {x y : Int} (h0 : b.x0 ≤ x) (h1 : x ≤ b.x1) (h2 : b.y0 ≤ y) (h3 : y ≤ b.y1) : inBx b x y = true := by simp [inBx, h0, h1, h2, h3]
theorem inBx_no {b : Bx} {x y : Int} (h : ¬ (b.x0 ≤ x ∧ x ≤ b.x1 ∧ b.y0 ≤ y ∧ y ≤ b.y1)) : inBx b x y = false := by
  rw [Bool.eq_false_iff]
  intro h2
  apply h
  simpa [inBx, and_assoc] using h2

def drHas (a b : Int) (d : Int × Int) : Bool := (d.1 == a && d.2 == b) || (d.1 == b && d.2 == a)
def connB (doors : List (Int × Int)) (a b : Int) : Bool := doors.any (drHas a b) || (a == b)
theorem connB_hit {doors : List (Int × Int)} {a b : Int} {i : Nat} (hi : i < doors.length) (h : drHas a b doors[i] = true) : connB doors a b = true := by
  unfold connB
  rw [List.any_eq_true.2 ⟨doors[i], List.getElem_mem hi, h⟩]; rfl
theorem any_snoc {α : Type} {l : List α} {p : α → Bool} {i : Nat} (hi : i < l.length) (ht : (l.take i).any p = false) (h : p l[i] = false) : (l.take (i + 1)).any p = false := by
  rw [List.take_succ_eq_append_getElem hi, List.any_append, ht]
  simp [h]
end Go.Proofs.Ytcgndeggemceaaa
/- Chapter 27, plain: the set of the visible rooms as the bits of a number. -/
namespace Go.Proofs.Ytcgndeggemceaaa
open Go Go.RowKit

theorem bits_or_u64 (a b : Nat) (ha : a < 256) (hb : b < 256) : bits .or .u64 (a : Int) (b : Int) = ((a ||| b : Nat) : Int) := by
  have hx : a ||| b < 2 ^ 8 := Nat.or_lt_two_pow (by omega) (by omega)
  have h1 : (BitVec.ofInt 64 (a : Int)).toNat = a := by rw [BitVec.ofInt_natCast, BitVec.toNat_ofNat]; exact Nat.mod_eq_of_lt (by omega)
  have h2 : (BitVec.ofInt 64 (b : Int)).toNat = b := by rw [BitVec.ofInt_natCast, BitVec.toNat_ofNat]; exact Nat.mod_eq_of_lt (by omega)
  show IntKind.u64.wrap ((BitVec.ofInt 64 (a : Int) ||| BitVec.ofInt 64 (b : Int)).toNat : Int) = _
  rw [BitVec.toNat_or, h1, h2]
  exact IntWalk.u64_in _ (by omega)

theorem bits_and_u64 (a b : Nat) (ha : a < 256) (hb : b < 256) : bits .and .u64 (a : Int) (b : Int) = ((a &&& b : Nat) : Int) := by
  have hx : a &&& b < 2 ^ 8 := Nat.and_lt_two_pow _ (by omega)
  have h1 : (BitVec.ofInt 64 (a : Int)).toNat = a := by rw [BitVec.ofInt_natCast, BitVec.toNat_ofNat]; exact Nat.mod_eq_of_lt (by omega)
  have h2 : (BitVec.ofInt 64 (b : Int)).toNat = b := by rw [BitVec.ofInt_natCast, BitVec.toNat_ofNat]; exact Nat.mod_eq_of_lt (by omega)
  show IntKind.u64.wrap ((BitVec.ofInt 64 (a : Int) &&& BitVec.ofInt 64 (b : Int)).toNat : Int) = _
  rw [BitVec.toNat_and, h1, h2]
  exact IntWalk.u64_in _ (by omega)

/-- the room's own bit -/
def bitN (k : Int) : Nat := 2 ^ k.toNat
theorem bitN_lt {k : Int} (h1 : k < 8) : bitN k < 256 := by
  unfold bitN
  exact Nat.lt_of_lt_of_le (Nat.pow_lt_pow_right (by omega) (by omega : k.toNat < 8)) (by omega)
theorem bitN_test {k : Int} (h0 : 0 ≤ k) (j : Nat) : (bitN k).testBit j = (k == (j : Int)) := by
  unfold bitN
  rw [Nat.testBit_two_pow]
  rw [Bool.eq_iff_iff]; simp; omega
theorem and_bitN (V : Nat) {k : Int} (h0 : 0 ≤ k) : ((V &&& bitN k) = 0) ↔ V.testBit k.toNat = false := by
  constructor
  · intro h
    have := congrArg (fun x => x.testBit k.toNat) h
    simpa [Nat.testBit_and, bitN, Nat.testBit_two_pow] using this
  · intro h
    apply Nat.eq_of_testBit_eq
    intro j
    rw [Nat.testBit_and, bitN_test h0, Nat.zero_testBit]
    by_cases e : k.toNat = j
    · rw [← e, h]; rfl
    · have : (k == (j : Int)) = false := beq_eq_false_iff_ne.2 (by omega)
      rw [this, Bool.and_false]

/-- the set of the rooms visible from a room by its first doors -/
def VisK (doors : List (Int × Int)) (i : Nat) (r : Int) (V : Nat) : Prop :=
  V < 256 ∧ ∀ k : Nat, k < 8 → V.testBit k = ((doors.take i).any (drHas r k) || (r == (k : Int)))
theorem VisK.start (doors : List (Int × Int)) {r : Int} (h0 : 0 ≤ r) (h1 : r < 8) : VisK doors 0 r (bitN r) := ⟨bitN_lt h1, fun k _ => by rw [bitN_test h0]; rfl⟩
theorem VisK.full {doors : List (Int × Int)} {r : Int} {V : Nat} (h : VisK doors doors.length r V) {k : Nat} (hk : k < 8) : V.testBit k = connB doors r (k : Int) := by
  rw [h.2 k hk, List.take_length]; rfl
theorem or256 {a b : Nat} (ha : a < 256) (hb : b < 256) : (a ||| b) < 256 := by
  have : a ||| b < 2 ^ 8 := Nat.or_lt_two_pow (by omega) (by omega)
  omega
theorem VisK.no {doors : List (Int × Int)} {i : Nat} {r : Int} {V : Nat} (h : VisK doors i r V) (hi : i < doors.length) {p q : Int} (hd : doors[i] = (p, q)) (h1 : (r == p) = false) (h2 : (r == q) = false) : VisK doors (i + 1) r V := by
  refine ⟨h.1, fun k hk => ?_⟩
  rw [h.2 k hk, List.take_succ_eq_append_getElem hi, List.any_append, hd]
  have e1 : (p == r) = false := by rw [beq_eq_false_iff_ne] at h1 ⊢; exact fun e => h1 e.symm
  have e2 : (q == r) = false := by rw [beq_eq_false_iff_ne] at h2 ⊢; exact fun e => h2 e.symm
  simp [drHas, e1, e2]
theorem VisK.one {doors : List (Int × Int)} {i : Nat} {r : Int} {V : Nat} (h : VisK doors i r V) (hi : i < doors.length) {p q : Int} (hd : doors[i] = (p, q)) (hq : 0 ≤ q ∧ q < 8) (h1 : (r == p) = true) : VisK doors (i + 1) r (V ||| bitN q) := by
  have e : r = p := beq_iff_eq.1 h1
  subst e
  refine ⟨or256 h.1 (bitN_lt hq.2), fun k hk => ?_⟩
  rw [Nat.testBit_or, h.2 k hk, bitN_test hq.1, List.take_succ_eq_append_getElem hi, List.any_append, hd]
  simp only [drHas, List.any_cons, List.any_nil, Bool.or_false, beq_self_eq_true, Bool.true_and]
  cases (doors.take i).any (drHas r k) <;> cases e1 : (r == (k : Int)) <;> cases (q == (k : Int)) <;> simp
theorem VisK.two {doors : List (Int × Int)} {i : Nat} {r : Int} {V : Nat} (h : VisK doors i r V) (hi : i < doors.length) {p q : Int} (hd : doors[i] = (p, q)) (hp : 0 ≤ p ∧ p < 8) (h1 : (r == p) = false) (h2 : (r == q) = true) : VisK doors (i + 1) r (V ||| bitN p) := by
  have e : r = q := beq_iff_eq.1 h2
  subst e
  have e1 : (p == r) = false := by rw [beq_eq_false_iff_ne] at h1 ⊢; exact fun e => h1 e.symm
  refine ⟨or256 h.1 (bitN_lt hp.2), fun k hk => ?_⟩
  rw [Nat.testBit_or, h.2 k hk, bitN_test hp.1, List.take_succ_eq_append_getElem hi, List.any_append, hd]
  simp only [drHas, List.any_cons, List.any_nil, Bool.or_false, beq_self_eq_true, Bool.and_true, e1, Bool.false_and, Bool.false_or]
  cases (doors.take i).any (drHas r k) <;> cases (r == (k : Int)) <;> cases (p == (k : Int)) <;> simp

/-- the numbers below i that a test accepts -/
def accL (p : Nat → Bool) (i : Nat) : List Int := ((List.range i).filter p).map fun k : Nat => (k : Int)
theorem accL_zero (p : Nat → Bool) : accL p 0 = [] := rfl
theorem accL_yes {p : Nat → Bool} {i : Nat} (h : p i = true) : accL p (i + 1) = accL p i ++ [(i : Int)] := by simp [accL, List.range_succ, List.filter_append, h]
theorem accL_no {p : Nat → Bool} {i : Nat} (h : p i = false) : accL p (i + 1) = accL p i := by simp [accL, List.range_succ, List.filter_append, h]
theorem accL_len (p : Nat → Bool) (i : Nat) : (accL p i).length ≤ i := by
  unfold accL; rw [List.length_map]; exact Nat.le_trans (List.length_filter_le _ _) (by simp)
theorem accL_congr {p q : Nat → Bool} {i : Nat} (h : ∀ k, k < i → p k = q k) : accL p i = accL q i := by
  unfold accL; congr 1; exact List.filter_congr fun k hk => h k (List.mem_range.1 hk)
theorem accL_false {p : Nat → Bool} {i : Nat} (h : ∀ k, k < i → p k = false) : accL p i = [] := by
  rw [accL_congr (q := fun _ => false) h]; simp [accL]
/-- the rooms visible from a room -/
def roomsVis (rooms : List Bx) (doors : List (Int × Int)) (r : Int) : List Int :=
  if r < 0 ∨ (rooms.length : Int) ≤ r then [] else accL (fun k => connB doors r (k : Int)) rooms.length
end Go.Proofs.Ytcgndeggemceaaa
/- Package visibility: Room; the reference's Room and connected. -/
namespace Go.Proofs.Ytcgndeggemceaaa
open Go.RowKit

set_option maxRecDepth 100000 in
set_option maxHeartbeats 4000000 in
theorem room_any (w : World) (s : St) (rooms : List Bx) (doors : List (Int × Int)) (h : MapAt w s rooms doors) (x y : Int) :
    Calls Try.prog 58 #[s.val, .agg #[.int .i64 x, .int .i64 y]] w fun e w' => e = .returned (.int .i64 (roomOf rooms x y)) ∧ Fr [] w w' := by
  have hrl : rooms.length ≤ 9223372036854775807 := by have := h.rr.2.1; unfold maxLen at this; omega
  have hdl : doors.length ≤ 9223372036854775807 := by have := h.dr.2.1; unfold maxLen at this; omega
  have HM := Lib.hid h
  have hrn : s.rn = rooms.length := h.rn
  have hdn : s.dn = doors.length := h.dn
  unfold St.val
  rw [hrn, hdn]
  clear hrn hdn h
  obtain ⟨bx, hbx⟩ : ∃ bx, bx = w.heap.size := ⟨_, rfl⟩
  obtain ⟨wb, hwb⟩ : ∃ wb, wb = (w.alloc (.cells #[.int .i64 s.players, .slice s.bo s.nb s.bc, .int .i64 s.x0, .int .i64 s.y0, .int .i64 s.x1, .int .i64 s.y1, .slice s.ro rooms.length s.rc, .slice s.dO doors.length s.dc, .int .i64 s.fog, .int .i64 s.gx, .int .i64 s.gy, .int .i64 s.push, .int .i64 s.drag, .int .i64 s.rest, .int .i64 s.rounds, .int .i64 s.fuel] 49)).alloc (.cells #[.int .i64 x, .int .i64 y] 47) := ⟨_, rfl⟩
  have HB := Lib.hid (by rw [hwb, hbx]; exact alloc_old (alloc_new w _) : wb.heap[bx]? = some (.cells #[.int .i64 s.players, .slice s.bo s.nb s.bc, .int .i64 s.x0, .int .i64 s.y0, .int .i64 s.x1, .int .i64 s.y1, .slice s.ro rooms.length s.rc, .slice s.dO doors.length s.dc, .int .i64 s.fog, .int .i64 s.gx, .int .i64 s.gy, .int .i64 s.push, .int .i64 s.drag, .int .i64 s.rest, .int .i64 s.rounds, .int .i64 s.fuel] 49 (0, 0)))
  have HB2 := Lib.hid (by rw [hwb, hbx]; exact alloc_new2 w _ _ : wb.heap[bx + 1]? = some (.cells #[.int .i64 x, .int .i64 y] 47 (0, 0)))
  have HWB := Lib.hid (by rw [hwb]; exact ((Fr.refl [] w).alloc _).alloc _ : Fr [] w wb)
  have HBX := Lib.hid hbx
  have HWE := Lib.hid hwb
  clear hbx hwb
  go_enter Try.func58, Try.ntmps58
  go_wp2_with fail
  rw [← HBX.out, ← HWE.out]
  go_loopw [10] (fun iv wr => ∃ i : Nat, i ≤ rooms.length ∧ iv = .int .i64 (i : Int) ∧ NoRoom rooms x y i ∧ Fr [] wb wr) (fun iv _ => rooms.length - (intOf iv).toNat)
  case atStart => exact ⟨0, by omega, rfl, NoRoom.zero _ _ _, Fr.refl _ _⟩
  case round =>
    obtain ⟨i, hi, rfl, ht, hf⟩ := hrel
    have HN := Lib.hid ht
    have HF := Lib.hid hf
    have c6 : wr.cell? ⟨bx, 6, none⟩ = some (.slice s.ro rooms.length s.rc) := cell_blk (hf.blk HB.out (by simp)) 6
    have hB2 := HB2.out
    by_cases hil : i < rooms.length
    · obtain ⟨g, off, hro, hg, k0, k1, k2, k3⟩ := (HM.out.old (HWB.out.trans hf (by simp [Ext]))).rr.room hil
      have d0 : wr.cell? ⟨bx + 1, 0, none⟩ = some (.int .i64 x) := cell_blk (hf.blk HB2.out (by simp)) 0
      have d1 : wr.cell? ⟨bx + 1, 1, none⟩ = some (.int .i64 y) := cell_blk (hf.blk HB2.out (by simp)) 1
      have d0' : ∀ o, (wr.alloc o).cell? ⟨bx + 1, 0, none⟩ = some (.int .i64 x) := fun o => cell_blk (alloc_old (hf.blk HB2.out (by simp))) 0
      have d1' : ∀ o, (wr.alloc o).cell? ⟨bx + 1, 1, none⟩ = some (.int .i64 y) := fun o => cell_blk (alloc_old (hf.blk HB2.out (by simp))) 1
      obtain ⟨r, hr⟩ : ∃ r, r = rooms[i] := ⟨_, rfl⟩
      rw [← hr] at k0 k1 k2 k3
      have HR := Lib.hid hr
      have HRO := Lib.hid hro
      rw [hro] at c6 ⊢
      have hii : (i : Int) < (rooms.length : Int) := by omega
      clear ht hf hr hro hB2
      by_cases h0 : r.x0 ≤ x
      · by_cases h1 : x ≤ r.x1
        · by_cases h2 : r.y0 ≤ y
          · by_cases h3 : y ≤ r.y1
            · go_wp2_with fail
              go_ret
              exact ⟨ret_int (roomOf_hit HN.out hil (by rw [← HR.out]; exact inBx_yes h0 h1 h2 h3)), HWB.out.trans (HF.out.alloc _) (by simp [Ext])⟩
            · go_wp2_with fail
              go_roundw
              case rel => exact ⟨i + 1, by omega, by go_num, HN.out.step hil (by rw [← HR.out]; exact inBx_no (by omega)), HF.out.alloc _⟩
              case measure => simp [intOf]; omega
          · go_wp2_with fail
            go_roundw
            case rel => exact ⟨i + 1, by omega, by go_num, HN.out.step hil (by rw [← HR.out]; exact inBx_no (by omega)), HF.out.alloc _⟩
            case measure => simp [intOf]; omega
        · go_wp2_with fail
          go_roundw
          case rel => exact ⟨i + 1, by omega, by go_num, HN.out.step hil (by rw [← HR.out]; exact inBx_no (by omega)), HF.out.alloc _⟩
          case measure => simp [intOf]; omega
      · go_wp2_with fail
        go_roundw
        case rel => exact ⟨i + 1, by omega, by go_num, HN.out.step hil (by rw [← HR.out]; exact inBx_no (by omega)), HF.out.alloc _⟩
        case measure => simp [intOf]; omega
    · have hke : i = rooms.length := by omega
      have HN2 := Lib.hid (by rw [hke] at HN; exact HN.out : NoRoom rooms x y rooms.length)
      clear ht hf hke
      go_wp2_with fail
      go_ret
      exact ⟨ret_int (roomOf_none HN2.out), HWB.out.trans HF.out (by simp [Ext])⟩

set_option maxRecDepth 100000 in
set_option maxHeartbeats 4000000 in
theorem rroom_any (w : World) (s : St) (rooms : List Bx) (doors : List (Int × Int)) (h : MapAt w s rooms doors) (x y : Int) :
    Calls Try.prog 64 #[s.val, .agg #[.int .i64 x, .int .i64 y]] w fun e w' => e = .returned (.int .i64 (roomOf rooms x y)) ∧ Fr [] w w' := by
  have hrl : rooms.length ≤ 9223372036854775807 := by have := h.rr.2.1; unfold maxLen at this; omega
  have hdl : doors.length ≤ 9223372036854775807 := by have := h.dr.2.1; unfold maxLen at this; omega
  have HM := Lib.hid h
  have hrn : s.rn = rooms.length := h.rn
  have hdn : s.dn = doors.length := h.dn
  unfold St.val
  rw [hrn, hdn]
  clear hrn hdn h
  obtain ⟨bx, hbx⟩ : ∃ bx, bx = w.heap.size := ⟨_, rfl⟩
  obtain ⟨wb, hwb⟩ : ∃ wb, wb = (w.alloc (.cells #[.int .i64 s.players, .slice s.bo s.nb s.bc, .int .i64 s.x0, .int .i64 s.y0, .int .i64 s.x1, .int .i64 s.y1, .slice s.ro rooms.length s.rc, .slice s.dO doors.length s.dc, .int .i64 s.fog, .int .i64 s.gx, .int .i64 s.gy, .int .i64 s.push, .int .i64 s.drag, .int .i64 s.rest, .int .i64 s.rounds, .int .i64 s.fuel] 49)).alloc (.cells #[.int .i64 x, .int .i64 y] 47) := ⟨_, rfl⟩
  have HB := Lib.hid (by rw [hwb, hbx]; exact alloc_old (alloc_new w _) : wb.heap[bx]? = some (.cells #[.int .i64 s.players, .slice s.bo s.nb s.bc, .int .i64 s.x0, .int .i64 s.y0, .int .i64 s.x1, .int .i64 s.y1, .slice s.ro rooms.length s.rc, .slice s.dO doors.length s.dc, .int .i64 s.fog, .int .i64 s.gx, .int .i64 s.gy, .int .i64 s.push, .int .i64 s.drag, .int .i64 s.rest, .int .i64 s.rounds, .int .i64 s.fuel] 49 (0, 0)))
  have HB2 := Lib.hid (by rw [hwb, hbx]; exact alloc_new2 w _ _ : wb.heap[bx + 1]? = some (.cells #[.int .i64 x, .int .i64 y] 47 (0, 0)))
  have HWB := Lib.hid (by rw [hwb]; exact ((Fr.refl [] w).alloc _).alloc _ : Fr [] w wb)
  have HBX := Lib.hid hbx
  have HWE := Lib.hid hwb
  clear hbx hwb
  go_enter Try.func64, Try.ntmps64
  go_wp2_with fail
  rw [← HBX.out, ← HWE.out]
  go_loopw [5] (fun iv wr => ∃ i : Nat, i ≤ rooms.length ∧ iv = .int .i64 (i : Int) ∧ NoRoom rooms x y i ∧ Fr [] wb wr) (fun iv _ => rooms.length - (intOf iv).toNat)
  case atStart => exact ⟨0, by omega, rfl, NoRoom.zero _ _ _, Fr.refl _ _⟩
  case round =>
    obtain ⟨i, hi, rfl, ht, hf⟩ := hrel
    have HN := Lib.hid ht
    have HF := Lib.hid hf
    have c6 : wr.cell? ⟨bx, 6, none⟩ = some (.slice s.ro rooms.length s.rc) := cell_blk (hf.blk HB.out (by simp)) 6
    have hB2 := HB2.out
    by_cases hil : i < rooms.length
    · obtain ⟨g, off, hro, hg, k0, k1, k2, k3⟩ := (HM.out.old (HWB.out.trans hf (by simp [Ext]))).rr.room hil
      have d0 : wr.cell? ⟨bx + 1, 0, none⟩ = some (.int .i64 x) := cell_blk (hf.blk HB2.out (by simp)) 0
      have d1 : wr.cell? ⟨bx + 1, 1, none⟩ = some (.int .i64 y) := cell_blk (hf.blk HB2.out (by simp)) 1
      have d0' : ∀ o, (wr.alloc o).cell? ⟨bx + 1, 0, none⟩ = some (.int .i64 x) := fun o => cell_blk (alloc_old (hf.blk HB2.out (by simp))) 0
      have d1' : ∀ o, (wr.alloc o).cell? ⟨bx + 1, 1, none⟩ = some (.int .i64 y) := fun o => cell_blk (alloc_old (hf.blk HB2.out (by simp))) 1
      obtain ⟨r, hr⟩ : ∃ r, r = rooms[i] := ⟨_, rfl⟩
      rw [← hr] at k0 k1 k2 k3
      have HR := Lib.hid hr
      have HRO := Lib.hid hro
      rw [hro] at c6 ⊢
      have hii : (i : Int) < (rooms.length : Int) := by omega
      clear ht hf hr hro hB2
      by_cases h0 : r.x0 ≤ x
      · by_cases h1 : x ≤ r.x1
        · by_cases h2 : r.y0 ≤ y
          · by_cases h3 : y ≤ r.y1
            · go_wp2_with fail
              go_ret
              exact ⟨ret_int (roomOf_hit HN.out hil (by rw [← HR.out]; exact inBx_yes h0 h1 h2 h3)), HWB.out.trans (HF.out.alloc _) (by simp [Ext])⟩
            · go_wp2_with fail
              go_roundw
              case rel => exact ⟨i + 1, by omega, by go_num, HN.out.step hil (by rw [← HR.out]; exact inBx_no (by omega)), HF.out.alloc _⟩
              case measure => simp [intOf]; omega
          · go_wp2_with fail
            go_roundw
            case rel => exact ⟨i + 1, by omega, by go_num, HN.out.step hil (by rw [← HR.out]; exact inBx_no (by omega)), HF.out.alloc _⟩
            case measure => simp [intOf]; omega
        · go_wp2_with fail
          go_roundw
          case rel => exact ⟨i + 1, by omega, by go_num, HN.out.step hil (by rw [← HR.out]; exact inBx_no (by omega)), HF.out.alloc _⟩
          case measure => simp [intOf]; omega
      · go_wp2_with fail
        go_roundw
        case rel => exact ⟨i + 1, by omega, by go_num, HN.out.step hil (by rw [← HR.out]; exact inBx_no (by omega)), HF.out.alloc _⟩
        case measure => simp [intOf]; omega
    · have hke : i = rooms.length := by omega
      have HN2 := Lib.hid (by rw [hke] at HN; exact HN.out : NoRoom rooms x y rooms.length)
      clear ht hf hke
      go_wp2_with fail
      go_ret
      exact ⟨ret_int (roomOf_none HN2.out), HWB.out.trans HF.out (by simp [Ext])⟩

set_option maxRecDepth 100000 in
set_option maxHeartbeats 4000000 in
theorem conn_any (w : World) (s : St) (rooms : List Bx) (doors : List (Int × Int)) (h : MapAt w s rooms doors) (a b : Int) :
    Calls Try.prog 67 #[s.val, .int .i64 a, .int .i64 b] w fun e w' => e = .returned (.bool (connB doors a b)) ∧ Fr [] w w' := by
  have hrl : rooms.length ≤ 9223372036854775807 := by have := h.rr.2.1; unfold maxLen at this; omega
  have hdl : doors.length ≤ 9223372036854775807 := by have := h.dr.2.1; unfold maxLen at this; omega
  have HM := Lib.hid h
  have hrn : s.rn = rooms.length := h.rn
  have hdn : s.dn = doors.length := h.dn
  unfold St.val
  rw [hrn, hdn]
  clear hrn hdn h
  obtain ⟨bx, hbx⟩ : ∃ bx, bx = w.heap.size := ⟨_, rfl⟩
  obtain ⟨wb, hwb⟩ : ∃ wb, wb = w.alloc (.cells #[.int .i64 s.players, .slice s.bo s.nb s.bc, .int .i64 s.x0, .int .i64 s.y0, .int .i64 s.x1, .int .i64 s.y1, .slice s.ro rooms.length s.rc, .slice s.dO doors.length s.dc, .int .i64 s.fog, .int .i64 s.gx, .int .i64 s.gy, .int .i64 s.push, .int .i64 s.drag, .int .i64 s.rest, .int .i64 s.rounds, .int .i64 s.fuel] 49) := ⟨_, rfl⟩
  have HB := Lib.hid (by rw [hwb, hbx]; exact alloc_new w _ : wb.heap[bx]? = some (.cells #[.int .i64 s.players, .slice s.bo s.nb s.bc, .int .i64 s.x0, .int .i64 s.y0, .int .i64 s.x1, .int .i64 s.y1, .slice s.ro rooms.length s.rc, .slice s.dO doors.length s.dc, .int .i64 s.fog, .int .i64 s.gx, .int .i64 s.gy, .int .i64 s.push, .int .i64 s.drag, .int .i64 s.rest, .int .i64 s.rounds, .int .i64 s.fuel] 49 (0, 0)))
  have HWB := Lib.hid (by rw [hwb]; exact (Fr.refl [] w).alloc _ : Fr [] w wb)
  have c7 : wb.cell? ⟨bx, 7, none⟩ = some (.slice s.dO doors.length s.dc) := cell_blk HB.out 7
  have HBX := Lib.hid hbx
  have HWE := Lib.hid hwb
  clear hbx hwb
  go_enter Try.func67, Try.ntmps67
  go_wp2_with fail
  rw [← HBX.out, ← HWE.out]
  go_loop [7] (fun iv => ∃ i : Nat, i ≤ doors.length ∧ iv = .int .i64 (i : Int) ∧ (doors.take i).any (drHas a b) = false) (fun iv => doors.length - (intOf iv).toNat)
  case atStart => exact ⟨0, by omega, rfl, rfl⟩
  case round =>
    obtain ⟨i, hi, rfl, ht⟩ := hrel
    have HT := Lib.hid ht
    clear ht
    by_cases hil : i < doors.length
    · obtain ⟨g, off, hro, hg, k0, k1⟩ := (HM.out.old HWB.out).dr.door hil
      obtain ⟨p, hp⟩ : ∃ p, p = doors[i].1 := ⟨_, rfl⟩
      obtain ⟨q, hq⟩ : ∃ q, q = doors[i].2 := ⟨_, rfl⟩
      rw [← hp] at k0
      rw [← hq] at k1
      have HP := Lib.hid hp
      have HQ := Lib.hid hq
      have HD := Lib.hid (by unfold drHas; rw [← hp, ← hq] : drHas a b doors[i] = ((p == a && q == b) || (p == b && q == a)))
      rw [hro] at c7 ⊢
      have hii : (i : Int) < (doors.length : Int) := by omega
      clear hp hq hro
      cases e0 : (p == a) <;> cases e1 : (q == b) <;> cases e2 : (p == b) <;> cases e3 : (q == a)
      · have HH := Lib.hid (by rw [HD.out, e0, e1, e2, e3]; rfl : drHas a b doors[i] = false)
        clear HD
        go_wp2_with fail
        go_round
        case rel => exact ⟨i + 1, by omega, by go_num, any_snoc hil HT.out HH.out⟩
        case measure => simp [intOf]; omega
      · have HH := Lib.hid (by rw [HD.out, e0, e1, e2, e3]; rfl : drHas a b doors[i] = false)
        clear HD
        go_wp2_with fail
        go_round
        case rel => exact ⟨i + 1, by omega, by go_num, any_snoc hil HT.out HH.out⟩
        case measure => simp [intOf]; omega
      · have HH := Lib.hid (by rw [HD.out, e0, e1, e2, e3]; rfl : drHas a b doors[i] = false)
        clear HD
        go_wp2_with fail
        go_round
        case rel => exact ⟨i + 1, by omega, by go_num, any_snoc hil HT.out HH.out⟩
        case measure => simp [intOf]; omega
      · have HH := Lib.hid (by rw [HD.out, e0, e1, e2, e3]; rfl : drHas a b doors[i] = true)
        clear HD
        go_wp2_with fail
        go_ret
        exact ⟨ret_bool (connB_hit hil HH.out).symm, HWB.out⟩
      · have HH := Lib.hid (by rw [HD.out, e0, e1, e2, e3]; rfl : drHas a b doors[i] = false)
        clear HD
        go_wp2_with fail
        go_round
        case rel => exact ⟨i + 1, by omega, by go_num, any_snoc hil HT.out HH.out⟩
        case measure => simp [intOf]; omega
      · have HH := Lib.hid (by rw [HD.out, e0, e1, e2, e3]; rfl : drHas a b doors[i] = false)
        clear HD
        go_wp2_with fail
        go_round
        case rel => exact ⟨i + 1, by omega, by go_num, any_snoc hil HT.out HH.out⟩
        case measure => simp [intOf]; omega
      · have HH := Lib.hid (by rw [HD.out, e0, e1, e2, e3]; rfl : drHas a b doors[i] = false)
        clear HD
        go_wp2_with fail
        go_round
        case rel => exact ⟨i + 1, by omega, by go_num, any_snoc hil HT.out HH.out⟩
        case measure => simp [intOf]; omega
      · have HH := Lib.hid (by rw [HD.out, e0, e1, e2, e3]; rfl : drHas a b doors[i] = true)
        clear HD
        go_wp2_with fail
        go_ret
        exact ⟨ret_bool (connB_hit hil HH.out).symm, HWB.out⟩
      · have HH := Lib.hid (by rw [HD.out, e0, e1, e2, e3]; rfl : drHas a b doors[i] = false)
        clear HD
        go_wp2_with fail
        go_round
        case rel => exact ⟨i + 1, by omega, by go_num, any_snoc hil HT.out HH.out⟩
        case measure => simp [intOf]; omega
      · have HH := Lib.hid (by rw [HD.out, e0, e1, e2, e3]; rfl : drHas a b doors[i] = false)
        clear HD
        go_wp2_with fail
        go_round
        case rel => exact ⟨i + 1, by omega, by go_num, any_snoc hil HT.out HH.out⟩
        case measure => simp [intOf]; omega
      · have HH := Lib.hid (by rw [HD.out, e0, e1, e2, e3]; rfl : drHas a b doors[i] = false)
        clear HD
        go_wp2_with fail
        go_round
        case rel => exact ⟨i + 1, by omega, by go_num, any_snoc hil HT.out HH.out⟩
        case measure => simp [intOf]; omega
      · have HH := Lib.hid (by rw [HD.out, e0, e1, e2, e3]; rfl : drHas a b doors[i] = true)
        clear HD
        go_wp2_with fail
        go_ret
        exact ⟨ret_bool (connB_hit hil HH.out).symm, HWB.out⟩
      · have HH := Lib.hid (by rw [HD.out, e0, e1, e2, e3]; rfl : drHas a b doors[i] = true)
        clear HD
        go_wp2_with fail
        go_ret
        exact ⟨ret_bool (connB_hit hil HH.out).symm, HWB.out⟩
      · have HH := Lib.hid (by rw [HD.out, e0, e1, e2, e3]; rfl : drHas a b doors[i] = true)
        clear HD
        go_wp2_with fail
        go_ret
        exact ⟨ret_bool (connB_hit hil HH.out).symm, HWB.out⟩
      · have HH := Lib.hid (by rw [HD.out, e0, e1, e2, e3]; rfl : drHas a b doors[i] = true)
        clear HD
        go_wp2_with fail
        go_ret
        exact ⟨ret_bool (connB_hit hil HH.out).symm, HWB.out⟩
      · have HH := Lib.hid (by rw [HD.out, e0, e1, e2, e3]; rfl : drHas a b doors[i] = true)
        clear HD
        go_wp2_with fail
        go_ret
        exact ⟨ret_bool (connB_hit hil HH.out).symm, HWB.out⟩
    · have hke : doors.take i = doors := List.take_of_length_le (by omega)
      have HT2 := Lib.hid (by rw [hke] at HT; exact HT.out : doors.any (drHas a b) = false)
      clear hke
      go_wp2_with fail
      go_ret
      exact ⟨ret_bool (by unfold connB; rw [HT2.out]; rfl), HWB.out⟩
end Go.Proofs.Ytcgndeggemceaaa
