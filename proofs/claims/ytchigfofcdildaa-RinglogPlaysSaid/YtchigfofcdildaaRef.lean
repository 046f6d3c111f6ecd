/- The reference of chapter 24: what its state reads as, and the contracts of its functions. -/
import Derived.Test.YtchigfofcdildaaAgain
namespace Go.Proofs.Ytchigfofcdildaa
open Go.RowKit

def prs (l : List (Value × Value)) : List Value := l.flatMap fun x => [x.1, x.2]
theorem prs_cons (x : Value × Value) (m : List (Value × Value)) : prs (x :: m) = x.1 :: x.2 :: prs m := by simp [prs]
theorem prs_append (l m : List (Value × Value)) : prs (l ++ m) = prs l ++ prs m := by simp [prs]
theorem prs_length (l : List (Value × Value)) : (prs l).length = l.length * 2 := by
  induction l with
  | nil => rfl
  | cons x l ih => rw [prs_cons]; simp only [List.length_cons, ih]; omega
theorem prs_get (l : List (Value × Value)) (k : Nat) : (prs l)[k * 2]? = l[k]?.map (·.1) ∧ (prs l)[k * 2 + 1]? = l[k]?.map (·.2) := by
  induction l generalizing k with
  | nil => simp [prs]
  | cons x l ih =>
    cases k with
    | zero => simp [prs]
    | succ k =>
      obtain ⟨a, b⟩ := ih k
      rw [prs_cons, show (k + 1) * 2 = k * 2 + 1 + 1 by omega]
      simp only [List.getElem?_cons_succ]
      exact ⟨a, b⟩
theorem prs_take (k : Nat) (l : List (Value × Value)) : (prs l).take (k * 2) = prs (l.take k) := by
  induction l generalizing k with
  | nil => simp [prs]
  | cons x l ih =>
    cases k with
    | zero => simp [prs]
    | succ k => rw [prs_cons, List.take_succ_cons, prs_cons, ← ih k, show (k + 1) * 2 = k * 2 + 1 + 1 by omega, List.take_succ_cons, List.take_succ_cons]
theorem prs_drop (k : Nat) (l : List (Value × Value)) : (prs l).drop (k * 2) = prs (l.drop k) := by
  induction l generalizing k with
  | nil => simp [prs]
  | cons x l ih =>
    cases k with
    | zero => simp
    | succ k => rw [prs_cons, List.drop_succ_cons, ← ih k, show (k + 1) * 2 = k * 2 + 1 + 1 by omega, List.drop_succ_cons, List.drop_succ_cons]

theorem Rd.kept {w w' : World} {size : Nat} {ao : Option Addr} {n : Nat} {xs : List Value} (h : Rd w size ao n xs) (hk : ∀ k ∈ blk ao, w'.heap[k]? = w.heap[k]?) : Rd w' size ao n xs := by
  refine ⟨h.1, h.2.1, ?_⟩
  rcases h.2.2 with hn | ⟨g, off, rfl, hg, hc⟩
  · exact .inl hn
  · have hh := hk g (by simp [blk])
    refine .inr ⟨g, off, rfl, ?_, fun j hj => ?_⟩
    · rw [Array.getElem?_eq_getElem hg] at hh; exact lt_of_blk hh
    · rw [← hc j hj]
      exact World.cell?_of_block (a := ⟨g, off + j, none⟩) hh
theorem Rd.news {w : World} {size : Nat} {ad : Addr} {n : Nat} {xs : List Value} (h : Rd w size (some ad) n xs) (h0 : 0 < n) : ∀ j u, xs[j]? = some u → w.cell? (ad.add j) = some u := by
  intro j u hu
  obtain ⟨g, off, ha, _, hc⟩ := h.at h0
  cases ha
  have hj : j < n * size := by have := (List.getElem?_eq_some_iff.1 hu).1; rw [h.1] at this; exact this
  rw [Addr.add_mid, hc j hj, hu]

/-- an entry of the reference, of which the value v is the slice of its cells -/
def EntAt (w : World) (G : List Nat) (v : Value) (c : List Int) : Prop := ∃ a cp, v = .slice a c.length cp ∧ Rd w 1 a c.length (ints c) ∧ ∀ k ∈ blk a, k ∈ G

abbrev Ent : Type := Int × List Int × Value
def entL (es : List Ent) : List (Int × List Int) := es.map fun e => (e.1, e.2.1)
def entV (es : List Ent) : List (Value × Value) := es.map fun e => (.int .i64 e.1, e.2.2)
theorem entL_length (es : List Ent) : (entL es).length = es.length := by simp [entL]
theorem entV_length (es : List Ent) : (entV es).length = es.length := by simp [entV]

theorem ent_cells {w : World} {g off : Nat} {es : List Ent} (hc : ∀ j, j < es.length * 2 → w.cell? ⟨g, off + j, none⟩ = (prs (entV es))[j]?) {i : Nat} (hi : i < es.length) :
    w.cell? ⟨g, off + i * 2, none⟩ = some (.int .i64 es[i].1) ∧ w.cell? ⟨g, off + i * 2 + 1, none⟩ = some es[i].2.2 := by
  have hv : (entV es)[i]? = some (.int .i64 es[i].1, es[i].2.2) := by simp [entV, hi]
  have h0 := hc (i * 2) (by omega)
  have h1 := hc (i * 2 + 1) (by omega)
  rw [(prs_get (entV es) i).1, hv] at h0
  rw [(prs_get (entV es) i).2, hv] at h1
  exact ⟨h0, by rw [Nat.add_assoc]; exact h1⟩

/-- the value v of the reference reads as S, by blocks of G -/
structure RefAt (w : World) (G : List Nat) (v : Value) (S : Sp) (ca : Option Addr) (cc : Nat) (la : Option Addr) (lc : Nat) (es : List Ent) : Prop where
  val : v = .agg #[.int .i64 S.keep, .slice ca S.cells.length cc, .slice la es.length lc]
  six : S.cells.length = 6
  keep : 1 ≤ S.keep ∧ S.keep ≤ 13
  few : (es.length : Int) ≤ S.keep
  none : es.length = 0 → la = none ∧ lc = 0
  cells : Rd w 1 ca S.cells.length (ints S.cells)
  inC : ∀ k ∈ blk ca, k ∈ G
  L : S.L = entL es
  cap : es.length ≤ lc
  big : lc ≤ maxLen
  ents : Rd w 2 la es.length (prs (entV es))
  inL : ∀ k ∈ blk la, k ∈ G
  each : ∀ e ∈ es, EntAt w G e.2.2 e.2.1 ∧ e.2.1.length = 6

def IsRef (w : World) (G : List Nat) (v : Value) (S : Sp) : Prop := ∃ ca cc la lc es, RefAt w G v S ca cc la lc es

theorem EntAt.kept {w w' : World} {G : List Nat} {v : Value} {c : List Int} (h : EntAt w G v c) (hk : Kept G w w') : EntAt w' G v c := by
  obtain ⟨a, cp, h1, h2, h3⟩ := h
  exact ⟨a, cp, h1, h2.kept fun k hm => hk k (h3 k hm), h3⟩
theorem EntAt.mono {w : World} {G G' : List Nat} {v : Value} {c : List Int} (h : EntAt w G v c) (hs : ∀ k ∈ G, k ∈ G') : EntAt w G' v c := by
  obtain ⟨a, cp, h1, h2, h3⟩ := h
  exact ⟨a, cp, h1, h2, fun k hm => hs k (h3 k hm)⟩
theorem IsRef.kept {w w' : World} {G : List Nat} {v : Value} {S : Sp} (h : IsRef w G v S) (hk : Kept G w w') : IsRef w' G v S := by
  obtain ⟨ca, cc, la, lc, es, h⟩ := h
  exact ⟨ca, cc, la, lc, es, h.val, h.six, h.keep, h.few, h.none, h.cells.kept fun k hm => hk k (h.inC k hm), h.inC, h.L, h.cap, h.big, h.ents.kept fun k hm => hk k (h.inL k hm), h.inL, fun e he => ⟨(h.each e he).1.kept hk, (h.each e he).2⟩⟩
theorem IsRef.fr {w w' : World} {G : List Nat} {v : Value} {S : Sp} (h : IsRef w G v S) (hg : ∀ k ∈ G, k < w.heap.size) (hf : Fr [] w w') : IsRef w' G v S := h.kept fun k hk => hf.block k (hg k hk) (by simp)

/-- the state S' of the reference has been made -/
def RefTo (w : World) (G : List Nat) (S' : Sp) (f : Value → Ending) (e : Ending) (w' : World) : Prop :=
  ∃ v' G', e = f v' ∧ IsRef w' G' v' S' ∧ Fr [] w w' ∧ ∀ k ∈ G', (k ∈ G ∨ w.heap.size ≤ k) ∧ k < w'.heap.size

section
variable {w : World} {G : List Nat} {v : Value} {S : Sp}

theorem refoldest_any (h : IsRef w G v S) : Calls Try.prog 27 #[v] w fun e w' => e = .returned (.int .i64 S.oldest) ∧ ∃ o, w' = w.alloc o := by
  obtain ⟨ca, cc, la, lc, es, h⟩ := h
  obtain rfl := h.val
  have hlen : es.length ≤ 9223372036854775807 := by have := h.ents.2.1; unfold maxLen at this; omega
  rcases Nat.eq_zero_or_pos es.length with h0 | h0
  · have hz : ((es.length : Int) == 0) = true := by simp [h0]
    have hr := Lib.hid (by unfold Sp.oldest; rw [dif_neg (by rw [h.L, entL_length]; omega)] : S.oldest = -1)
    clear h h0
    go_enter Try.func27, Try.ntmps27
    go_wp2
    go_ret
    exact ⟨ret_int hr.out.symm, _, rfl⟩
  · have hz : ((es.length : Int) == 0) = false := beq_eq_false_iff_ne.2 (by omega)
    obtain ⟨g, off, rfl, hg, hc⟩ := h.ents.at h0
    have hr := Lib.hid (by unfold Sp.oldest; rw [dif_pos (by rw [h.L, entL_length]; omega)]; simp [h.L, entL] : S.oldest = (es[0]).1)
    have c0 := (ent_cells hc h0).1
    rw [Nat.zero_mul, Nat.add_zero] at c0
    have c1 : (w.alloc (.cells #[.int .i64 S.keep, .slice ca S.cells.length cc, .slice (some ⟨g, off, none⟩) es.length lc] 45)).cell? ⟨g, off, none⟩ = some (.int .i64 es[0].1) := by
      rw [World.cell?_of_block (a := ⟨g, off, none⟩) (Go.heap_alloc_old w _ hg)]; exact c0
    clear h hc c0
    go_enter Try.func27, Try.ntmps27
    go_wp2
    go_ret
    exact ⟨ret_int hr.out.symm, _, rfl⟩

theorem refnewest_any (h : IsRef w G v S) : Calls Try.prog 28 #[v] w fun e w' => e = .returned (.int .i64 S.newest) ∧ ∃ o, w' = w.alloc o := by
  obtain ⟨ca, cc, la, lc, es, h⟩ := h
  obtain rfl := h.val
  have hlen : es.length ≤ 9223372036854775807 := by have := h.ents.2.1; unfold maxLen at this; omega
  rcases Nat.eq_zero_or_pos es.length with h0 | h0
  · have hz : ((es.length : Int) == 0) = true := by simp [h0]
    have hr := Lib.hid (by unfold Sp.newest; rw [dif_neg (by rw [h.L, entL_length]; omega)] : S.newest = -1)
    clear h h0
    go_enter Try.func28, Try.ntmps28
    go_wp2
    go_ret
    exact ⟨ret_int hr.out.symm, _, rfl⟩
  · have hz : ((es.length : Int) == 0) = false := beq_eq_false_iff_ne.2 (by omega)
    obtain ⟨g, off, rfl, hg, hc⟩ := h.ents.at h0
    obtain ⟨j, hj⟩ : ∃ j, es.length = j + 1 := ⟨es.length - 1, by omega⟩
    have hjl : j < es.length := by omega
    have hr := Lib.hid (by unfold Sp.newest; rw [dif_pos (by rw [h.L, entL_length]; omega)]; simp [h.L, entL, hj] : S.newest = (es[j]).1)
    have c0 := (ent_cells hc hjl).1
    have c1 : (w.alloc (.cells #[.int .i64 S.keep, .slice ca S.cells.length cc, .slice (some ⟨g, off, none⟩) es.length lc] 45)).cell? ⟨g, off + j * 2, none⟩ = some (.int .i64 es[j].1) := by
      rw [World.cell?_of_block (a := ⟨g, off + j * 2, none⟩) (Go.heap_alloc_old w _ hg)]; exact c0
    have hjj : (es.length : Int) - 1 = (j : Int) := by omega
    have hji : (j : Int) < (es.length : Int) := by omega
    clear h hc c0 hj
    go_enter Try.func28, Try.ntmps28
    go_wp2
    go_ret
    exact ⟨ret_int hr.out.symm, _, rfl⟩
end
end Go.Proofs.Ytchigfofcdildaa
