/- CellmemOps: the reference's own functions in memory. -/
import Derived.Test.YtoolojpjopodgaaOpsP9
namespace Go.Proofs.Ytoolojpjopodgaa
open Go.RowKit

structure RRow where
  o : Option Addr
  c : Nat
  l : List Int
def RRow.v (x : RRow) : Value := .slice x.o x.l.length x.c
def refV (so : Option Addr) (sn sc : Nat) (co : Option Addr) (cn cc : Nat) (b : Int) : Value := .agg #[.slice so sn sc, .slice co cn cc, .int .i64 b]
structure IsRS (w : World) (r : RS) (so : Option Addr) (sc : Nat) (co : Option Addr) (cc : Nat) (rs : List RRow) : Prop where
  eq : r.states = rs.map RRow.l
  ss : Seg w 22 1 so r.states.length sc (rs.map RRow.v)
  cs : Seg w 3 1 co r.cell.length cc (ints r.cell)
  rows : ∀ x ∈ rs, Seg w 3 1 x.o x.l.length x.c (ints x.l)
  b0 : 0 ≤ r.base
  b1 : r.base ≤ 1000
  n1 : r.states.length ≤ 1000
  sl : r.states.length = r.cell.length + 1
  six : ∀ x ∈ rs, x.l.length = 6
def rsG (so co : Option Addr) (rs : List RRow) : List Nat := blk so ++ (blk co ++ rs.flatMap fun x => blk x.o)
section
variable {w w' : World} {r : RS} {so co : Option Addr} {sc cc : Nat} {rs : List RRow} {S : List Nat}
theorem IsRS.same (h : IsRS w r so sc co cc rs) (hk : ∀ k ∈ rsG so co rs, w'.heap[k]? = w.heap[k]?) : IsRS w' r so sc co cc rs :=
  ⟨h.eq, h.ss.same (fun k hk2 => hk k (List.mem_append_left _ hk2)), h.cs.same (fun k hk2 => hk k (List.mem_append_right _ (List.mem_append_left _ hk2))), fun x hx => (h.rows x hx).same (fun k hk2 => hk k (List.mem_append_right _ (List.mem_append_right _ (List.mem_flatMap.2 ⟨x, hx, hk2⟩)))), h.b0, h.b1, h.n1, h.sl, h.six⟩
theorem IsRS.lt (h : IsRS w r so sc co cc rs) : ∀ k ∈ rsG so co rs, k < w.heap.size := by
  intro k hk
  rcases List.mem_append.1 hk with q | q
  · exact h.ss.lt k q
  rcases List.mem_append.1 q with q | q
  · exact h.cs.lt k q
  · obtain ⟨x, hx, q⟩ := List.mem_flatMap.1 q
    exact (h.rows x hx).lt k q
theorem IsRS.fr (h : IsRS w r so sc co cc rs) (hf : Fr [] w w') : IsRS w' r so sc co cc rs := h.same fun k hk => hf.block k (h.lt k hk) (by simp)
/-- the newest state -/
theorem IsRS.last (h : IsRS w r so sc co cc rs) : ∃ g off k x, so = some ⟨g, off, none⟩ ∧ r.states.length = k + 1 ∧ x ∈ rs ∧ x.l = r.now ∧ x.l.length = 6 ∧ g < w.heap.size ∧ w.cell? ⟨g, off + k, none⟩ = some (.slice x.o 6 x.c) := by
  have hl : r.states.length = rs.length := by rw [h.eq, List.length_map]
  have hs := h.sl
  obtain ⟨g, off, cur, ha, hg, -, hc, -⟩ := h.ss.at (by have := h.ss.2.2.1; omega)
  have hk : r.states.length - 1 < rs.length := by omega
  have hx := List.getElem_mem hk
  refine ⟨g, off, r.states.length - 1, rs[r.states.length - 1], ha, by omega, hx, ?_, h.six _ hx, lt_of_blk hg, ?_⟩
  · unfold RS.now
    have e : r.states[r.states.length - 1]? = (rs.map RRow.l)[r.states.length - 1]? := congrArg (fun l : List (List Int) => l[r.states.length - 1]?) h.eq
    rw [List.getLastD_eq_getLast?, List.getLast?_eq_getElem?, e, List.getElem?_map, List.getElem?_eq_getElem hk]
    rfl
  · rw [hc _ (by omega), List.getElem?_map, List.getElem?_eq_getElem hk]
    show some (RRow.v _) = _
    unfold RRow.v
    rw [h.six _ hx]

set_option maxRecDepth 100000 in
set_option maxHeartbeats 1000000 in
theorem rmark_any (w : World) (so : Option Addr) (sn sc : Nat) (co : Option Addr) (cn cc : Nat) (b : Int) : Calls Try.prog 36 #[.agg #[.slice so sn sc, .slice co cn cc, .int .i64 b]] w fun e w' => e = .returned (.int .i64 (cn : Int)) ∧ Fr [] w w' := by
  go_enter Try.func36, Try.ntmps36
  go_wp2_with fail
  go_ret
  exact ⟨rfl, (Fr.refl [] w).alloc _⟩
set_option maxRecDepth 100000 in
set_option maxHeartbeats 1000000 in
theorem rnow_any (h : IsRS w r so sc co cc rs) : Calls Try.prog 35 #[.agg #[.slice so r.states.length sc, .slice co r.cell.length cc, .int .i64 r.base]] w fun e w' => ∃ x ∈ rs, x.l = r.now ∧ x.l.length = 6 ∧ e = .returned (.slice x.o 6 x.c) ∧ Fr [] w w' := by
  obtain ⟨g, off, k, x, rfl, hk, hx, hxn, h6, hg, c0⟩ := h.last
  have hn1 := h.n1
  rw [hk] at hn1 ⊢
  have w1 : IntKind.i64.wrap ((k : Int) + 1 - 1) = (k : Int) := by rw [IntWalk.i64_in _ (by omega)]; omega
  have w2 : (k : Int) + 1 - 1 = (k : Int) := by omega
  have HX := Lib.hid (And.intro hx (And.intro hxn h6))
  have hlk : (k : Int) < (k : Int) + 1 := by omega
  clear h hk hx hxn h6
  go_enter Try.func35, Try.ntmps35
  go_wp2_with fail
  go_ret
  exact ⟨x, HX.out.1, HX.out.2.1, HX.out.2.2, rfl, (Fr.refl [] w).alloc _⟩
set_option maxRecDepth 100000 in
set_option maxHeartbeats 1000000 in
theorem rcheck_any (w : World) (so : Option Addr) (sn sc : Nat) (co : Option Addr) (cc : Nat) (r : RS) (m : Int) : Calls Try.prog 47 #[.agg #[.slice so sn sc, .slice co r.cell.length cc, .int .i64 r.base], .int .i64 m] w fun e w' => e = .returned (.int .i64 (r.check m)) ∧ Fr [] w w' := by
  unfold RS.check RS.mark
  obtain ⟨b, hb⟩ : ∃ b, b = r.base := ⟨_, rfl⟩
  obtain ⟨n, hn⟩ : ∃ n, n = r.cell.length := ⟨_, rfl⟩
  rw [← hb, ← hn]
  have HM := Lib.hid (fun u => rmark_any u so sn sc co n cc b)
  clear hb hn
  by_cases h1 : m < b
  · rw [if_pos h1]
    go_enter Try.func47, Try.ntmps47
    go_wp2_with fail
    go_ret
    exact ⟨rfl, (Fr.refl [] w).alloc _⟩
  · rw [if_neg h1]
    by_cases h2 : (n : Int) < m
    · rw [if_pos h2]
      go_enter Try.func47, Try.ntmps47
      go_wp2_with (go_at_call 36; refine (HM.out _).mono ?_; rintro e w1 ⟨rfl, f1⟩; have F1 := Lib.hid (((Fr.refl [] w).alloc _).trans f1 (by simp [Ext])); clear f1)
      go_ret
      exact ⟨rfl, F1.out⟩
    · rw [if_neg h2]
      go_enter Try.func47, Try.ntmps47
      go_wp2_with (go_at_call 36; refine (HM.out _).mono ?_; rintro e w1 ⟨rfl, f1⟩; have F1 := Lib.hid (((Fr.refl [] w).alloc _).trans f1 (by simp [Ext])); clear f1)
      go_ret
      exact ⟨rfl, F1.out⟩
end
end Go.Proofs.Ytoolojpjopodgaa
