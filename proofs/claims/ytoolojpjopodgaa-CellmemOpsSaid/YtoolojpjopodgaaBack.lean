/- slices.Backward over the log of a memory: the iterator's contract; and Undo. -/
import Derived.RangeFuncNested
import Derived.RangeFuncBox
import Derived.RangeFuncLeaves
import Derived.Shelf.Abstract
import Derived.OwnWalkIn
import Derived.TacticsInMore
import Derived.LoopNIn
import Derived.LoopIn
import Derived.Test.YtoolojpjopodgaaMem4
import Derived.Test.YtoolojpjopodgaaRound
namespace Go.Proofs.Ytoolojpjopodgaa
open Go.RowKit Go.Shelf

attribute [local go_sem] Oper.semAt_some

/-- below n₀ only the blocks of S may have changed -/
structure FrB (n₀ : Nat) (S : List Nat) (w w' : World) : Prop where
  os : w'.os = w.os
  tape : w'.tape = w.tape
  output : w'.output = w.output
  size : w.heap.size ≤ w'.heap.size
  block : ∀ k, k < n₀ → k ∉ S → w'.heap[k]? = w.heap[k]?

theorem FrB.refl (n₀ : Nat) (S : List Nat) (w : World) : FrB n₀ S w w := ⟨rfl, rfl, rfl, Nat.le_refl _, fun _ _ _ => rfl⟩
theorem FrB.trans {n₀ : Nat} {S : List Nat} {a b c : World} (h : FrB n₀ S a b) (k : FrB n₀ S b c) : FrB n₀ S a c :=
  ⟨k.os.trans h.os, k.tape.trans h.tape, k.output.trans h.output, Nat.le_trans h.size k.size, fun i hi hS => (k.block i hi hS).trans (h.block i hi hS)⟩
theorem FrB.ofFr {n₀ : Nat} {S : List Nat} {a b : World} (h : Fr S a b) (hn : n₀ ≤ a.heap.size) : FrB n₀ S a b := ⟨h.os, h.tape, h.output, h.size, fun k hk hS => h.block k (by omega) hS⟩
theorem FrB.grown {n₀ : Nat} {S : List Nat} {a b : World} {row : Option Nat} (hg : a.grownBy b row) (hn : n₀ ≤ a.heap.size) (hr : ∀ r, row = some r → n₀ ≤ r) : FrB n₀ S a b :=
  ⟨hg.os, hg.tape, hg.output, hg.size, fun k hk _ => hg.block k (by omega) (fun e => by have := hr k e.symm; omega)⟩
theorem FrB.cell {n₀ : Nat} {S : List Nat} {a b : World} (h : FrB n₀ S a b) {p : Addr} (hp : p.block < n₀) (hS : p.block ∉ S) : b.cell? p = a.cell? p := World.cell?_of_block (h.block p.block hp hS)
theorem FrB.frozen {n₀ : Nat} {S : List Nat} {a b : World} (h : FrB n₀ S a b) {p : Addr} (hp : p.block < n₀) (hS : p.block ∉ S) : b.frozen? p = a.frozen? p := World.frozen?_of_block (h.block p.block hp hS)

theorem frB_t {n₀ : Nat} {S : List Nat} {A B C : World} (h : FrB n₀ S A B) (k : FrB n₀ S B C) : FrB n₀ S A C := h.trans k
theorem frB_b {n₀ : Nat} {S : List Nat} {w : World} (hn : n₀ ≤ w.heap.size) (W : World) (l : Nat) (o o' : Obj) (hl : w.heap.size ≤ l) (h : W.heap[l]? = some o) (_ : o.isCells = false) (_ : o.isWalk = false) : FrB n₀ S W (W.putObj l o') :=
  FrB.grown (grownBy_putObj' W l o') (by have := lt_of_blk h; omega) (fun k e => by cases e; omega)

/-- the places of a list of n elements, from the last on: the first k of them -/
def rv (n k : Nat) : List (Fin n) := (List.finRange n).reverse.take k
theorem rv_succ (n k : Nat) (h : k < n) : rv n (k + 1) = rv n k ++ [⟨n - 1 - k, by omega⟩] := by
  unfold rv
  rw [List.take_succ_eq_append_getElem (by simpa using h)]
  simp [List.getElem_reverse]
theorem rv_length (n k : Nat) (h : k ≤ n) : (rv n k).length = k := by simp [rv, h]

/-- the values that the iterator hands to the loop's body at place i -/
def encE (t : List (Int × Int)) (i : Fin t.length) : Array Value := #[.int .i64 (i.val : Int), .agg #[.int .i64 t[i].1, .int .i64 t[i].2]]

set_option maxRecDepth 100000 in
set_option maxHeartbeats 2000000 in
theorem back1_in (F : Fence) (n : Nat) (h7 : F.fn 52) (hro : F.round = none) (hn : 1 ≤ n) (l Bs n₀ : Nat) (S : List Nat) (ao : Option Addr) (cap : Nat) (t : List (Int × Int))
    (J Jx : List (Fin t.length) → World → Prop)
    (hY : ∀ pre x W, J pre W → pre.length < t.length → YieldAt F (n - 1) Try.prog l (encE t x) W fun e W' =>
      (e = .returned (.bool true) ∧ J (pre ++ [x]) W' ∧ FrB n₀ S W W') ∨ (e = .returned (.bool false) ∧ Jx (pre ++ [x]) W'))
    (W : World) (hBs : W.cell? ⟨Bs, 0, none⟩ = some (.slice ao t.length cap)) (hB1 : Bs < n₀) (hB2 : Bs ∉ S) (hseg : Seg W 68 2 ao t.length cap (pairs t)) (hb1 : ∀ k ∈ blk ao, k < n₀) (hb2 : ∀ k ∈ blk ao, k ∉ S) (h0 : J [] W) :
    CallsIn F n Try.prog 52 #[.func (.yield l) #[] #[], .pointer (some ⟨Bs, 0, none⟩)] W fun e W' => (∃ v, e = .returned v) ∧
      ((∃ ys, ys = rv t.length t.length ∧ J ys W') ∨ (∃ pre, True ∧ Jx pre W')) := by
  have hlen : t.length ≤ 9223372036854775807 := by have := hseg.2.1; have := hseg.2.2.1; unfold maxLen at *; omega
  refine callsIn_of_wp Try.func52 rfl h7 ?_ hro
  simp only [Try.ntmps52, List.size_toArray, List.length_cons, List.length_nil, Nat.reduceAdd, Nat.reduceSub, Array.replicate_succ, Array.replicate_zero, List.push_toArray, List.append_toArray, List.nil_append, List.cons_append]
  gi_wp2
  gi_loopw [3] (fun i wr => FrB n₀ S W wr ∧ ((i = .int .i64 (-1) ∧ J (rv t.length t.length) wr) ∨ ∃ m : Nat, m < t.length ∧ i = .int .i64 m ∧ J (rv t.length (t.length - 1 - m)) wr))
    (fun i _ => (intOf i + 1).toNat)
  case atStart =>
    refine ⟨FrB.refl _ _ _, ?_⟩
    by_cases hz : t.length = 0
    · exact .inl ⟨by rw [hz]; rfl, by rw [List.eq_nil_of_length_eq_zero (show (rv t.length t.length).length = 0 by rw [rv_length _ _ (Nat.le_refl _)]; exact hz)]; exact h0⟩
    · refine .inr ⟨t.length - 1, by omega, ?_, by simpa [rv] using h0⟩
      rw [show ((t.length - 1 : Nat) : Int) = (t.length : Int) - 1 by omega]
  case round =>
    obtain ⟨hfr, ⟨rfl, hJ⟩ | ⟨m, hm, rfl, hJ⟩⟩ := hrel
    · gi_wp2
      go_end0
      exact ⟨⟨_, rfl⟩, .inl ⟨_, rfl, hJ⟩⟩
    · obtain ⟨g, off, cur, rfl, hg, hfit, hc, hf⟩ := hseg.at (by have := hseg.2.2.1; omega)
      have hg1 := hb1 g (by simp [blk])
      have hg2 := hb2 g (by simp [blk])
      have hcb := (hfr.cell (p := ⟨Bs, 0, none⟩) hB1 hB2).trans hBs
      have hc0 : wr.cell? ⟨g, off + m * 2, none⟩ = some (.int .i64 t[m].1) := by
        rw [hfr.cell (p := ⟨g, off + m * 2, none⟩) hg1 hg2, hc _ (by omega), pairs_get0, List.getElem?_eq_getElem hm]; rfl
      have hc1 : wr.cell? ⟨g, off + m * 2 + 1, none⟩ = some (.int .i64 t[m].2) := by
        rw [hfr.cell (p := ⟨g, off + m * 2 + 1, none⟩) hg1 hg2, Nat.add_assoc, hc _ (by omega), pairs_get1, List.getElem?_eq_getElem hm]; rfl
      obtain ⟨fn, tmps, assign, body, hy, hR⟩ := hY _ ⟨m, hm⟩ wr hJ (by rw [rv_length _ _ (by omega)]; omega)
      simp only [encE, Fin.getElem_fin] at hy
      clear hc hf hfit hg hseg hb1 hb2
      gi_wp2
      refine hR.mono ?_
      rintro e W3 (⟨rfl, hJ3, hk3⟩ | ⟨rfl, hJx3⟩)
      · gi_wp2
        go_roundw
        case rel =>
          refine ⟨hfr.trans hk3, ?_⟩
          have e1 : rv t.length (t.length - 1 - m) ++ [⟨m, hm⟩] = rv t.length (t.length - m) := by
            have := rv_succ t.length (t.length - 1 - m) (by omega)
            rw [show t.length - 1 - m + 1 = t.length - m by omega] at this
            rw [this]
            congr 2
            apply Fin.ext
            show m = t.length - 1 - (t.length - 1 - m)
            omega
          rw [e1] at hJ3
          by_cases h0 : m = 0
          · subst h0; exact .inl ⟨rfl, hJ3⟩
          · refine .inr ⟨m - 1, by omega, ?_, ?_⟩
            · rw [show ((m - 1 : Nat) : Int) = (m : Int) - 1 by omega]
            · rw [show t.length - 1 - (m - 1) = t.length - m by omega]; exact hJ3
        case measure => simp [intOf]
      · gi_wp2
        refine bodyPost_ret (results_none rfl _ _ _) rfl ?_
        exact ⟨⟨_, rfl⟩, .inr ⟨_, trivial, hJx3⟩⟩
theorem back_in (F : Fence) (n : Nat) (h5 : F.fn 45) (hro : F.round = none) (a : Option Addr) (len cap : Nat) (w : World) :
    CallsIn F n Try.prog 45 #[.slice a len cap] w fun e w' => e = .returned (.func (.func 52) #[] #[.pointer (some ⟨w.heap.size, 0, none⟩)]) ∧ w' = w.alloc (.cells #[.slice a len cap] 63) := by
  refine callsIn_of_wp Try.func45 rfl h5 ?_ hro
  simp only [Try.ntmps45, List.size_toArray, List.length_cons, List.length_nil, Nat.reduceAdd, Nat.reduceSub, Array.replicate_succ, Array.replicate_zero, List.push_toArray, List.append_toArray, List.nil_append, List.cons_append]
  gi_wp2
  go_ret
  exact ⟨rfl, rfl⟩

theorem back_stops (F : Fence) (n : Nat) (h7 : F.fn 52) (hro : F.round = none) (hn : 1 ≤ n) (Bs : Nat) (S : List Nat) (ao : Option Addr) (cap : Nat) (t : List (Int × Int)) (w : World)
    (hBs : w.cell? ⟨Bs, 0, none⟩ = some (.slice ao t.length cap)) (hB1 : Bs < w.heap.size) (hB2 : Bs ∉ S) (hseg : Seg w 68 2 ao t.length cap (pairs t)) (hb2 : ∀ k ∈ blk ao, k ∉ S) :
    SeqStopsK F n Try.prog 52 #[.pointer (some ⟨Bs, 0, none⟩)] (encE t) (FrB w.heap.size S) (fun ys => ys = rv t.length t.length) (fun _ => True) t.length w := fun l J Jx W hW _ _ hY h0 =>
  back1_in F n h7 hro hn l Bs w.heap.size S ao cap t J Jx hY W ((hW.cell (p := ⟨Bs, 0, none⟩) hB1).trans hBs) hB1 hB2 (hseg.same fun k hk => hW.block k (hseg.lt k hk)) (fun k hk => hseg.lt k hk) hb2 h0

/-! ### Undo -/

def MemS.ok (s : MemS) : Prop := ∀ e ∈ s.log, 0 ≤ e.1 ∧ e.1 < s.cells.length

/-- what the entries restore, the last one first -/
def unwind (cells : List Int) (t : List (Int × Int)) : List Int := t.reverse.foldl (fun c e => c.set e.1.toNat e.2) cells

def MemS.undo (s : MemS) (m : Int) : MemS := { cells := unwind s.cells (s.log.drop (m - s.base).toNat), log := s.log.take (m - s.base).toNat, base := s.base }

/-- the cells when the entries at the places pre have been restored -/
def someBack (cells : List Int) (t : List (Int × Int)) (pre : List (Fin t.length)) : List Int := pre.foldl (fun c i => c.set t[i].1.toNat t[i].2) cells

theorem someBack_snoc (cells : List Int) (t : List (Int × Int)) (pre : List (Fin t.length)) (x : Fin t.length) : someBack cells t (pre ++ [x]) = (someBack cells t pre).set t[x].1.toNat t[x].2 := by simp [someBack]

theorem someBack_length (cells : List Int) (t : List (Int × Int)) (pre : List (Fin t.length)) : (someBack cells t pre).length = cells.length := by
  unfold someBack
  induction pre generalizing cells with
  | nil => rfl
  | cons x pre ih => rw [List.foldl_cons, ih]; simp

theorem someBack_all (cells : List Int) (t : List (Int × Int)) : someBack cells t (rv t.length t.length) = unwind cells t := by
  have e : (List.finRange t.length).map (fun i => t[i]) = t := by
    apply List.ext_getElem
    · simp
    · intro i h1 h2; simp
  unfold someBack unwind rv
  rw [List.take_of_length_le (by simp)]
  conv => rhs; rw [← e]
  rw [← List.map_reverse, List.foldl_map]

theorem unwind_length (cells : List Int) (t : List (Int × Int)) : (unwind cells t).length = cells.length := by rw [← someBack_all, someBack_length]

theorem Fr.putObj {S : List Nat} {a w : World} (h : Fr S a w) {D : Nat} (hD : a.heap.size ≤ D) (o : Obj) : Fr S a (w.putObj D o) :=
  ⟨h.os, h.tape, h.output, by simp; exact h.size, fun k hk hS => (World.putObj_heap_other (by omega)).trans (h.block k hk hS)⟩

theorem Fr.thenB {S T : List Nat} {a b c : World} (h : Fr S a b) (k : FrB b.heap.size T b c) (hT : ∀ i ∈ T, i ∈ S) : Fr S a c :=
  ⟨k.os.trans h.os, k.tape.trans h.tape, k.output.trans h.output, Nat.le_trans h.size k.size, fun i hi hS =>
    (k.block i (Nat.lt_of_lt_of_le hi h.size) (fun hm => hS (hT i hm))).trans (h.block i hi hS)⟩

section
variable {w : World} {p : Nat} {F : List Nat} {s : MemS}

theorem undo_to {ca : Option Addr} {cc : Nat} {la : Option Addr} {lc : Nat} (h : IsMemAt w p F s ca cc la lc) (k : Nat) (hk : k ≤ s.log.length) {W0 W W' : World} {D : Nat}
    (hF0 : Fr [] w W0) (hW : FrB W0.heap.size (blk ca) W0 W) (hc : Seg W 3 1 ca s.cells.length cc (ints (unwind s.cells (s.log.drop k)))) (hD : W0.heap.size ≤ D)
    (hW' : W' = (W.drew.setCell ⟨p, 1, none⟩ (.slice la k lc)).putObj D (.deferred none)) : MemTo w p F (s.undo (s.base + k)) W' := by
  have hb := h.blocks
  have e : s.undo (s.base + k) = { cells := unwind s.cells (s.log.drop k), log := s.log.take k, base := s.base } := by
    simp only [MemS.undo]; rw [show (s.base + (k : Int) - s.base).toNat = k by omega]
  have f0 : Fr F w W0 := hF0.mono (by simp)
  have f1 : Fr F w W := f0.thenB hW (fun i hi => by simp [hb, hi])
  have hp := lt_of_blk h.head
  have hsz := hF0.size
  have hWs := hW.size
  have g1 : ∀ i, i < w.heap.size → i ∉ blk ca → W.heap[i]? = w.heap[i]? := fun i hi hn => (hW.block i (by omega) hn).trans (hF0.block i hi (by simp))
  have g2 : ∀ i, i < w.heap.size → i ≠ p → W'.heap[i]? = W.heap[i]? := fun i hi hn => by
    rw [hW', World.putObj_heap_other (by omega)]; exact setCell_ne (by simpa using hn)
  have f3 : Fr F w W' := by rw [hW']; exact ((f1.drew).setCell (.inl (by simp [hb])) _).putObj (by omega) _
  refine ⟨F, ⟨ca, cc, la, lc, hb, h.pc, h.pl, h.cl, ?_, ?_, ?_⟩, f3, Ext.refl _ _⟩
  · rw [e, hW', World.putObj_heap_other (by omega), setCell_blk (w := W.drew) ((g1 p hp h.pc).trans h.head)]
    simp [unwind_length, hk]
  · rw [e]
    simp only [unwind_length]
    exact hc.same fun i hi => g2 i (h.cells.lt i hi) (fun e => h.pc (e ▸ hi))
  · rw [e]
    have h1 : Seg W' 68 2 la s.log.length lc (pairs s.log) := h.log.same fun i hi => (g2 i (h.log.lt i hi) (fun e => h.pl (e ▸ hi))).trans (g1 i (h.log.lt i hi) (fun hc => h.cl i hc hi))
    have := h1.take hk
    rw [pairs_take] at this
    simpa [hk] using this

set_option maxRecDepth 100000 in
set_option maxHeartbeats 4000000 in
theorem undo_ok (h : IsMem w p F s) (k : Nat) (hk : k ≤ s.log.length) (hok : s.ok) (hb : 0 ≤ s.base) (hm : s.base + s.log.length ≤ 1099511627776) :
    Calls Try.prog 25 #[.pointer (some ⟨p, 0, none⟩), .int .i64 (s.base + k)] w fun e w' => e = .returned (.int .i64 0) ∧ MemTo w p F (s.undo (s.base + k)) w' := by
  have hh := h
  obtain ⟨ca, cc, la, lc, h⟩ := h
  have c0 := h.c0
  have c1 := h.c1
  have c2 := h.c2
  have hp := lt_of_blk h.head
  have hck : s.check (s.base + k) = 0 := by rw [MemS.check, if_neg (by omega), if_neg (by omega)]
  have hlc := h.log.2.2.1
  have hlm := h.log.2.1
  unfold maxLen at hlm
  have hsub : s.base + (k : Int) - s.base = k := by omega
  have hcut := h.log.cutA (lo := k) (hi := s.log.length) (mx := lc) hk hlc (Nat.le_refl _) (Nat.le_refl _)
  rw [pairs_drop, List.take_of_length_le (by rw [pairs_length, List.length_drop]; omega)] at hcut
  have H := Lib.hid h
  have h1 : ∀ o, IsMem (w.alloc o) p F s := fun o => hh.fr ((Fr.refl [] w).alloc o) (by simp)
  have H1 := Lib.hid h1
  have hsl := run_slice_from (P := Try.prog) 63 68 Try.underlying63 2 (by kernel_rfl) la s.log.length lc k hk
  have hto := run_slice_to (P := Try.prog) 63 68 Try.underlying63 2 (by kernel_rfl) la s.log.length lc k (by omega)
  obtain ⟨ln, hln⟩ : ∃ ln, cutA la k lc 2 = ln := ⟨_, rfl⟩
  have hbln : blk ln = blk la := by rw [← hln, blk_cutA]
  rw [hln] at hsl hcut
  have HC := Lib.hid hcut
  have HB := Lib.hid hbln
  have HL := Lib.hid hln
  have hlen : s.log.length - k = (s.log.drop k).length := by rw [List.length_drop]
  rw [hlen] at hsl
  have HLEN := Lib.hid hlen
  clear h hcut h1 hln hbln hlen
  refine (callsIn_wide (n := 6)).1 ?_
  refine callsIn_of_wp_marks Try.func25 rfl trivial ?_ rfl
  simp only [Try.ntmps25, List.size_toArray, List.length_cons, List.length_nil, Nat.reduceAdd, Nat.reduceSub, Array.replicate_succ, Array.replicate_zero, List.push_toArray, List.append_toArray, List.nil_append, List.cons_append]
  gi_wp2_with (first | (refine ⟨trivial, ?_⟩; gi_at_call 40; refine (callsIn_wide.2 (check_any (H1.out _) _ hb (by omega))).mono ?_; rw [hck]; rintro e w' ⟨rfl, nd, rfl⟩) | (refine ⟨trivial, ?_⟩; gi_at_call 45; refine (back_in Fence.wide _ trivial rfl _ _ _ _).mono ?_; rintro e w' ⟨rfl, rfl⟩))
  obtain ⟨t, ht⟩ : ∃ t, t = s.log.drop k := ⟨_, rfl⟩
  have HOK : Hid (∀ x : Fin t.length, 0 ≤ t[x].1 ∧ t[x].1 < s.cells.length) := Lib.hid fun x => hok _ (List.mem_of_mem_drop (i := k) (by rw [← ht]; exact List.getElem_mem _))
  have htl : t.length = s.log.length - k := by rw [ht, List.length_drop]
  have bN := cell_blk (alloc_new ((w.alloc (.cells #[.pointer (some ⟨p, 0, none⟩)] 24)).drewN nd) (.cells #[.slice ln (s.log.length - k) (lc - k)] 63)) 0
  have bM := alloc_old (o' := .cells #[.slice ln (s.log.length - k) (lc - k)] 63) (w := (w.alloc (.cells #[.pointer (some ⟨p, 0, none⟩)] 24)).drewN nd) (alloc_new w (.cells #[.pointer (some ⟨p, 0, none⟩)] 24))
  have hF0 : Fr [] w (((w.alloc (.cells #[.pointer (some ⟨p, 0, none⟩)] 24)).drewN nd).alloc (.cells #[.slice ln (s.log.length - k) (lc - k)] 63)) := (((Fr.refl [] w).alloc _).drewN nd).alloc _
  have hsz : (((w.alloc (.cells #[.pointer (some ⟨p, 0, none⟩)] 24)).drewN nd).alloc (.cells #[.slice ln (s.log.length - k) (lc - k)] 63)).heap.size = w.heap.size + 2 := by simp [World.drewN]
  have hsz1 : ((w.alloc (.cells #[.pointer (some ⟨p, 0, none⟩)] 24)).drewN nd).heap.size = w.heap.size + 1 := by simp [World.drewN]
  rw [hsz1] at bN
  obtain ⟨W0, hW0⟩ : ∃ W0, ((w.alloc (.cells #[.pointer (some ⟨p, 0, none⟩)] 24)).drewN nd).alloc (.cells #[.slice ln (s.log.length - k) (lc - k)] 63) = W0 := ⟨_, rfl⟩
  rw [hW0] at bN bM hF0 hsz ⊢
  clear hW0 hsz1
  simp at bN
  have hbk := H.out.blocks
  have hmem0 : IsMemAt W0 p F s ca cc la lc := by
    have h := H.out
    exact ⟨h.blocks, h.pc, h.pl, h.cl, hF0.blk h.head (by simp), h.cells.fr hF0 (by simp), h.log.fr hF0 (by simp)⟩
  have HM := Lib.hid hmem0
  have hpc := hmem0.pc
  have hclt : ∀ i ∈ blk ca, i < w.heap.size := H.out.cells.lt
  have hcut0 := HC.out.fr hF0 (by simp)
  have HT := Lib.hid ht
  have HTL := Lib.hid htl
  clear hmem0 ht htl
  refine wpIn_rangeFunc_ownH rfl (by omega) (gf := 52) (lb := #[.pointer (some ⟨w.heap.size + 1, 0, none⟩)]) rfl trivial (enters_of Try.func52 (by kernel_rfl) rfl)
    (back_stops Fence.wide (6 - 1) trivial rfl (by omega) (w.heap.size + 1) (blk ca) ln (lc - k) t W0 (by rw [HTL.out]; exact bN) (by omega) (fun hi => by have := hclt _ hi; omega) (by rw [HTL.out, HT.out]; exact hcut0) (fun i hi hi2 => H.out.cl i hi2 (HB.out ▸ hi)))
    frB_t (frB_b (Nat.le_refl _)) (Below.refl _ _) (fun _ => rfl)
    (fun pre W => (W.heap[w.heap.size]? = some (.cells #[.pointer (some ⟨p, 0, none⟩)] 24 (0, 0)) ∧ Seg W 3 1 ca s.cells.length cc (ints (someBack s.cells t pre))) ∧ FrB W0.heap.size (blk ca) W0 W)
    (fun _ _ _ => False)
    ?own (fun _ _ _ _ _ hs _ _ => hs) ⟨⟨bM, HM.out.cells⟩, FrB.refl _ _ _⟩
    (fun x a' W => ∃ Bx, W0.heap.size ≤ Bx ∧ W.heap[Bx]? = some (.cells #[.int .i64 t[x].1, .int .i64 t[x].2] 68 (0, 0)) ∧ a' = { tmps := #[.pointer (some ⟨p, 0, none⟩), .int .i64 (s.base + k), .pointer (some ⟨w.heap.size, 0, none⟩), undef, .int .i64 0, .int .i64 0, .int .i64 k, undef, .pointer (some ⟨Bx, 0, none⟩), .pointer (some ⟨p, 0, none⟩), .int .i64 (s.base + k), .int .i64 0, .int .i64 0, .bool false, undef, .int .i64 (s.base + k), .pointer (some ⟨p, 0, none⟩), .pointer (some ⟨p, 0, none⟩), .pointer (some ⟨p, 2, none⟩), .int .i64 s.base, .int .i64 k, .pointer (some ⟨p, 0, none⟩), .pointer (some ⟨p, 0, none⟩), .pointer (some ⟨p, 1, none⟩), .slice la s.log.length lc, .int .i64 k, .slice ln (s.log.length - k) (lc - k), .func (.func 52) #[] #[.pointer (some ⟨w.heap.size + 1, 0, none⟩)], .int .i64 (x.val : Int), .agg #[.int .i64 t[x].1, .int .i64 t[x].2], undef, undef, undef, undef, undef, undef, undef, undef, undef, undef, undef, undef, undef, undef, undef, undef, undef, undef], defers := [] })
    ?ownA ?assign ?body ?done ?stop
  case own =>
    rintro pre A B row ⟨⟨h1, h2⟩, h3⟩ hg hr
    have hsame : ∀ i, i < W0.heap.size → B.heap[i]? = A.heap[i]? := fun i hi => hg.block i (by have := h3.size; omega) (fun e => by have := (hr i e.symm).1; omega)
    exact ⟨⟨(hsame _ (by omega)).trans h1, h2.same fun i hi => hsame i (by have := hclt i hi; omega)⟩, h3.trans (FrB.grown hg (by have := h3.size; omega) (fun r e => (hr r e).1))⟩
  case ownA =>
    rintro x a' _ A B row ⟨Bx, h1, h2, h3⟩ hg hr
    refine ⟨Bx, h1, (hg.block Bx (lt_of_blk h2) (fun e => ?_)).trans h2, h3⟩
    obtain ⟨_, o, ho, hc⟩ := hr Bx e.symm
    rw [h2] at ho; cases ho; simp [Obj.isCells] at hc
  case assign =>
    rintro l pre x W K ⟨⟨h1, h2⟩, h3⟩ hK
    simp only [encE]
    gi_wp2
    have hx : FrB W0.heap.size (blk ca) W (W.alloc (.cells #[.int .i64 t[x].1, .int .i64 t[x].2] 68)) := FrB.ofFr (Fr.alloc (Fr.refl _ W) _) h3.size
    exact hK _ _ ((KeepsOthers.alloc _ _).from _) hx ⟨⟨alloc_old h1, h2.alloc _⟩, h3.trans hx⟩ ⟨W.heap.size, h3.size, alloc_new _ _, rfl⟩
  case body =>
    rintro l pre x a' W hl ⟨r, hr⟩ ⟨⟨h1, h2⟩, h3⟩ ⟨Bx, hBx, bX, rfl⟩ hlt
    have hxo := HOK.out x
    simp only [Fin.getElem_fin] at hxo
    have hxm := hxo.1
    have hxn := hxo.2
    obtain ⟨g, off, cur, rfl, hg, hfit, hc, hf⟩ := h2.at (by have := h2.2.2.1; omega)
    have cb := cell_blk h1 0
    simp at cb
    have hgl := hclt g (by simp [blk])
    have cm := (h3.cell (p := ⟨p, 0, none⟩) (by show p < _; have := HM.out.lt p (by simp [hbk]); omega) hpc).trans HM.out.c0
    have cx0 := cell_blk bX 0
    have cx1 := cell_blk bX 1
    simp at cx0 cx1
    obtain ⟨i, hi⟩ := Int.eq_ofNat_of_zero_le hxm
    have HI := Lib.hid hi
    have hil : i < s.cells.length := by omega
    obtain ⟨u, cc0⟩ : ∃ u, W.cell? ⟨g, off + i, none⟩ = some (.int .i64 u) := by
      have hl2 : i < (someBack s.cells t pre).length := by rw [someBack_length]; exact hil
      refine ⟨(someBack s.cells t pre)[i], ?_⟩
      rw [hc i (by omega), ints_get, List.getElem?_eq_getElem hl2]; rfl
    have fx := hf (off + i)
    clear hc hf hfit hg hto hsl hxo
    gi_wp2
    refine wpIn_round_still_tail 8 (by kernel_rfl) (by kernel_rfl) (by kernel_rfl) ?_
    simp only [List.take_succ_cons, List.take_zero, List.drop_succ_cons, List.drop_zero]
    repeat still_step
    refine wpStill_nil ?_
    go_wp2
    have hset : FrB W0.heap.size (blk (some ⟨g, off, none⟩)) W (W.drew.setCell ⟨g, off + i, none⟩ (.int .i64 t[x].2)) := FrB.ofFr (((Fr.refl _ W).drew).setCell (.inl (by simp [blk])) _) h3.size
    refine ⟨rfl, ((KeepsOthers.drew W).trans (KeepsOthers.setCell _ _ _)).from _, hset, ⟨⟨(setCell_ne (by simp; omega)).trans h1, ?_⟩, h3.trans hset⟩⟩
    have hst := h2.drew.store (i := i) (by omega) (.int .i64 t[x].2)
    have hit : t[x].1.toNat = i := by
      have := HI.out
      simp only [Fin.getElem_fin]
      omega
    rw [someBack_snoc, hit]
    have e : ints ((someBack s.cells t pre).set i t[x].2) = (ints (someBack s.cells t pre)).set i (.int .i64 t[x].2) := by simp [ints]
    rw [e]
    exact hst
  case done =>
    rintro D ys W hD rfl ⟨⟨h1, h2⟩, h3⟩ hK
    have cb := cell_blk h1 0
    simp at cb
    have hpa : p ∉ blk ca := hpc
    have hpW : p < W0.heap.size := by have := HM.out.lt p (by simp [hbk]); omega
    have cm := (h3.cell (p := ⟨p, 1, none⟩) hpW hpc).trans HM.out.c1
    have fm := (h3.frozen (p := ⟨p, 1, none⟩) hpW hpc).trans (frozen_blk HM.out.head 1)
    have hhead := (h3.block p hpW hpc).trans HM.out.head
    have H3 := Lib.hid h3
    have HHEAD := Lib.hid hhead
    have HK := Lib.hid hK
    clear hsl h3 hhead hK
    gi_wp2
    refine wpIn_wide.2 ?_
    go_still_tail 7, (by kernel_rfl)
    go_wp2
    gi_wp2
    have hK' := (KeepsOthers.setCell W.drew ⟨p, 1, none⟩ (.slice la k lc)).same D _ HK.out rfl
    refine ⟨by simp, .inl ⟨_, _, rfl, run_takeDeferred hK', ?_⟩⟩
    rw [someBack_all, HT.out] at h2
    exact ⟨_, results_tmp rfl _ _ _, rfl, undo_to H.out k hk hF0 H3.out h2 hD rfl⟩
  case stop =>
    rintro D c pre W _ _ h _
    exact h.elim
theorem undo_no (h : IsMem w p F s) (m : Int) (hb : 0 ≤ s.base) (hm : s.base + s.log.length ≤ 1099511627776) (hc : (s.check m == 0) = false) :
    Calls Try.prog 25 #[.pointer (some ⟨p, 0, none⟩), .int .i64 m] w fun e w' => e = .returned (.int .i64 (s.check m)) ∧ MemTo w p F s w' := by
  have hc2 : (s.check m != 0) = true := by rw [bne, hc]; rfl
  have h1 : ∀ o, IsMem (w.alloc o) p F s := fun o => h.fr ((Fr.refl [] w).alloc o) (by simp)
  have H1 := Lib.hid h1
  clear h1
  go_enter Try.func25, Try.ntmps25
  go_wp2_with (go_at_call 40; refine (check_any (H1.out _) _ hb (by omega)).mono ?_; rintro e w' ⟨rfl, n, rfl⟩)
  go_ret
  have hf : Fr [] w ((w.alloc (.cells #[.pointer (some ⟨p, 0, none⟩)] 24)).drewN n) := (((Fr.refl _ w).alloc _).drewN _)
  exact ⟨rfl, F, h.fr hf (by simp), hf.mono (by simp), Ext.refl _ _⟩

/-- Undo to a mark of the log that is kept -/
theorem undo_mark (h : IsMem w p F s) (m : Int) (hok : s.ok) (hb : 0 ≤ s.base) (hm : s.base + s.log.length ≤ 1099511627776) (h1 : s.base ≤ m) (h2 : m ≤ s.base + s.log.length) :
    Calls Try.prog 25 #[.pointer (some ⟨p, 0, none⟩), .int .i64 m] w fun e w' => e = .returned (.int .i64 0) ∧ MemTo w p F (s.undo m) w' := by
  obtain ⟨k, hk⟩ := Int.eq_ofNat_of_zero_le (show 0 ≤ m - s.base by omega)
  obtain rfl : m = s.base + k := by omega
  exact undo_ok h k (by omega) hok hb hm
end
end Go.Proofs.Ytoolojpjopodgaa
