/- Chapter 9: apply, built. -/
import Derived.Test.YtoolojpjopodgaaOps9
namespace Go.Proofs.Ytoolojpjopodgaa
open Go.RowKit

theorem Seg.kept {w w' : World} {e : TypeId} {size n cap : Nat} {ao : Option Addr} {xs : List Value} (h : Seg w e size ao n cap xs) {G : List Nat} (hk : Kept G w w') (hG : ∀ k ∈ blk ao, k ∈ G) : Seg w' e size ao n cap xs := h.same fun k hm => hk k (hG k hm)

def MemS.app (s : MemS) (o : OpS) : Int × List Int × MemS :=
  if o.d = 1 then ((s.undoC o.n).1, [], (s.undoC o.n).2) else if o.d = 2 then ((s.discC o.n).1, [], (s.discC o.n).2) else if o.d = 3 then ((s.chgC o.n).1, (s.chgC o.n).2, s) else (0, [], s.set o.n o.v)

def ApRes (W w : World) (G : List Nat) (p : Nat) (s' : MemS) (n : Int) (code : Int) (l : List Int) (e : Ending) (w' : World) : Prop :=
  ∃ ao cap, e = .returned (.tuple #[.slice ao l.length cap, .int .i64 code]) ∧ Seg w' 3 1 ao l.length cap (ints l) ∧ OwnG (memX p s' n) W (blk ao ++ G) w' ∧ Kept G w w'

section
variable {W w : World} {G : List Nat} {p : Nat} {s s' : MemS} {n : Int}

theorem OwnG.more {m : Int} (h : OwnG (memX p s n) W G w) (hm : n ≤ m) : OwnG (memX p s m) W G w := h.mono fun _ hF => ⟨hF.1, hF.2.mono hm⟩
theorem OwnG.alloc (h : OwnG (memX p s n) W G w) (o : Obj) : OwnG (memX p s n) W G (w.alloc o) := (h.fr (memX_frm p s n) ((Fr.refl [] w).alloc o)).1
theorem kept_alloc (h : OwnG (memX p s n) W G w) (o : Obj) : Kept G w (w.alloc o) := (h.fr (memX_frm p s n) ((Fr.refl [] w).alloc o)).2

set_option maxRecDepth 100000 in
set_option maxHeartbeats 4000000 in
theorem apply_any (h : OwnG (memX p s n) W G w) (o : OpS) (hn : n ≤ 1000000) {code : Int} {l : List Int} (he : s.app o = (code, l, s')) :
    Calls Try.prog 34 #[.pointer (some ⟨p, 0, none⟩), .agg #[.int .i64 o.d, .int .i64 o.n, .int .i64 o.v]] w (ApRes W w G p s' (n + 1) code l) := by
  have H := Lib.hid h
  have HW := Lib.hid (h.alloc (.cells #[.int .i64 o.d, .int .i64 o.n, .int .i64 o.v] 53))
  have HK := Lib.hid (kept_alloc h (.cells #[.int .i64 o.d, .int .i64 o.n, .int .i64 o.v] 53))
  clear h
  unfold MemS.app at he
  by_cases h1 : o.d = 1
  · rw [if_pos h1, Prod.mk.injEq, Prod.mk.injEq] at he
    obtain ⟨rfl, rfl, rfl⟩ := he
    have b1 : (o.d == 1) = true := by simpa using h1
    clear h1
    go_enter Try.func34, Try.ntmps34
    go_wp2_with fail
    refine (m_undoC HW.out o.n hn rfl).mono ?_
    rintro e w1 ⟨rfl, h1, k1⟩
    have H1 := Lib.hid h1
    have K1 := Lib.hid (HK.out.trans k1)
    clear h1 k1
    go_wp2_with fail
    go_ret2
    exact ⟨none, 0, rfl, Seg.nil _ _ _, H1.out.more (by omega), K1.out⟩
  · rw [if_neg h1] at he
    have b1 : (o.d == 1) = false := by simpa using h1
    by_cases h2 : o.d = 2
    · rw [if_pos h2, Prod.mk.injEq, Prod.mk.injEq] at he
      obtain ⟨rfl, rfl, rfl⟩ := he
      have b2 : (o.d == 2) = true := by simpa using h2
      clear h1 h2
      go_enter Try.func34, Try.ntmps34
      go_wp2_with fail
      refine (m_discC HW.out o.n hn rfl).mono ?_
      rintro e w1 ⟨rfl, h1, k1⟩
      have H1 := Lib.hid h1
      have K1 := Lib.hid (HK.out.trans k1)
      clear h1 k1
      go_wp2_with fail
      go_ret2
      exact ⟨none, 0, rfl, Seg.nil _ _ _, H1.out.more (by omega), K1.out⟩
    · rw [if_neg h2] at he
      have b2 : (o.d == 2) = false := by simpa using h2
      by_cases h3 : o.d = 3
      · rw [if_pos h3, Prod.mk.injEq, Prod.mk.injEq] at he
        have HX := Lib.hid (by rw [← he.1, ← he.2.1] : s.chgC o.n = (code, l))
        obtain rfl := he.2.2
        have b3 : (o.d == 3) = true := by simpa using h3
        clear he
        clear h1 h2 h3
        go_enter Try.func34, Try.ntmps34
        go_wp2_with fail
        refine (m_changedC HW.out o.n hn HX.out).mono ?_
        rintro e w1 ⟨ao, cap, rfl, hs1, h1, k1, -⟩
        have HS1 := Lib.hid hs1
        have H1 := Lib.hid h1
        have K1 := Lib.hid (HK.out.trans k1)
        clear h1 k1 hs1
        go_wp2_with fail
        go_ret2
        exact ⟨ao, cap, rfl, HS1.out, H1.out.more (by omega), K1.out⟩
      · rw [if_neg h3, Prod.mk.injEq, Prod.mk.injEq] at he
        obtain ⟨rfl, rfl, rfl⟩ := he
        have b3 : (o.d == 3) = false := by simpa using h3
        clear h1 h2 h3
        go_enter Try.func34, Try.ntmps34
        go_wp2_with fail
        refine (m_set HW.out o.n o.v hn rfl).mono ?_
        rintro e w1 ⟨rfl, h1, k1⟩
        have H1 := Lib.hid h1
        have K1 := Lib.hid (HK.out.trans k1)
        clear h1 k1
        go_wp2_with fail
        go_ret2
        exact ⟨none, 0, rfl, Seg.nil _ _ _, H1.out, K1.out⟩

def runOps (s : MemS) (ops : List OpS) : MemS := ops.foldl (fun s o => (s.app o).2.2) s
theorem runOps_succ (s : MemS) (ops : List OpS) (i : Nat) (hi : i < ops.length) : runOps s (ops.take (i + 1)) = ((runOps s (ops.take i)).app ops[i]).2.2 := by
  rw [List.take_succ_eq_append_getElem hi, runOps, List.foldl_append]
  rfl

/-- the memory that built makes -/
def builtS (cells l : List Int) : MemS := runOps ⟨sixL cells, [], 0⟩ (opsL l)

def flatO (l : List OpS) : List Value := l.flatMap OpS.cells
theorem flatO_get (l : List OpS) (k : Nat) (hk : k < l.length) : (flatO l)[k * 3]? = some (.int .i64 l[k].d) ∧ (flatO l)[k * 3 + 1]? = some (.int .i64 l[k].n) ∧ (flatO l)[k * 3 + 2]? = some (.int .i64 l[k].v) := by
  induction l generalizing k with
  | nil => simp at hk
  | cons x l ih =>
    cases k with
    | zero => simp [flatO, OpS.cells]
    | succ k =>
      have h := ih k (by simpa using hk)
      have e : flatO (x :: l) = .int .i64 x.d :: .int .i64 x.n :: .int .i64 x.v :: flatO l := by simp [flatO, OpS.cells]
      rw [e, show (k + 1) * 3 = k * 3 + 1 + 1 + 1 by omega]
      simpa using h

set_option maxRecDepth 100000 in
set_option maxHeartbeats 4000000 in
theorem built_any (hW : Fr [] W w) (hG : ∀ k ∈ G, W.heap.size ≤ k ∧ k < w.heap.size) (ao bo : Option Addr) (ac bc : Nat) (cells l : List Int) (hc : Rd W 1 ao cells.length (ints cells)) (hl : Rd W 1 bo l.length (ints l)) (hb : ∀ x ∈ l, bounded x) :
    Calls Try.prog 27 #[.slice ao cells.length ac, .slice bo l.length bc] w fun e w' => ∃ p, e = .returned (.pointer (some ⟨p, 0, none⟩)) ∧ OwnG (memX p (builtS cells l) 30) W G w' ∧ Kept G w w' := by
  have HW := Lib.hid hW
  have HG := Lib.hid hG
  have HSX := Lib.hid (six_any w ao ac cells (hc.fr hW (by simp)))
  have HL := Lib.hid hl
  have HB := Lib.hid hb
  clear hW hG hc hl hb
  go_enter Try.func27, Try.ntmps27
  go_wp2_with fail
  refine HSX.out.mono ?_
  rintro e w1 ⟨b, rfl, hb1, hrow, hf1⟩
  have h6 := sixL_len cells
  have HF1 := Lib.hid hf1
  have HN := Lib.hid (m_new' (W := W) (G := G) (HW.out.trans hf1 (by simp [Ext])) (some ⟨b, 0, none⟩) 6 (sixL cells) (by have h := (row_seg hrow (by rw [h6]; unfold maxLen; omega)).rd; exact h) (by rw [h6]; omega) (fun k hk => ⟨(HG.out k hk).1, Nat.lt_of_lt_of_le (HG.out k hk).2 hf1.size⟩))
  rw [h6] at HN
  clear hrow hf1 hb1 h6 HSX
  go_wp2_with fail
  refine HN.out.mono ?_
  rintro e w2 ⟨p, rfl, h2, k2⟩
  have H2 := Lib.hid h2
  have K2 := Lib.hid ((show Kept G w w1 from fun k hk => HF1.out.block k (HG.out k hk).2 (by simp)).trans k2)
  have HOP := Lib.hid (ops_any w2 bo bc l (HL.out.fr h2.frame (by simp)) HB.out)
  clear h2 k2 HN HF1
  go_wp2_with fail
  refine HOP.out.mono ?_
  rintro e w3 ⟨oa, oc, rfl, hs3, hf3, hn3⟩
  obtain ⟨O, hO⟩ : ∃ O, O = opsL l := ⟨_, rfl⟩
  rw [← hO] at hs3 ⊢
  have hOl : O.length ≤ 30 := by rw [hO]; exact opsL_len l
  have HO := Lib.hid hO
  have HS3 := Lib.hid hs3
  have H3 := Lib.hid (H2.out.own (memX_frm _ _ _) hf3 (by simp) (G' := blk oa ++ G) (fun k hk => by
    rcases List.mem_append.1 hk with h | h
    · exact ⟨.inr (hn3 k h), hs3.lt k h⟩
    · exact ⟨.inl h, Nat.lt_of_lt_of_le (H2.out.gnew k h).2 hf3.size⟩))
  have K3 := Lib.hid (K2.out.trans (H2.out.fr (memX_frm _ _ _) hf3).2)
  clear hO hs3 hf3 hn3 HOP H2 K2
  go_wp2_with fail
  go_loopw [7] (fun iv wr => ∃ i : Nat, i ≤ O.length ∧ iv = .int .i64 (i : Int) ∧ OwnG (memX p (runOps ⟨sixL cells, [], 0⟩ (O.take i)) i) W (blk oa ++ G) wr ∧ Kept (blk oa ++ G) w3 wr) (fun iv _ => O.length - (intOf iv).toNat)
  case atStart => exact ⟨0, by omega, rfl, by simpa [runOps] using H3.out, Kept.refl _ _⟩
  case round =>
    obtain ⟨i, hi, rfl, hown, hkept⟩ := hrel
    have HOW := Lib.hid hown
    have HKP := Lib.hid hkept
    clear hown hkept
    by_cases hlt : i < O.length
    · have hseg := HS3.out.kept HKP.out (fun k hk => by simp [hk])
      obtain ⟨g, off, cur, rfl, hg, -, hc, -⟩ := hseg.at (by have := hseg.2.2.1; omega)
      obtain ⟨q0, q1, q2⟩ := flatO_get O i hlt
      obtain ⟨o, ho⟩ : ∃ o, o = O[i] := ⟨_, rfl⟩
      rw [← ho] at q0 q1 q2
      have z0 : wr.cell? ⟨g, off + i * 3, none⟩ = some (.int .i64 o.d) := (hc _ (by omega)).trans q0
      have z1 : wr.cell? ⟨g, off + i * 3 + 1, none⟩ = some (.int .i64 o.n) := by rw [Nat.add_assoc]; exact (hc _ (by omega)).trans q1
      have z2 : wr.cell? ⟨g, off + i * 3 + 2, none⟩ = some (.int .i64 o.v) := by rw [Nat.add_assoc]; exact (hc _ (by omega)).trans q2
      obtain ⟨code, lx, s2, happ⟩ : ∃ code lx s2, (runOps ⟨sixL cells, [], 0⟩ (O.take i)).app o = (code, lx, s2) := ⟨_, _, _, rfl⟩
      have HAP := Lib.hid happ
      have HOE := Lib.hid ho
      have hi30 : (i : Int) ≤ 1000000 := by omega
      clear hseg hc q0 q1 q2 happ ho hg
      go_wp2_with fail
      refine (apply_any HOW.out o hi30 HAP.out).mono ?_
      rintro e w4 ⟨xo, xc, rfl, -, h4, k4⟩
      have H4 := Lib.hid (h4.sub (G' := blk (some ⟨g, off, none⟩) ++ G) (fun k hk => by simp at hk ⊢; rcases hk with hk | hk <;> simp [hk]))
      have K4 := Lib.hid (HKP.out.trans k4)
      clear h4 k4
      go_wp2_with fail
      go_roundw
      case rel =>
        refine ⟨i + 1, by omega, by go_num, ?_, K4.out⟩
        rw [runOps_succ _ _ _ hlt, ← HOE.out, HAP.out]
        exact H4.out
      case measure => simp [intOf]; omega
    · have HIE := Lib.hid (show i = O.length by omega)
      go_wp2_with fail
      go_ret
      refine ⟨p, rfl, ?_, K3.out.trans (HKP.out.sub (fun k hk => by simp [hk]))⟩
      have h := HOW.out
      rw [HIE.out, List.take_length] at h
      unfold builtS
      rw [← HO.out]
      exact (h.sub (fun k hk => by simp [hk])).more (by omega)
end
end Go.Proofs.Ytoolojpjopodgaa
