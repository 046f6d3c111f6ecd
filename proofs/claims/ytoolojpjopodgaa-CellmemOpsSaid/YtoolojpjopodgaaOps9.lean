/- Chapter 9's generator of operations. -/
import Derived.Deep.DeepCutAuto
import Derived.Deep.CutBlock
import Derived.Test.YtoolojpjopodgaaHelp9
namespace Go.Proofs.Ytoolojpjopodgaa
open Go.RowKit

/-- an operation: do, n, v -/
structure OpS where
  d : Int
  n : Int
  v : Int
def OpS.cells (o : OpS) : List Value := [.int .i64 o.d, .int .i64 o.n, .int .i64 o.v]

def opN (n : Nat) (a : Int) : OpS :=
  ⟨if n % 16 < 2 then 1 else if n % 16 = 2 then 2 else if n % 16 < 5 then 3 else 0,
   if n % 16 < 2 then a - (n : Int) / 16 % 5 else if n % 16 = 2 then a - (n : Int) / 16 % 7 else if n % 16 < 5 then a + 1 - (n : Int) / 16 % 8 else (n : Int) / 16 % 8 - 1,
   (n : Int) / 128 % 9 - 4⟩
def opA (n : Nat) (a : Int) : Int := if n % 16 < 5 then a else a + 1

def opsF (l : List Int) : Nat → List OpS × Int
  | 0 => ([], 0)
  | i + 1 => ((opsF l i).1 ++ [opN (around (l.getD i 0) 1000000).toNat (opsF l i).2], opA (around (l.getD i 0) 1000000).toNat (opsF l i).2)

theorem opsF_len (l : List Int) (i : Nat) : (opsF l i).1.length = i := by
  induction i with
  | zero => rfl
  | succ i ih => simp [opsF, ih]
theorem opsF_at (l : List Int) (i : Nat) : 0 ≤ (opsF l i).2 ∧ (opsF l i).2 ≤ i := by
  induction i with
  | zero => simp [opsF]
  | succ i ih => simp only [opsF, opA]; split <;> omega
theorem opN_bnd (n : Nat) (a : Int) (h0 : 0 ≤ a) (h1 : a ≤ 30) : -100 ≤ (opN n a).n ∧ (opN n a).n ≤ 100 ∧ -100 ≤ (opN n a).v ∧ (opN n a).v ≤ 100 := by
  unfold opN
  simp only
  refine ⟨?_, ?_, by omega, by omega⟩
  · split
    · omega
    · split
      · omega
      · split <;> omega
  · split
    · omega
    · split
      · omega
      · split <;> omega
theorem opsF_bnd (l : List Int) (i : Nat) (hi : i ≤ 30) : ∀ o ∈ (opsF l i).1, -100 ≤ o.n ∧ o.n ≤ 100 ∧ -100 ≤ o.v ∧ o.v ≤ 100 := by
  induction i with
  | zero => simp [opsF]
  | succ i ih =>
    intro o ho
    simp only [opsF, List.mem_append, List.mem_singleton] at ho
    rcases ho with ho | rfl
    · exact ih (by omega) o ho
    · have := opsF_at l i; exact opN_bnd _ _ this.1 (by omega)

/-- the operations that the numbers l give -/
def opsL (l : List Int) : List OpS := (opsF l (min l.length 30)).1
theorem opsL_len (l : List Int) : (opsL l).length ≤ 30 := by unfold opsL; rw [opsF_len]; omega

theorem infoOp : (Try.prog.info? 53).map (fun i => (i.zero, i.size, i.bytes)) = some (some (.agg #[.int .i64 0, .int .i64 0, .int .i64 0]), 3, 24) := by kernel_rfl

def OpsTo (w : World) (l : List OpS) (e : Ending) (w' : World) : Prop := ∃ oa oc, e = .returned (.slice oa l.length oc) ∧ Seg w' 53 3 oa l.length oc (l.flatMap OpS.cells) ∧ Fr [] w w' ∧ ∀ k ∈ blk oa, w.heap.size ≤ k

def OpInv (w : World) (l : List Int) (sv av iv : Value) (wr : World) : Prop :=
  ∃ (i : Nat) (oa : Option Addr) (oc : Nat), i ≤ l.length ∧ i ≤ 30 ∧ iv = .int .i64 (i : Int) ∧ av = .int .i64 (opsF l i).2 ∧ sv = .slice oa (opsF l i).1.length oc ∧
    Seg wr 53 3 oa (opsF l i).1.length oc ((opsF l i).1.flatMap OpS.cells) ∧ Fr [] w wr ∧ ∀ k ∈ blk oa, w.heap.size ≤ k

set_option maxRecDepth 100000 in
set_option maxHeartbeats 8000000 in
theorem ops_any (w : World) (ao : Option Addr) (cap : Nat) (l : List Int) (h : Rd w 1 ao l.length (ints l)) (hb : ∀ x ∈ l, bounded x) :
    Calls Try.prog 23 #[.slice ao l.length cap] w (OpsTo w (opsL l)) := by
  have hlen : l.length ≤ 9223372036854775807 := by have := h.2.1; unfold maxLen at this; omega
  obtain ⟨i0, hi0, hz0, hz1, hz2⟩ := info_parts infoOp
  have H := Lib.hid h
  have HB := Lib.hid hb
  have HST := Lib.hid (⟨0, none, 0, by omega, by omega, rfl, rfl, rfl, by simpa [opsF] using Seg.nil w _ 3, Fr.refl _ _, by simp [blk]⟩ : OpInv w l (.slice none 0 0) (.int .i64 0) (.int .i64 0) w)
  clear h hb
  go_enter Try.func23, Try.ntmps23
  go_wp2_with fail
  go_loopw [3, 4, 5] (fun sv av iv wr => OpInv w l sv av iv wr) (fun _ _ iv _ => 30 - (intOf iv).toNat)
  case atStart => exact HST.out
  case round =>
    clear HST
    obtain ⟨i, oa, oc, hil, hi30, rfl, rfl, rfl, hseg, hf, hn⟩ := hrel
    have hab := opsF_at l i
    have HLN := Lib.hid (opsF_len l i)
    obtain ⟨O, hO⟩ : ∃ O, O = (opsF l i).1 := ⟨_, rfl⟩
    obtain ⟨a, ha⟩ : ∃ a, a = (opsF l i).2 := ⟨_, rfl⟩
    rw [← hO] at hseg HLN ⊢
    rw [← ha] at hab ⊢
    have HO := Lib.hid hO
    have HAT := Lib.hid ha
    have HS := Lib.hid hseg
    have HF := Lib.hid hf
    have HN := Lib.hid hn
    have hOl : O.length ≤ 30 := by rw [HLN.out]; exact hi30
    clear hO ha hseg hf hn
    by_cases hlt : i < l.length ∧ i < 30
    · obtain ⟨h1, h2⟩ := hlt
      obtain ⟨g, off, rfl, hg, hc⟩ := (H.out.fr HF.out (by simp)).at (by omega)
      have cx : wr.cell? ⟨g, off + i, none⟩ = some (.int .i64 l[i]) := by rw [hc i (by omega), ints_get, List.getElem?_eq_getElem h1]; rfl
      obtain ⟨n, hn6, hne, hA⟩ := around_nat l[i] 1000000 (HB.out _ (List.getElem_mem h1)) (by omega) (by omega)
      have HA := Lib.hid hA
      have HNE := Lib.hid (show (around (l.getD i 0) 1000000).toNat = n by rw [List.getD_eq_getElem?_getD, List.getElem?_eq_getElem h1, Option.getD_some]; have e : ((1000000 : Nat) : Int) = 1000000 := rfl; rw [e] at hne; omega)
      obtain ⟨x, hx⟩ : ∃ x, x = l[i] := ⟨_, rfl⟩
      rw [← hx] at cx HA
      obtain ⟨b, hbb⟩ : ∃ b, b = wr.heap.size := ⟨_, rfl⟩
      have HBB := Lib.hid hbb
      clear hA hc hx hne hbb
      go_upto_block 2 with (go_at_call 24; refine (HA.out _).mono ?_; rintro e w1 ⟨rfl, rfl⟩)
      obtain ⟨n1, hn1⟩ : ∃ n1, n1 = (n : Int) / 16 % 8 - 1 := ⟨_, rfl⟩
      obtain ⟨v1, hv1⟩ : ∃ v1, v1 = (n : Int) / 128 % 9 - 4 := ⟨_, rfl⟩
      have HN1 := Lib.hid hn1
      have HV1 := Lib.hid hv1
      rw [← hn1, ← hv1]
      have hbk := alloc_new wr (.cells #[.int .i64 0, .int .i64 n1, .int .i64 v1] 53)
      have HBK := Lib.hid hbk
      have HFA := Lib.hid ((Fr.refl [] wr).alloc (.cells #[.int .i64 0, .int .i64 n1, .int .i64 v1] 53))
      clear hn1 hv1 hbk
      go_cut [4] (fun av wc => av = .int .i64 (opA n a) ∧ wc.heap[wr.heap.size]? = some (.cells #[.int .i64 (opN n a).d, .int .i64 (opN n a).n, .int .i64 (opN n a).v] 53 (0, 0)) ∧ Fr [] wr wc)
      case first =>
        obtain ⟨q, hq⟩ : ∃ q : Nat, (n : Int) % 16 = (q : Int) := ⟨n % 16, by omega⟩
        have hqn : n % 16 = q := by omega
        have HQ := Lib.hid hqn
        have hq16 : q < 16 := by omega
        clear hqn
        by_cases h5 : q < 5
        · rcases (show q = 0 ∨ q = 1 ∨ q = 2 ∨ q = 3 ∨ q = 4 by omega) with e | e | e | e | e <;> subst e
          all_goals
            go_wp2_with fail
            go_meet
            refine ⟨by simp [opA, HQ.out], ?_, ((Fr.refl [] wr).alloc _)⟩
            have h := alloc_new wr (.cells #[.int .i64 (opN n a).d, .int .i64 (opN n a).n, .int .i64 (opN n a).v] 53)
            simpa [opN, HQ.out, HV1.out] using h
        · have e0 : ((q : Int) == 0) = false := by simp; omega
          have e1 : ((q : Int) == 1) = false := by simp; omega
          have e2 : ((q : Int) == 2) = false := by simp; omega
          have e3 : ((q : Int) == 3) = false := by simp; omega
          have e4 : ((q : Int) == 4) = false := by simp; omega
          go_wp2_with fail
          go_meet
          have g2 : ¬ n % 16 < 2 := by rw [HQ.out]; omega
          have g3 : ¬ n % 16 = 2 := by rw [HQ.out]; omega
          have g5 : ¬ n % 16 < 5 := by rw [HQ.out]; omega
          refine ⟨by simp [opA, g5], ?_, ((Fr.refl [] wr).alloc _)⟩
          have h := alloc_new wr (.cells #[.int .i64 (opN n a).d, .int .i64 (opN n a).n, .int .i64 (opN n a).v] 53)
          simpa [opN, g2, g3, g5, HV1.out, HN1.out] using h
      case rest =>
        obtain ⟨rfl, hcb, hcf⟩ := hcut
        obtain ⟨o, ho⟩ : ∃ o, o = opN n a := ⟨_, rfl⟩
        have hoe : (opN n a).d = o.d ∧ (opN n a).n = o.n ∧ (opN n a).v = o.v := by rw [ho]; exact ⟨rfl, rfl, rfl⟩
        rw [hoe.1, hoe.2.1, hoe.2.2] at hcb
        have z0 : wc.cell? ⟨wr.heap.size, 0, none⟩ = some (.int .i64 o.d) := cell_blk hcb 0
        have z1 : wc.cell? ⟨wr.heap.size, 1, none⟩ = some (.int .i64 o.n) := cell_blk hcb 1
        have z2 : wc.cell? ⟨wr.heap.size, 2, none⟩ = some (.int .i64 o.v) := cell_blk hcb 2
        have HSA := Lib.hid fun (ob : Obj) => (HS.out.fr hcf (by simp)).alloc ob
        have HOE := Lib.hid ho
        have HCF := Lib.hid hcf
        have HNW := Lib.hid (fun j u hu => by
          rw [Addr.add_mid, Nat.zero_add, World.cell?_alloc_new]; simpa [OpS.cells] using hu : ∀ j u, o.cells[j]? = some u → (wc.alloc (.cells #[.int .i64 o.d, .int .i64 o.n, .int .i64 o.v] 53)).cell? ((⟨wc.heap.size, 0, none⟩ : Addr).add j) = some u)
        clear hcb hcf ho hoe
        go_wp2_with (at_builtin; refine wpList_append_seg rfl _ _ 37 rfl 53 i0 _ 3 24 Try.underlying37 hi0 hz0 hz1 hz2 rfl (by decide) oa O.length oc (O.flatMap OpS.cells) rfl (HSA.out _) ⟨wc.heap.size, 0, none⟩ 1 1 o.cells rfl rfl HNW.out (by simp [OpS.cells, Value.oneCell']) (by unfold maxLen; omega) (by omega) ?_; intro ao' cap' w5 hs5 hf5 hx5; have HF5 := Lib.hid (((Fr.refl (blk oa) wc).alloc _).trans hf5 (Ext.refl _ _)); have HX5 := Lib.hid hx5; have HS5 := Lib.hid hs5; clear hs5 hf5 hx5)
        go_roundw
        case rel =>
          have e1 : opsF l (i + 1) = (O ++ [o], opA n a) := by
            show ((opsF l i).1 ++ [opN (around (l.getD i 0) 1000000).toNat (opsF l i).2], opA (around (l.getD i 0) 1000000).toNat (opsF l i).2) = _
            rw [HNE.out, ← HO.out, ← HAT.out, HOE.out]
          have hW : Fr [] w w5 := (HF.out.trans HCF.out (by simp [Ext])).trans HF5.out (fun k hk => .inr (HN.out k hk))
          refine ⟨i + 1, ao', cap', by omega, by omega, by go_num, by rw [e1], by rw [e1]; simp, ?_, hW, fun k hk => ?_⟩
          · rw [e1]
            have h := HS5.out
            simpa using h
          · rcases HX5.out k hk with h | h
            · exact HN.out k h
            · have := HF.out.size; have := HCF.out.size; simp at h; omega
        case measure => simp [intOf]; omega
    · have HE := Lib.hid (show i = min l.length 30 by omega)
      by_cases h1 : i < l.length
      · have h2 : ¬ i < 30 := by omega
        clear hlt
        go_wp2_with fail
        go_ret
        exact ⟨oa, oc, by rw [HO.out]; unfold opsL; rw [← HE.out]; rfl, by unfold opsL; rw [← HE.out, ← HO.out]; exact HS.out, HF.out, HN.out⟩
      · clear hlt
        go_wp2_with fail
        go_ret
        exact ⟨oa, oc, by rw [HO.out]; unfold opsL; rw [← HE.out]; rfl, by unfold opsL; rw [← HE.out, ← HO.out]; exact HS.out, HF.out, HN.out⟩
end Go.Proofs.Ytoolojpjopodgaa
