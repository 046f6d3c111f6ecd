/- arenanetref24.Acts: some operations are made out of integers. -/
import Derived.Test.YtchigfofcdildaaLaw24a
namespace Go.Proofs.Ytchigfofcdildaa
open Go.RowKit

def trips (l : List (Int × Int × Int)) : List Value := l.flatMap fun x => [.int .i64 x.1, .int .i64 x.2.1, .int .i64 x.2.2]
theorem trips_cons (x : Int × Int × Int) (m : List (Int × Int × Int)) : trips (x :: m) = .int .i64 x.1 :: .int .i64 x.2.1 :: .int .i64 x.2.2 :: trips m := by simp [trips]
theorem trips_append (l m : List (Int × Int × Int)) : trips (l ++ m) = trips l ++ trips m := by simp [trips]
theorem trips_length (l : List (Int × Int × Int)) : (trips l).length = l.length * 3 := by
  induction l with
  | nil => rfl
  | cons x l ih => rw [trips_cons]; simp only [List.length_cons, ih]; omega
theorem trips_get (l : List (Int × Int × Int)) (k : Nat) :
    (trips l)[k * 3]? = l[k]?.map (fun x => .int .i64 x.1) ∧ (trips l)[k * 3 + 1]? = l[k]?.map (fun x => .int .i64 x.2.1) ∧ (trips l)[k * 3 + 2]? = l[k]?.map (fun x => .int .i64 x.2.2) := by
  induction l generalizing k with
  | nil => simp [trips]
  | cons x l ih =>
    cases k with
    | zero => simp [trips]
    | succ k =>
      obtain ⟨a, b, c⟩ := ih k
      rw [trips_cons, show (k + 1) * 3 = k * 3 + 1 + 1 + 1 by omega]
      simp only [List.getElem?_cons_succ]
      refine ⟨a, ?_, ?_⟩
      · exact b
      · exact c

theorem Seg.trip {w : World} {e : TypeId} {g off n cap : Nat} {l : List (Int × Int × Int)} (h : Seg w e 3 (some ⟨g, off, none⟩) n cap (trips l)) {k : Nat} (hk : k < l.length) :
    w.cell? ⟨g, off + k * 3, none⟩ = some (.int .i64 l[k].1) ∧ w.cell? ⟨g, off + k * 3 + 1, none⟩ = some (.int .i64 l[k].2.1) ∧ w.cell? ⟨g, off + k * 3 + 2, none⟩ = some (.int .i64 l[k].2.2) := by
  have hl := h.1
  rw [trips_length] at hl
  obtain ⟨g', off', cur, ha, _, _, hc, _⟩ := h.at (by have := h.2.2.1; omega)
  cases ha
  obtain ⟨a, b, c⟩ := trips_get l k
  refine ⟨?_, ?_, ?_⟩
  · rw [hc _ (by omega), a, List.getElem?_eq_getElem hk]; rfl
  · rw [Nat.add_assoc, hc _ (by omega), b, List.getElem?_eq_getElem hk]; rfl
  · rw [Nat.add_assoc, hc _ (by omega), c, List.getElem?_eq_getElem hk]; rfl

theorem infoAct : (Try.prog.info? 40).map (fun i => (i.zero, i.size, i.bytes)) = some (some (.agg #[.int .i64 0, .int .i64 0, .int .i64 0]), 3, 24) := by kernel_rfl

theorem new_three (w : World) (x y z : Value) (t : TypeId) : ∀ j u, [x, y, z][j]? = some u → (w.alloc (.cells #[x, y, z] t)).cell? ((⟨w.heap.size, 0, none⟩ : Addr).add j) = some u := by
  intro j u hu
  rw [Addr.add_mid, Nat.zero_add, World.cell?_alloc_new]
  simpa using hu

/-- what is known of an operation -/
def actOk (x : Int × Int × Int) : Prop := 0 ≤ x.1 ∧ x.1 ≤ 3 ∧ -8 ≤ x.2.1 ∧ x.2.1 ≤ 8 ∧ (x.1 < 2 → 0 ≤ x.2.1) ∧ 0 ≤ x.2.2 ∧ x.2.2 < 50

/-- operations have been made: at most 40 -/
def ActsTo (w : World) (e : Ending) (w' : World) : Prop :=
  ∃ ao cap acts, e = .returned (.slice ao acts.length cap) ∧ acts.length ≤ 40 ∧ (∀ x ∈ acts, actOk x) ∧ Seg w' 40 3 ao acts.length cap (trips acts) ∧ Fr [] w w' ∧ ∀ k ∈ blk ao, w.heap.size ≤ k

/-- the loop of Acts, when i operations have been made -/
def ActsInv (w : World) (i : Nat) (v : Value) (wr : World) : Prop :=
  ∃ ao cap acts, v = .slice ao acts.length cap ∧ acts.length = i ∧ (∀ x ∈ acts, actOk x) ∧ Seg wr 40 3 ao acts.length cap (trips acts) ∧ Fr [] w wr ∧ ∀ k ∈ blk ao, w.heap.size ≤ k

theorem pick7 (m : Nat) : ∃ d : Nat, d ≤ 3 ∧ ∀ u : World, (u.alloc (.cells #[.int .i64 0, .int .i64 1, .int .i64 2, .int .i64 2, .int .i64 0, .int .i64 2, .int .i64 3] 3)).cell? ⟨u.heap.size, m % 7, none⟩ = some (.int .i64 d) := by
  have h : ∀ j, j < 7 → ∃ d : Nat, d ≤ 3 ∧ (#[Value.int .i64 0, .int .i64 1, .int .i64 2, .int .i64 2, .int .i64 0, .int .i64 2, .int .i64 3])[j]? = some (.int .i64 d) := by
    intro j hj
    match j, hj with
    | 0, _ => exact ⟨0, by omega, rfl⟩
    | 1, _ => exact ⟨1, by omega, rfl⟩
    | 2, _ => exact ⟨2, by omega, rfl⟩
    | 3, _ => exact ⟨2, by omega, rfl⟩
    | 4, _ => exact ⟨0, by omega, rfl⟩
    | 5, _ => exact ⟨2, by omega, rfl⟩
    | 6, _ => exact ⟨3, by omega, rfl⟩
  obtain ⟨d, hd, h2⟩ := h (m % 7) (Nat.mod_lt _ (by omega))
  exact ⟨d, hd, fun u => by rw [World.cell?_alloc_new]; exact h2⟩

theorem ActsInv.add {w : World} {i : Nat} {ao ao' : Option Addr} {cap' : Nat} {acts : List (Int × Int × Int)} {wr u w1 : World} (_h2 : acts.length = i) (h3 : ∀ x ∈ acts, actOk x) (h5 : Fr [] w wr) (h6 : ∀ k ∈ blk ao, w.heap.size ≤ k)
    {d a b : Int} (hx : actOk (d, a, b)) (hu : Fr [] wr u) (hs : Seg w1 40 3 ao' (acts.length + 1) cap' (trips acts ++ [.int .i64 d, .int .i64 a, .int .i64 b])) (hf : Fr (blk ao) u w1) (he : Ext (blk ao) u (blk ao')) :
    ActsInv w (i + 1) (.slice ao' (acts.length + 1) cap') w1 := by
  have hwu := h5.trans hu (by simp [Ext])
  refine ⟨ao', cap', acts ++ [(d, a, b)], by simp, by simp [_h2], fun x hm => ?_, ?_, hwu.trans hf (fun k hk => .inr (h6 k hk)), fun k hk => ?_⟩
  · simp at hm
    rcases hm with hm | rfl
    · exact h3 x hm
    · exact hx
  · rw [trips_append]; simpa [trips] using hs
  · rcases he k hk with h | h
    · exact h6 k h
    · exact Nat.le_trans hwu.size h
set_option maxRecDepth 100000 in
set_option maxHeartbeats 2000000 in
theorem acts_any (w : World) (ao : Option Addr) (cap : Nat) (l : List Int) (hrd : Rd w 1 ao l.length (ints l)) (hb : ∀ x ∈ l, bounded x) : Calls Try.prog 20 #[.slice ao l.length cap] w (ActsTo w) := by
  have hlen : l.length ≤ 9223372036854775807 := by have := hrd.2.1; unfold maxLen at this; omega
  obtain ⟨i0, hi, hz0, hz1, hz2⟩ := info_parts infoAct
  have HRD := Lib.hid hrd
  have HB := Lib.hid hb
  clear hrd hb
  go_enter Try.func20, Try.ntmps20
  go_wp2
  go_loopw [3, 4] (fun v i wr => ∃ i' : Nat, i' ≤ l.length ∧ i' ≤ 40 ∧ i = .int .i64 i' ∧ ActsInv w i' v wr) (fun _ i _ => 40 - (intOf i).toNat)
  case atStart => exact ⟨0, Nat.zero_le _, Nat.zero_le _, rfl, none, 0, [], rfl, rfl, by simp, Seg.nil _ _ _, Fr.refl _ _, by simp [blk]⟩
  case round =>
    obtain ⟨i, hi1, hi2, rfl, a1, c1, acts, rfl, h2, h3, h4, h5, h6⟩ := hrel
    have hal : acts.length ≤ 40 := by omega
    have A2 := Lib.hid h2
    have A3 := Lib.hid h3
    have A4 := Lib.hid h4
    have A5 := Lib.hid h5
    have A6 := Lib.hid h6
    clear h2 h3 h4 h5 h6
    by_cases hlt : i < l.length ∧ i < 40
    · obtain ⟨hl1, hl2⟩ := hlt
      have hd1 : decide ((i : Int) < (l.length : Int)) = true := decide_eq_true (by omega)
      have hd2 : decide ((i : Int) < 40) = true := decide_eq_true (by omega)
      have hcx : ∃ g off, ao = some ⟨g, off, none⟩ ∧ wr.cell? ⟨g, off + i, none⟩ = some (.int .i64 l[i]) := by
        obtain ⟨g, off, ha, hg, hc⟩ := HRD.out.at (by omega)
        refine ⟨g, off, ha, ?_⟩
        rw [World.cell?_of_block (A5.out.block g hg (by simp)), hc i (by omega), ints_get, List.getElem?_eq_getElem hl1]; rfl
      obtain ⟨g, off, rfl, hcx⟩ := hcx
      obtain ⟨M, hM⟩ := Int.eq_ofNat_of_zero_le (around_lt l[i] (m := 100000) (by omega)).1
      have hMl : M < 100000 := by have := (around_lt l[i] (m := 100000) (by omega)).2; omega
      have HA := Lib.hid fun w => (hM ▸ around_any l[i] 100000 w (HB.out _ (List.getElem_mem _)).1 (HB.out _ (List.getElem_mem _)).2 (by omega) (by omega) : Calls Try.prog 10 #[.int .i64 l[i], .int .i64 100000] w fun e w' => e = .returned (.int .i64 M) ∧ w = w')
      obtain ⟨d, hd3, hdc⟩ := pick7 M
      have hdw := hdc wr
      have hMi : M ≤ 9223372036854775807 := by omega
      clear hM hdc hMl
      go_wp2_with fail
      refine (HA.out _).mono ?_
      rintro e w2 ⟨rfl, rfl⟩
      have HN := Lib.hid fun (o1 o2 : Obj) (x y z : Value) => (by
        have := new_three ((wr.alloc o1).alloc o2) x y z 40
        simp only [World.size_alloc] at this
        exact this : ∀ j u, [x, y, z][j]? = some u → (((wr.alloc o1).alloc o2).alloc (.cells #[x, y, z] 40)).cell? ((⟨wr.heap.size + 1 + 1, 0, none⟩ : Addr).add j) = some u)
      have HS := Lib.hid fun (o1 o2 o3 : Obj) => ((A4.out.alloc o1).alloc o2).alloc o3
      have HF := Lib.hid fun (o1 o2 o3 : Obj) => (((Fr.refl [] wr).alloc o1).alloc o2).alloc o3
      rcases (show d = 0 ∨ d = 1 ∨ d = 2 ∨ d = 3 by omega) with rfl | rfl | rfl | rfl
      all_goals
        go_wp2_with (at_builtin; refine wpList_append_seg rfl _ _ 37 rfl 40 i0 _ 3 24 Try.underlying37 hi hz0 hz1 hz2 rfl (by decide) a1 acts.length c1 (trips acts) rfl (HS.out _ _ _) ⟨wr.heap.size + 1 + 1, 0, none⟩ 1 1 [_, _, _] rfl rfl (HN.out _ _ _ _ _) (by simp [Value.oneCell']) (by unfold maxLen; omega) (by omega) ?_; intro ao' cap' w1 hs1 hfr1 hext1)
      all_goals
        go_roundw
        case rel => exact ⟨i + 1, by omega, by omega, by go_num, ActsInv.add A2.out A3.out A5.out A6.out (by unfold actOk; dsimp only; omega) (HF.out _ _ _) hs1 hfr1 hext1⟩
        case measure => simp [intOf]; omega
    · have hd : (decide ((i : Int) < (l.length : Int)) && decide ((i : Int) < 40)) = false := by
        by_cases h1 : i < l.length
        · rw [decide_eq_false (show ¬ (i : Int) < 40 by omega)]; simp
        · rw [decide_eq_false (show ¬ (i : Int) < (l.length : Int) by omega)]; rfl
      by_cases h1 : (i : Int) < (l.length : Int)
      · have h2 : ¬ (i : Int) < 40 := by omega
        go_wp2
        go_ret
        exact ⟨a1, c1, acts, rfl, hal, A3.out, A4.out, A5.out, A6.out⟩
      · go_wp2
        go_ret
        exact ⟨a1, c1, acts, rfl, hal, A3.out, A4.out, A5.out, A6.out⟩
end Go.Proofs.Ytchigfofcdildaa
