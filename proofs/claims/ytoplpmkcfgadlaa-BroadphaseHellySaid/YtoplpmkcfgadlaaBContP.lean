/- BroadphaseContains, plain; Clamp; a point of a box. -/
import Derived.Test.YtoplpmkcfgadlaaBroadB
namespace Go.Proofs.Ytoplpmkcfgadlaa
open Go.RowKit

def clampI (n lo hi : Int) : Int := if n < lo then lo else if hi < n then hi else n
set_option maxHeartbeats 1000000 in
theorem clampf_any (w : World) (n lo hi : Int) : Calls Try.prog 24 #[.int .i64 n, .int .i64 lo, .int .i64 hi] w fun e w' => e = .returned (.int .i64 (clampI n lo hi)) ∧ w' = w := by
  unfold clampI
  by_cases h1 : n < lo
  · rw [if_pos h1]
    go_enter Try.func24, Try.ntmps24
    go_wp2
    go_ret
    exact ⟨rfl, rfl⟩
  · rw [if_neg h1]
    by_cases h2 : hi < n
    · rw [if_pos h2]
      go_enter Try.func24, Try.ntmps24
      go_wp2
      go_ret
      exact ⟨rfl, rfl⟩
    · rw [if_neg h2]
      go_enter Try.func24, Try.ntmps24
      go_wp2
      go_ret
      exact ⟨rfl, rfl⟩
theorem clamp_ov {X Z : BX} (hX : X.ok) (hZ : Z.ok) : BX.ov ⟨clampI Z.x0 X.x0 X.x1, clampI Z.y0 X.y0 X.y1, clampI Z.x0 X.x0 X.x1, clampI Z.y0 X.y0 X.y1⟩ Z = X.ov Z := by
  obtain ⟨h1, h2⟩ := hX
  obtain ⟨h3, h4⟩ := hZ
  have key : ∀ a b c d : Int, a ≤ b → c ≤ d → meetB (clampI c a b) (clampI c a b) c d = meetB a b c d := fun a b c d hab hcd => by
    unfold meetB clampI
    rw [Bool.eq_iff_iff]
    simp only [Bool.and_eq_true, decide_eq_true_eq]
    split
    · omega
    · split <;> omega
  unfold BX.ov
  simp only
  rw [key _ _ _ _ h1 h3, key _ _ _ _ h2 h4]
theorem ov_refl {X : BX} (h : X.ok) : X.ov X = true := by
  obtain ⟨h1, h2⟩ := h
  unfold BX.ov meetB
  simp; omega
theorem ov_mono {X Y Z : BX} (h : Z.ov X = true) (h0 : Y.x0 ≤ X.x0) (h1 : Y.y0 ≤ X.y0) (h2 : X.x1 ≤ Y.x1) (h3 : X.y1 ≤ Y.y1) : Z.ov Y = true := by
  unfold BX.ov meetB at *
  simp only [Bool.and_eq_true, decide_eq_true_eq] at *
  omega
theorem snoc_get (bs : List BX) (Y : BX) {i : Nat} (hi : i < bs.length) : (bs ++ [Y])[i]! = bs[i]! := by
  rw [getElem!_pos (bs ++ [Y]) i (by simp; omega), getElem!_pos bs i hi, List.getElem_append_left hi]
theorem snoc_last (bs : List BX) (Y : BX) : (bs ++ [Y])[bs.length]! = Y := by
  rw [getElem!_pos (bs ++ [Y]) bs.length (by simp)]; simp
theorem cont_yes (bs : List BX) (Y : BX) {i k : Nat} (hi : i < bs.length) (hk : k < bs.length) (hok : ∀ b ∈ bs, b.ok) (h0 : Y.x0 ≤ (bs[k]!).x0) (h1 : Y.y0 ≤ (bs[k]!).y0) (h2 : (bs[k]!).x1 ≤ Y.x1) (h3 : (bs[k]!).y1 ≤ Y.y1)
    (h : (min i k, max i k) ∈ pairsB (bs ++ [Y]) ∨ i = k) : (i, bs.length) ∈ pairsB (bs ++ [Y]) := by
  have key : (bs[i]!).ov (bs[k]!) = true := by
    rcases h with h | h
    · obtain ⟨-, -, h4⟩ := mem_pairsB.1 h
      simp only at h4
      rcases Nat.le_total i k with q | q
      · rw [Nat.min_eq_left q, Nat.max_eq_right q, snoc_get bs Y hi, snoc_get bs Y hk] at h4; exact h4
      · rw [Nat.min_eq_right q, Nat.max_eq_left q, snoc_get bs Y hi, snoc_get bs Y hk, ov_comm] at h4; exact h4
    · subst h
      exact ov_refl (by rw [getElem!_pos bs i hi]; exact hok _ (List.getElem_mem hi))
  refine mem_pairsB.2 ⟨hi, by simp, ?_⟩
  show ((bs ++ [Y])[i]!).ov ((bs ++ [Y])[bs.length]!) = true
  rw [snoc_get bs Y hi, snoc_last]
  exact ov_mono key h0 h1 h2 h3
theorem frs {P : World → Prop} {a b c : World} (h : Fr [] a b ∧ P b) (k : Fr [] b c) : Fr [] a c := h.1.trans k (by simp [Ext])
theorem blk_news {w : World} {b : Nat} {c : Array Value} {T : TypeId} (h : w.heap[b]? = some (.cells c T (0, 0))) : ∀ j u, c.toList[j]? = some u → w.cell? ((⟨b, 0, none⟩ : Addr).add j) = some u := by
  intro j u hj
  rw [Addr.add_mid, Nat.zero_add, cell_blk h]
  simpa using hj
theorem alloc2_new (w : World) (a b : Obj) : ((w.alloc a).alloc b).heap[w.heap.size + 1]? = some b := by
  have h := alloc_new (w.alloc a) b
  rwa [show (w.alloc a).heap.size = w.heap.size + 1 by simp] at h
end Go.Proofs.Ytoplpmkcfgadlaa
