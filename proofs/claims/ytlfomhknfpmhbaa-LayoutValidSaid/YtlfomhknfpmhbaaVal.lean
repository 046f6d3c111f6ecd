/- Package layout: within, proper, validNumbers, validBody. -/
import Derived.Test.YtlfomhknfpmhbaaLay
import Derived.Test.YtlfomhknfpmhbaaRow
namespace Go.Proofs.Ytlfomhknfpmhbaa
open Go.RowKit

def inB (lo hi x : Int) : Bool := decide (lo ≤ x ∧ x ≤ hi)
def allB (lo hi : Int) (xs : List Int) : Bool := xs.all (inB lo hi)

set_option maxHeartbeats 1000000 in
theorem within_any (w : World) (lo hi : Int) (ao : Option Addr) (cap : Nat) (xs : List Int) (h : Rd w 1 ao xs.length (ints xs)) :
    Calls Try.prog 53 #[.int .i64 lo, .int .i64 hi, .slice ao xs.length cap] w fun e w' => e = .returned (.bool (allB lo hi xs)) ∧ Fr [] w w' := by
  have HRD := Lib.hid h
  have hlen : xs.length ≤ 9223372036854775807 := by have := h.2.1; unfold maxLen at this; omega
  clear h
  go_enter Try.func53, Try.ntmps53
  go_wp2_with fail
  go_loopw [11] (fun iv wr => ∃ i : Nat, i ≤ xs.length ∧ iv = .int .i64 (i : Int) ∧ allB lo hi (xs.take i) = true ∧ Fr [] w wr) (fun iv _ => xs.length - (intOf iv).toNat)
  case atStart => exact ⟨0, by omega, rfl, rfl, Fr.refl _ _⟩
  case round =>
    obtain ⟨i, hi', rfl, ht, hf⟩ := hrel
    have HT := Lib.hid ht
    have HF := Lib.hid hf
    by_cases hil : i < xs.length
    · obtain ⟨g, off, rfl, hg, hc⟩ := HRD.out.at (by omega)
      have ci : wr.cell? ⟨g, off + i, none⟩ = some (.int .i64 xs[i]) := by
        rw [World.cell?_of_block (a := ⟨g, off + i, none⟩) (hf.block g hg (by simp)), hc i (by omega), ints_get, List.getElem?_eq_getElem hil]; rfl
      obtain ⟨x, hx⟩ : ∃ x, x = xs[i] := ⟨_, rfl⟩
      rw [← hx] at ci
      have hii : (i : Int) < (xs.length : Int) := by omega
      have HX := Lib.hid (by rw [List.take_succ_eq_append_getElem hil, ← hx] : xs.take (i + 1) = xs.take i ++ [x])
      have HM := Lib.hid (by rw [hx]; exact List.getElem_mem hil : x ∈ xs)
      clear ht hf hc hx
      by_cases h1 : x < lo
      · go_wp2_with fail
        go_ret
        exact ⟨ret_bool (by
          have : inB lo hi x = false := by unfold inB; simp; omega
          unfold allB
          symm
          rw [List.all_eq_false]
          exact ⟨x, HM.out, by rw [this]; simp⟩), HF.out⟩
      · by_cases h2 : hi < x
        · go_wp2_with fail
          go_ret
          exact ⟨ret_bool (by
            have : inB lo hi x = false := by unfold inB; simp; omega
            unfold allB
            symm
            rw [List.all_eq_false]
            exact ⟨x, HM.out, by rw [this]; simp⟩), HF.out⟩
        · go_wp2_with fail
          go_roundw
          case rel => exact ⟨i + 1, by omega, by go_num, by
            rw [HX.out]
            have h3 := HT.out
            unfold allB at h3 ⊢
            rw [List.all_append, h3]
            simp [inB]; omega, HF.out⟩
          case measure => simp [intOf]; omega
    · have hke : xs.take i = xs := List.take_of_length_le (by omega)
      rw [hke] at HT
      clear ht hf hke
      go_wp2_with fail
      go_ret
      exact ⟨ret_bool HT.out.symm, HF.out⟩

theorem alloc_new2 (w : World) (o o' : Obj) : ((w.alloc o).alloc o').heap[w.heap.size + 1]? = some o' := by
  have := alloc_new (w.alloc o) o'
  rwa [World.size_alloc] at this

theorem within1 (u : World) (b : Nat) (lo hi x : Int) (h : u.heap[b]? = some (.cells #[.int .i64 x] 3 (0, 0))) : Calls Try.prog 53 #[.int .i64 lo, .int .i64 hi, .slice (some ⟨b, 0, none⟩) 1 1] u fun e w' => e = .returned (.bool (inB lo hi x)) ∧ Fr [] u w' := by
  have hs : Rd u 1 (some ⟨b, 0, none⟩) [x].length (ints [x]) := (Seg.one b _ 3 1 1 h rfl (by unfold maxLen; omega)).rd
  refine (within_any _ lo hi _ 1 [x] hs).mono fun e w' h => ⟨?_, h.2⟩
  rw [h.1]; simp [allB]
theorem within2 (u : World) (b : Nat) (lo hi x y : Int) (h : u.heap[b]? = some (.cells #[.int .i64 x, .int .i64 y] 3 (0, 0))) : Calls Try.prog 53 #[.int .i64 lo, .int .i64 hi, .slice (some ⟨b, 0, none⟩) 2 2] u fun e w' => e = .returned (.bool (inB lo hi x && inB lo hi y)) ∧ Fr [] u w' := by
  have hs : Rd u 1 (some ⟨b, 0, none⟩) [x, y].length (ints [x, y]) := (Seg.one b _ 3 1 2 h rfl (by unfold maxLen; omega)).rd
  refine (within_any _ lo hi _ 2 [x, y] hs).mono fun e w' h => ⟨?_, h.2⟩
  rw [h.1]; simp [allB]
theorem within4 (u : World) (b : Nat) (lo hi x y z t : Int) (h : u.heap[b]? = some (.cells #[.int .i64 x, .int .i64 y, .int .i64 z, .int .i64 t] 3 (0, 0))) : Calls Try.prog 53 #[.int .i64 lo, .int .i64 hi, .slice (some ⟨b, 0, none⟩) 4 4] u fun e w' => e = .returned (.bool (inB lo hi x && inB lo hi y && inB lo hi z && inB lo hi t)) ∧ Fr [] u w' := by
  have hs : Rd u 1 (some ⟨b, 0, none⟩) [x, y, z, t].length (ints [x, y, z, t]) := (Seg.one b _ 3 1 4 h rfl (by unfold maxLen; omega)).rd
  refine (within_any _ lo hi _ 4 [x, y, z, t] hs).mono fun e w' h => ⟨?_, h.2⟩
  rw [h.1]; simp [allB, Bool.and_assoc]

def BX (x0 y0 x1 y1 : Int) : Value := .agg #[.int .i64 x0, .int .i64 y0, .int .i64 x1, .int .i64 y1]
def properB (x0 y0 x1 y1 : Int) : Bool := decide (x0 ≤ x1) && decide (y0 ≤ y1) && (inB (-1048576) 1048576 x0 && inB (-1048576) 1048576 y0 && inB (-1048576) 1048576 x1 && inB (-1048576) 1048576 y1)

set_option maxHeartbeats 2000000 in
theorem proper_any (w : World) (x0 y0 x1 y1 : Int) : Calls Try.prog 39 #[BX x0 y0 x1 y1] w fun e w' => e = .returned (.bool (properB x0 y0 x1 y1)) ∧ Fr [] w w' := by
  unfold BX
  by_cases h1 : x0 ≤ x1
  · by_cases h2 : y0 ≤ y1
    · have e : properB x0 y0 x1 y1 = (inB (-1048576) 1048576 x0 && inB (-1048576) 1048576 y0 && inB (-1048576) 1048576 x1 && inB (-1048576) 1048576 y1) := by unfold properB; simp [h1, h2]
      rw [e]
      obtain ⟨t, ht⟩ : ∃ t, t = (inB (-1048576) 1048576 x0 && inB (-1048576) 1048576 y0 && inB (-1048576) 1048576 x1 && inB (-1048576) 1048576 y1) := ⟨_, rfl⟩
      have HW := Lib.hid (fun (u : World) (b : Nat) h => ht ▸ within4 u b (-1048576) 1048576 x0 y0 x1 y1 h)
      rw [← ht]
      clear e ht
      go_enter Try.func39, Try.ntmps39
      go_wp2_with fail
      refine (HW.out _ _ (alloc_new2 w _ _)).mono ?_
      rintro e w1 ⟨rfl, f1⟩
      have F1 := Lib.hid ((((Fr.refl [] w).alloc _).alloc _).trans f1 (by simp [Ext]))
      clear f1
      go_wp2_with fail
      go_ret
      exact ⟨rfl, F1.out⟩
    · have e : properB x0 y0 x1 y1 = false := by unfold properB; simp [h2]
      rw [e]
      clear e
      go_enter Try.func39, Try.ntmps39
      go_wp2_with fail
      go_ret
      exact ⟨rfl, (Fr.refl [] w).alloc _⟩
  · have e : properB x0 y0 x1 y1 = false := by unfold properB; simp [h1]
    rw [e]
    clear e
    go_enter Try.func39, Try.ntmps39
    go_wp2_with fail
    go_ret
    exact ⟨rfl, (Fr.refl [] w).alloc _⟩
end Go.Proofs.Ytlfomhknfpmhbaa
