/- Package cellmem: contracts of New and Cells. -/
import Derived.Test.YtoolojpjopodgaaMem2
namespace Go.Proofs.Ytoolojpjopodgaa
open Go.RowKit

section
variable {w : World} {p : Nat} {F : List Nat} {s : MemS}

/-! ### New -/

/-- the block of a row of integers -/
def row (l : List Int) : Obj := .cells (ints l).toArray 3 (0, 0)

theorem row_cell {w : World} {b : Nat} {l : List Int} (h : w.heap[b]? = some (row l)) {k : Nat} (hk : k < l.length) : w.cell? ⟨b, k, none⟩ = some (.int .i64 l[k]) := by
  rw [cell_blk h, List.getElem?_toArray, ints_get, List.getElem?_eq_getElem hk]; rfl

theorem row_frozen {w : World} {b : Nat} {l : List Int} (h : w.heap[b]? = some (row l)) (k : Nat) : w.frozen? ⟨b, k, none⟩ = false := frozen_blk h k

theorem row_set {w : World} {b : Nat} {l : List Int} (h : w.heap[b]? = some (row l)) (k : Nat) (x : Int) : (w.setCell ⟨b, k, none⟩ (.int .i64 x)).heap[b]? = some (row (l.set k x)) := by
  rw [setCell_blk h]
  simp [row, ints]

theorem row_seg {w : World} {b : Nat} {l : List Int} (h : w.heap[b]? = some (row l)) (hm : l.length ≤ maxLen) : Seg w 3 1 (some ⟨b, 0, none⟩) l.length l.length (ints l) :=
  Seg.one b _ _ 1 l.length h (by simp) hm

theorem infoInt : (Try.prog.info? 3).map (fun i => (i.zero, i.size, i.bytes)) = some (some (.int .i64 0), 1, 8) := by kernel_rfl

theorem make_ints (n : Nat) (hn : n ≤ 1099511627776) (u : World) :
    (Instr.makeSlice 22 (.int .i64 n) (.int .i64 n)).run Try.prog u = .ok (.slice (some ⟨u.heap.size, 0, none⟩) n n) (u.alloc (row (List.replicate n 0))) := by
  obtain ⟨i0, hi, hz0, hz1, hz2⟩ := info_parts infoInt
  have h := run_make (P := Try.prog) u 22 3 i0 (.int .i64 0) Try.underlying22 hi hz0 .i64 .i64 n n (by omega) (Int.le_refl _) (by rw [hz2]; omega) (by omega)
  rw [h]
  have e : madeCells (Value.int .i64 0).cells (Int.toNat n * i0.size) = (ints (List.replicate n 0)).toArray := by
    have := toList_madeCells_one (.int .i64 0) n
    rw [hz1, Int.toNat_natCast, Nat.mul_one, ints, List.map_replicate, ← this]
    rfl
  rw [e]
  simp [row]

/-- a memory has been made at p; nothing that was there has changed -/
def MemNew (w : World) (p : Nat) (s : MemS) (w' : World) : Prop := ∃ F, IsMem w' p F s ∧ Fr [] w w' ∧ Ext [] w F

def NewInv (w : World) (l : List Int) (k : Nat) (wr : World) : Prop :=
  wr.heap[w.heap.size]? = some (row (l.take k ++ List.replicate (l.length - k) 0)) ∧
  wr.heap[w.heap.size + 1]? = some (.cells #[.slice (some ⟨w.heap.size, 0, none⟩) l.length l.length, .slice none 0 0, .int .i64 0] 65 (0, 0)) ∧ Fr [] w wr

theorem NewInv.step {l : List Int} {k : Nat} {wr : World} (h : NewInv w l k wr) (hk : k < l.length) : NewInv w l (k + 1) (wr.drew.setCell ⟨w.heap.size, k, none⟩ (.int .i64 l[k])) := by
  obtain ⟨h1, h2, h3⟩ := h
  refine ⟨?_, (setCell_ne (by simp)).trans h2, h3.drew.setCell (.inr (Nat.le_refl _)) _⟩
  rw [row_set (w := wr.drew) h1]
  congr 2
  rw [List.take_succ_eq_append_getElem hk, List.append_assoc, show l.length - k = (l.length - (k + 1)) + 1 by omega, List.replicate_succ, List.set_append_right _ _ (by simp; omega)]
  simp [List.length_take, show min k l.length = k by omega]

theorem NewInv.done {l : List Int} {wr : World} (h : NewInv w l l.length wr) (hm : l.length ≤ maxLen) : MemNew w (w.heap.size + 1) { cells := l, log := [], base := 0 } wr := by
  obtain ⟨h1, h2, h3⟩ := h
  refine ⟨[w.heap.size + 1, w.heap.size], ⟨some ⟨w.heap.size, 0, none⟩, l.length, none, 0, by simp [blk], by simp [blk], by simp [blk], by simp [blk], h2, ?_, Seg.nil _ _ _⟩, h3, fun k hk => ?_⟩
  · have := row_seg h1 (by simpa using hm)
    simpa using this
  · simp at hk; right; omega

theorem new_any (ao : Option Addr) (cap : Nat) (l : List Int) (hrd : Rd w 1 ao l.length (ints l)) (hl : l.length ≤ 1099511627776) :
    Calls Try.prog 13 #[.slice ao l.length cap] w fun e w' => e = .returned (.pointer (some ⟨w.heap.size + 1, 0, none⟩)) ∧ MemNew w (w.heap.size + 1) { cells := l, log := [], base := 0 } w' := by
  have hmk := make_ints l.length hl
  go_enter Try.func13, Try.ntmps13
  go_wp2
  clear hmk
  have hstart : NewInv w l 0 ((w.alloc (row (List.replicate l.length 0))).alloc (.cells #[.slice (some ⟨w.heap.size, 0, none⟩) l.length l.length, .slice none 0 0, .int .i64 0] 65 (0, 0))) :=
    ⟨by simpa using alloc_old (alloc_new _ _), by simpa using alloc_new (w.alloc (row (List.replicate l.length 0))) _, ((Fr.refl _ _).alloc _).alloc _⟩
  go_loopw [12] (fun i wr => ∃ k : Nat, k ≤ l.length ∧ i = .int .i64 k ∧ NewInv w l k wr) (fun i _ => l.length - (intOf i).toNat)
  case atStart => exact ⟨0, Nat.zero_le _, rfl, hstart⟩
  case round =>
    obtain ⟨k, hk, rfl, hinv⟩ := hrel
    by_cases hlt : k < l.length
    · obtain ⟨g, off, rfl, hg, hc⟩ := hrd.at (by omega)
      have hcx : wr.cell? ⟨g, off + k, none⟩ = some (.int .i64 l[k]) := by
        rw [World.cell?_of_block (hinv.2.2.block g hg (by simp)), hc k (by omega), ints_get, List.getElem?_eq_getElem hlt]; rfl
      have hm := cell_blk hinv.2.1 0
      simp at hm
      have hy := row_cell hinv.1 (k := k) (by simp; omega)
      have hf := row_frozen hinv.1 k
      clear hc hrd
      have H := Lib.hid hinv
      clear hinv
      go_wp2
      go_region
      all_goals go_wp2
      all_goals
        go_roundw
        case rel => exact ⟨k + 1, by omega, by go_num, H.out.step hlt⟩
        case measure => simp [intOf]; omega
    · have hkl : k = l.length := by omega
      subst hkl
      go_wp2
      go_ret
      exact ⟨rfl, hinv.done (by unfold maxLen; omega)⟩

/-! ### Cells -/

/-- a row of integers has been made at block b; nothing that was there has changed -/
def RowNew (w : World) (b : Nat) (l : List Int) (w' : World) : Prop := w'.heap[b]? = some (row l) ∧ Fr [] w w'

theorem RowNew.step {l : List Int} {k : Nat} {wr : World} (h : RowNew w w.heap.size (l.take k ++ List.replicate (l.length - k) 0) wr) (hk : k < l.length) {x : Int} (hx : x = l[k]) :
    RowNew w w.heap.size (l.take (k + 1) ++ List.replicate (l.length - (k + 1)) 0) (wr.setCell ⟨w.heap.size, k, none⟩ (.int .i64 x)) := by
  obtain ⟨h1, h3⟩ := h
  subst hx
  refine ⟨?_, h3.setCell (.inr (Nat.le_refl _)) _⟩
  rw [row_set h1]
  congr 2
  rw [List.take_succ_eq_append_getElem hk, List.append_assoc, show l.length - k = (l.length - (k + 1)) + 1 by omega, List.replicate_succ, List.set_append_right _ _ (by simp; omega)]
  simp [List.length_take, show min k l.length = k by omega]

theorem MemS.get_lt (s : MemS) {k : Nat} (hk : k < s.cells.length) : s.get k = s.cells[k] := by simp [MemS.get, MemS.has, hk]

theorem cells_any (h : IsMem w p F s) (hl : s.cells.length ≤ 1099511627776) :
    Calls Try.prog 19 #[.pointer (some ⟨p, 0, none⟩)] w fun e w' => e = .returned (.slice (some ⟨w.heap.size, 0, none⟩) s.cells.length s.cells.length) ∧ RowNew w w.heap.size s.cells w' := by
  have hmk := make_ints s.cells.length hl
  have h1 : ∀ o, IsMem (w.alloc o) p F s := fun o => h.fr ((Fr.refl [] w).alloc o) (by simp)
  have H1 := Lib.hid h1
  clear h1
  go_enter Try.func19, Try.ntmps19
  go_wp2_with fail
  refine (len_any h).mono ?_
  rintro e w' ⟨rfl, rfl⟩
  go_wp2_with fail
  refine (len_any (H1.out _)).mono ?_
  rintro e w' ⟨rfl, rfl⟩
  go_wp2_with fail
  clear hmk
  have hstart : RowNew w w.heap.size (s.cells.take 0 ++ List.replicate (s.cells.length - 0) 0) (w.alloc (row (List.replicate s.cells.length 0))) := ⟨by simpa using alloc_new _ _, (Fr.refl _ _).alloc _⟩
  go_loopw [10] (fun i wr => ∃ k : Nat, k ≤ s.cells.length ∧ i = .int .i64 k ∧ RowNew w w.heap.size (s.cells.take k ++ List.replicate (s.cells.length - k) 0) wr) (fun i _ => s.cells.length - (intOf i).toNat)
  case atStart => exact ⟨0, Nat.zero_le _, rfl, hstart⟩
  case round =>
    obtain ⟨k, hk, rfl, hinv⟩ := hrel
    by_cases hlt : k < s.cells.length
    · have hm : IsMem wr p F s := h.fr hinv.2 (by simp)
      have hy := row_cell hinv.1 (k := k) (by simp; omega)
      have hf := row_frozen hinv.1 k
      have H := Lib.hid hinv
      clear hinv
      go_wp2_with (go_at_call 14; refine (get_any hm _).mono ?_; rintro e w' ⟨rfl, rfl⟩)
      all_goals
        go_roundw
        case rel => exact ⟨k + 1, by omega, by go_num, H.out.step hlt (s.get_lt hlt)⟩
        case measure => simp [intOf]; omega
    · have hkl : k = s.cells.length := by omega
      subst hkl
      go_wp2
      go_ret
      exact ⟨rfl, by simpa using hinv⟩

end
end Go.Proofs.Ytoolojpjopodgaa
