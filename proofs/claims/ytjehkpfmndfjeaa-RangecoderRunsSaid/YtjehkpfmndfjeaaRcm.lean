/- Package rangecoder: the model inside a block, and the contracts of its methods. -/
import Derived.Test.YtjehkpfmndfjeaaProg
import Derived.Test.YtjehkpfmndfjeaaBase
import Derived.Test.YtjehkpfmndfjeaaRound
import Derived.Test.YtjehkpfmndfjeaaRc
import Derived.Test.YtjehkpfmndfjeaaBits
import Derived.IntWalk
namespace Go.Proofs.Ytjehkpfmndfjeaa
open Go.RowKit

theorem ret_int {k : IntKind} {a b : Int} (h : a = b) : Ending.returned (.int k a) = .returned (.int k b) := by rw [h]
theorem ret_bool {a b : Bool} (h : a = b) : Ending.returned (.bool a) = .returned (.bool b) := by rw [h]

def chV (l : List Nat) : List Value := l.map fun x : Nat => Value.int .i64 (x : Int)
def mdV (m : Md) : List Value := chV m.ch ++ [.int .u32 (m.lo : Int), .int .u32 (m.hi : Int)]
theorem chV_length (l : List Nat) : (chV l).length = l.length := by simp [chV]
theorem mdV_length (m : Md) : (mdV m).length = m.ch.length + 2 := by simp [mdV, chV]

/-- block p holds the model m, and behind it the cells X -/
def MdAt (w : World) (p : Nat) (T : TypeId) (m : Md) (X : List Value) : Prop := w.heap[p]? = some (.cells (mdV m ++ X).toArray T (0, 0)) ∧ m.ch.length = 256

section
variable {w : World} {p : Nat} {T : TypeId} {m : Md} {X : List Value}

theorem mdV_ch {m : Md} (hl : m.ch.length = 256) {c : Nat} (hc : c < 256) (X : List Value) : (mdV m ++ X)[c]? = some (.int .i64 (m.p c : Int)) := by
  rw [mdV, List.append_assoc, List.getElem?_append_left (by rw [chV_length]; omega), chV, List.getElem?_map, List.getElem?_eq_getElem (by omega)]
  simp [Md.p, List.getD_eq_getElem?_getD, show c < m.ch.length by omega]
theorem mdV_lo {m : Md} (hl : m.ch.length = 256) (X : List Value) : (mdV m ++ X)[256]? = some (.int .u32 (m.lo : Int)) := by
  rw [mdV, List.append_assoc, List.getElem?_append_right (by rw [chV_length]; omega), chV_length, hl]; simp
theorem mdV_hi {m : Md} (hl : m.ch.length = 256) (X : List Value) : (mdV m ++ X)[257]? = some (.int .u32 (m.hi : Int)) := by
  rw [mdV, List.append_assoc, List.getElem?_append_right (by rw [chV_length]; omega), chV_length, hl]; simp
theorem mdV_x {m : Md} (hl : m.ch.length = 256) (X : List Value) (j : Nat) : (mdV m ++ X)[258 + j]? = X[j]? := by
  rewrite [List.getElem?_append_right (by rewrite [mdV_length]; omega), mdV_length, hl, show 258 + j - (256 + 2) = j by omega]
  exact rfl
theorem MdAt.c (h : MdAt w p T m X) {c : Nat} (hc : c < 256) : w.cell? ⟨p, c, none⟩ = some (.int .i64 (m.p c : Int)) := by
  rw [cell_blk h.1, List.getElem?_toArray, mdV_ch h.2 hc]
theorem MdAt.clo (h : MdAt w p T m X) : w.cell? ⟨p, 256, none⟩ = some (.int .u32 (m.lo : Int)) := by rw [cell_blk h.1, List.getElem?_toArray, mdV_lo h.2]
theorem MdAt.chi (h : MdAt w p T m X) : w.cell? ⟨p, 257, none⟩ = some (.int .u32 (m.hi : Int)) := by rw [cell_blk h.1, List.getElem?_toArray, mdV_hi h.2]
theorem MdAt.cx (h : MdAt w p T m X) (j : Nat) : w.cell? ⟨p, 258 + j, none⟩ = X[j]? := by rw [cell_blk h.1, List.getElem?_toArray, mdV_x h.2]
theorem MdAt.fz (h : MdAt w p T m X) (i : Nat) : w.frozen? ⟨p, i, none⟩ = false := frozen_blk h.1 i
theorem MdAt.lt (h : MdAt w p T m X) : p < w.heap.size := lt_of_blk h.1
theorem MdAt.fr {w' : World} {S : List Nat} (h : MdAt w p T m X) (hf : Fr S w w') (hS : p ∉ S) : MdAt w' p T m X := ⟨hf.blk h.1 hS, h.2⟩
theorem MdAt.drewN (h : MdAt w p T m X) (n : Nat) : MdAt (w.drewN n) p T m X := h
theorem MdAt.setCh (h : MdAt w p T m X) {c : Nat} (hc : c < 256) (v : Nat) : MdAt (w.setCell ⟨p, c, none⟩ (.int .i64 (v : Int))) p T { m with ch := m.ch.set c v } X := by
  refine ⟨?_, by simp [h.2]⟩
  rw [setCell_blk h.1, List.setIfInBounds_toArray]
  congr 3
  simp only [mdV, List.append_assoc]
  rw [List.set_append_left _ _ (by rw [chV_length, h.2]; exact hc)]
  simp [chV, List.map_set]
theorem MdAt.setLo (h : MdAt w p T m X) (v : Nat) : MdAt (w.setCell ⟨p, 256, none⟩ (.int .u32 (v : Int))) p T { m with lo := v } X := by
  refine ⟨?_, h.2⟩
  rw [setCell_blk h.1, List.setIfInBounds_toArray]
  congr 3
  simp only [mdV, List.append_assoc]
  rw [List.set_append_right _ _ (by rw [chV_length, h.2]; omega), chV_length, h.2]
  simp
theorem MdAt.setHi (h : MdAt w p T m X) (v : Nat) : MdAt (w.setCell ⟨p, 257, none⟩ (.int .u32 (v : Int))) p T { m with hi := v } X := by
  refine ⟨?_, h.2⟩
  rw [setCell_blk h.1, List.setIfInBounds_toArray]
  congr 3
  simp only [mdV, List.append_assoc]
  rw [List.set_append_right _ _ (by rw [chV_length, h.2]; omega), chV_length, h.2]
  simp
theorem MdAt.setX (h : MdAt w p T m X) (j : Nat) (v : Value) : MdAt (w.setCell ⟨p, 258 + j, none⟩ v) p T m (X.set j v) := by
  refine ⟨?_, h.2⟩
  rw [setCell_blk h.1, List.setIfInBounds_toArray]
  congr 3
  rewrite [List.set_append_right _ _ (by rewrite [mdV_length, h.2]; omega), mdV_length, h.2, show 258 + j - (256 + 2) = j by omega]
  exact rfl

set_option maxHeartbeats 1000000 in
theorem middle_any (h : MdAt w p T m X) (hm : m.Rdy) (c : Nat) (hc : c < 256) :
    Calls Try.prog 36 #[.pointer (some ⟨p, 0, none⟩), .int .i64 c] w fun e w' => e = .returned (.int .u32 (m.mid c : Int)) ∧ ∃ n, w' = w.drewN n := by
  have c1 := h.c hc
  have c2 := h.clo
  have c3 := h.chi
  have h1 := hm.lt
  have h2 := hm.ok.hi
  have h3 := hm.ok.mid_bd hm.lt hc
  have h4 := hm.ok.p_bd hc
  have hmid : (m.mid c : Int) = (m.lo : Int) + ((m.hi : Int) - (m.lo : Int)) / 4096 * (m.p c : Int) := by
    unfold Md.mid
    rewrite [Int.natCast_add, Int.natCast_mul, Int.natCast_ediv, show ((m.hi - m.lo : Nat) : Int) = (m.hi : Int) - (m.lo : Int) by omega]
    exact rfl
  have hq : (0 : Int) ≤ ((m.hi : Int) - (m.lo : Int)) / 4096 * (m.p c : Int) ∧ ((m.hi : Int) - (m.lo : Int)) / 4096 * (m.p c : Int) ≤ (m.hi : Int) - (m.lo : Int) := by omega
  obtain ⟨q1, q2⟩ := hq
  have HM := Lib.hid hmid
  have hci : (c : Int) < 256 := by omega
  clear h hm hmid h3
  go_enter Try.func36, Try.ntmps36
  go_wp2
  go_quiet (fail)
  go_wp2
  go_ret
  exact ⟨ret_int (by rw [HM.out]), _, rfl⟩

/-- the model at p is m' now; nothing but block p has changed -/
def MdTo (w : World) (p : Nat) (T : TypeId) (m' : Md) (X : List Value) (w' : World) : Prop := MdAt w' p T m' X ∧ Fr [p] w w'

theorem narrow_to1 (h : MdAt w p T m X) (hm : m.Rdy) {c : Nat} (hc : c < 256) (n : Nat) :
    MdTo w p T (m.nar c true) X (((w.drewN n).setCell ⟨p, 257, none⟩ (.int .u32 (m.mid c : Int))).setCell ⟨p, c, none⟩ (.int .i64 ((m.p c : Int) + (4096 - (m.p c : Int)) / 16))) := by
  have h4 := hm.ok.p_bd hc
  have e : (m.p c : Int) + (4096 - (m.p c : Int)) / 16 = ((m.p c + (4096 - m.p c) / 16 : Nat) : Int) := by omega
  rw [e]
  exact ⟨((h.drewN n).setHi _).setCh hc _, (((Fr.refl [p] w).drewN n).setCell (.inl (by simp)) _).setCell (.inl (by simp)) _⟩
theorem narrow_to0 (h : MdAt w p T m X) (hm : m.Rdy) {c : Nat} (hc : c < 256) (n : Nat) :
    MdTo w p T (m.nar c false) X (((w.drewN n).setCell ⟨p, 256, none⟩ (.int .u32 ((m.mid c : Int) + 1))).setCell ⟨p, c, none⟩ (.int .i64 ((m.p c : Int) - (m.p c : Int) / 16))) := by
  have h4 := hm.ok.p_bd hc
  have e : (m.p c : Int) - (m.p c : Int) / 16 = ((m.p c - m.p c / 16 : Nat) : Int) := by omega
  have e2 : (m.mid c : Int) + 1 = ((m.mid c + 1 : Nat) : Int) := by omega
  rw [e, e2]
  exact ⟨((h.drewN n).setLo _).setCh hc _, (((Fr.refl [p] w).drewN n).setCell (.inl (by simp)) _).setCell (.inl (by simp)) _⟩

set_option maxHeartbeats 2000000 in
theorem narrow_one (h : MdAt w p T m X) (hm : m.Rdy) (c : Nat) (hc : c < 256) :
    Calls Try.prog 34 #[.pointer (some ⟨p, 0, none⟩), .int .i64 c, .int .i64 1] w fun e w' => e = .returned (.tuple #[]) ∧ MdTo w p T (m.nar c true) X w' := by
  have c1 := h.c hc
  have f1 := h.fz c
  have c3 := h.chi
  have f3 := h.fz 257
  have h4 := hm.ok.p_bd hc
  obtain ⟨p1, p2⟩ := h4
  have hci : (c : Int) < 256 := by omega
  have H := Lib.hid h
  have HM := Lib.hid hm
  have hne : c ≠ 257 := by omega
  clear h hm
  go_enter Try.func34, Try.ntmps34
  go_wp2
  go_quiet ((go_at_call 36; exact quiet1d (middle_any (H.out.drewN _) HM.out c hc)))
  go_wp2
  go_end0
  exact ⟨rfl, narrow_to1 H.out HM.out hc nq⟩

set_option maxHeartbeats 2000000 in
theorem narrow_zero (h : MdAt w p T m X) (hm : m.Rdy) (c : Nat) (hc : c < 256) :
    Calls Try.prog 34 #[.pointer (some ⟨p, 0, none⟩), .int .i64 c, .int .i64 0] w fun e w' => e = .returned (.tuple #[]) ∧ MdTo w p T (m.nar c false) X w' := by
  have c1 := h.c hc
  have f1 := h.fz c
  have c3 := h.clo
  have f3 := h.fz 256
  have h4 := hm.ok.p_bd hc
  obtain ⟨p1, p2⟩ := h4
  have hmid := (hm.ok.mid_bd hm.lt hc).2
  have hhi := hm.ok.hi
  have hci : (c : Int) < 256 := by omega
  have H := Lib.hid h
  have HM := Lib.hid hm
  have hne : c ≠ 256 := by omega
  clear h hm
  go_enter Try.func34, Try.ntmps34
  go_wp2
  go_quiet ((go_at_call 36; exact quiet1d (middle_any (H.out.drewN _) HM.out c hc)))
  go_wp2
  go_end0
  exact ⟨rfl, narrow_to0 H.out HM.out hc nq⟩

theorem narrow_any (h : MdAt w p T m X) (hm : m.Rdy) (c : Nat) (hc : c < 256) (b : Bool) {x : Int} (hx : x = if b then 1 else 0) :
    Calls Try.prog 34 #[.pointer (some ⟨p, 0, none⟩), .int .i64 c, .int .i64 x] w fun e w' => e = .returned (.tuple #[]) ∧ MdTo w p T (m.nar c b) X w' := by
  subst hx
  cases b with
  | true => exact narrow_one h hm c hc
  | false => exact narrow_zero h hm c hc

set_option maxHeartbeats 2000000 in
theorem shift_no (h : MdAt w p T m X) (hm : m.Ok) (hs : ¬ m.same) :
    Calls Try.prog 35 #[.pointer (some ⟨p, 0, none⟩)] w fun e w' => e = .returned (.tuple #[.int .u8 0, .bool false]) ∧ Fr [] w w' := by
  have c2 := h.clo
  have c3 := h.chi
  have hh := hm.hi
  have hl := hm.le
  have H := Lib.hid h
  have HS := Lib.hid hs
  have hne : ((m.lo : Int) / 16777216 != (m.hi : Int) / 16777216) = true := bne_iff_ne.2 (by unfold Md.same at hs; omega)
  clear h hs hm
  go_enter Try.func35, Try.ntmps35
  go_wp2
  go_quiet (fail)
  go_wp2
  go_ret2
  exact ⟨rfl, (Fr.refl _ _).drewN nq⟩

theorem shift_to (h : MdAt w p T m X) (hh : m.hi < 4294967296) (n : Nat) :
    MdTo w p T m.shf X (((w.drewN n).setCell ⟨p, 256, none⟩ (.int .u32 ((m.lo : Int) * 256 % 4294967296))).setCell ⟨p, 257, none⟩ (.int .u32 (bits BinOp.or IntKind.u32 ((m.hi : Int) * 256 % 4294967296) 255))) := by
  have e1 : (m.lo : Int) * 256 % 4294967296 = ((m.lo * 256 % 4294967296 : Nat) : Int) := by omega
  have e2 : bits BinOp.or IntKind.u32 ((m.hi : Int) * 256 % 4294967296) 255 = (((m.hi * 256 + 255) % 4294967296 : Nat) : Int) := by
    have a1 : (m.hi : Int) * 256 % 4294967296 = ((m.hi % 16777216 * 2 ^ 8 : Nat) : Int) := by omega
    have a2 : (255 : Int) = ((255 : Nat) : Int) := rfl
    rw [a1, a2, bits_or_u32 _ _ (by omega) (by omega), or_low _ _ 8 (by omega)]
    omega
  rw [e1, e2]
  exact ⟨((h.drewN n).setLo _).setHi _, (((Fr.refl [p] w).drewN n).setCell (.inl (by simp)) _).setCell (.inl (by simp)) _⟩

set_option maxHeartbeats 2000000 in
theorem shift_yes (h : MdAt w p T m X) (hm : m.Ok) (hs : m.same) :
    Calls Try.prog 35 #[.pointer (some ⟨p, 0, none⟩)] w fun e w' => e = .returned (.tuple #[.int .u8 ((m.lo / 16777216 : Nat) : Int), .bool true]) ∧ MdTo w p T m.shf X w' := by
  have c2 := h.clo
  have c3 := h.chi
  have f2 := h.fz 256
  have f3 := h.fz 257
  have hh := hm.hi
  have hl := hm.le
  have H := Lib.hid h
  have HS := Lib.hid hs
  have hne : ((m.lo : Int) / 16777216 != (m.hi : Int) / 16777216) = false := by
    have : (m.lo : Int) / 16777216 = (m.hi : Int) / 16777216 := by unfold Md.same at hs; omega
    rw [this]; simp
  clear h hs hm
  go_enter Try.func35, Try.ntmps35
  go_wp2
  go_quiet (fail)
  go_wp2
  go_ret2
  exact ⟨rfl, shift_to H.out hh nq⟩
end
end Go.Proofs.Ytjehkpfmndfjeaa
