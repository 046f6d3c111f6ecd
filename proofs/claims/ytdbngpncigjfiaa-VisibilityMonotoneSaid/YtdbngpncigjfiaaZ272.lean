/- VisR, Mem2, Around, Mem3, IntsA (merged by merge.py). -/
import Derived.Test.YtdbngpncigjfiaaZ271
import Derived.OpenShut
import Derived.Test.YtdbngpncigjfiaaProg
import Derived.Test.YtdbngpncigjfiaaZ270
/- Package visibility: Room; the reference's Room and connected. -/
namespace Go.Proofs.Ytdbngpncigjfiaa
open Go.RowKit

set_option maxRecDepth 100000 in
set_option maxHeartbeats 4000000 in
theorem room_any (w : World) (s : St) (rooms : List Bx) (doors : List (Int × Int)) (h : MapAt w s rooms doors) (x y : Int) :
    Calls Try.prog 12 #[s.val, .agg #[.int .i64 x, .int .i64 y]] w fun e w' => e = .returned (.int .i64 (roomOf rooms x y)) ∧ Fr [] w w' := by
  have hrl : rooms.length ≤ 9223372036854775807 := by have := h.rr.2.1; unfold maxLen at this; omega
  have hdl : doors.length ≤ 9223372036854775807 := by have := h.dr.2.1; unfold maxLen at this; omega
  have HM := Lib.hid h
  have hrn : s.rn = rooms.length := h.rn
  have hdn : s.dn = doors.length := h.dn
  unfold St.val
  rw [hrn, hdn]
  clear hrn hdn h
  obtain ⟨bx, hbx⟩ : ∃ bx, bx = w.heap.size := ⟨_, rfl⟩
  obtain ⟨wb, hwb⟩ : ∃ wb, wb = (w.alloc (.cells #[.int .i64 s.players, .slice s.bo s.nb s.bc, .int .i64 s.x0, .int .i64 s.y0, .int .i64 s.x1, .int .i64 s.y1, .slice s.ro rooms.length s.rc, .slice s.dO doors.length s.dc, .int .i64 s.fog, .int .i64 s.gx, .int .i64 s.gy, .int .i64 s.push, .int .i64 s.drag, .int .i64 s.rest, .int .i64 s.rounds, .int .i64 s.fuel] 31)).alloc (.cells #[.int .i64 x, .int .i64 y] 29) := ⟨_, rfl⟩
  have HB := Lib.hid (by rw [hwb, hbx]; exact alloc_old (alloc_new w _) : wb.heap[bx]? = some (.cells #[.int .i64 s.players, .slice s.bo s.nb s.bc, .int .i64 s.x0, .int .i64 s.y0, .int .i64 s.x1, .int .i64 s.y1, .slice s.ro rooms.length s.rc, .slice s.dO doors.length s.dc, .int .i64 s.fog, .int .i64 s.gx, .int .i64 s.gy, .int .i64 s.push, .int .i64 s.drag, .int .i64 s.rest, .int .i64 s.rounds, .int .i64 s.fuel] 31 (0, 0)))
  have HB2 := Lib.hid (by rw [hwb, hbx]; exact alloc_new2 w _ _ : wb.heap[bx + 1]? = some (.cells #[.int .i64 x, .int .i64 y] 29 (0, 0)))
  have HWB := Lib.hid (by rw [hwb]; exact ((Fr.refl [] w).alloc _).alloc _ : Fr [] w wb)
  have HBX := Lib.hid hbx
  have HWE := Lib.hid hwb
  clear hbx hwb
  go_enter Try.func12, Try.ntmps12
  go_wp2_with fail
  rw [← HBX.out, ← HWE.out]
  go_loopw [10] (fun iv wr => ∃ i : Nat, i ≤ rooms.length ∧ iv = .int .i64 (i : Int) ∧ NoRoom rooms x y i ∧ Fr [] wb wr) (fun iv _ => rooms.length - (intOf iv).toNat)
  case atStart => exact ⟨0, by omega, rfl, NoRoom.zero _ _ _, Fr.refl _ _⟩
  case round =>
    obtain ⟨i, hi, rfl, ht, hf⟩ := hrel
    have HN := Lib.hid ht
    have HF := Lib.hid hf
    have c6 : wr.cell? ⟨bx, 6, none⟩ = some (.slice s.ro rooms.length s.rc) := cell_blk (hf.blk HB.out (by simp)) 6
    have hB2 := HB2.out
    by_cases hil : i < rooms.length
    · obtain ⟨g, off, hro, hg, k0, k1, k2, k3⟩ := (HM.out.old (HWB.out.trans hf (by simp [Ext]))).rr.room hil
      have d0 : wr.cell? ⟨bx + 1, 0, none⟩ = some (.int .i64 x) := cell_blk (hf.blk HB2.out (by simp)) 0
      have d1 : wr.cell? ⟨bx + 1, 1, none⟩ = some (.int .i64 y) := cell_blk (hf.blk HB2.out (by simp)) 1
      have d0' : ∀ o, (wr.alloc o).cell? ⟨bx + 1, 0, none⟩ = some (.int .i64 x) := fun o => cell_blk (alloc_old (hf.blk HB2.out (by simp))) 0
      have d1' : ∀ o, (wr.alloc o).cell? ⟨bx + 1, 1, none⟩ = some (.int .i64 y) := fun o => cell_blk (alloc_old (hf.blk HB2.out (by simp))) 1
      obtain ⟨r, hr⟩ : ∃ r, r = rooms[i] := ⟨_, rfl⟩
      rw [← hr] at k0 k1 k2 k3
      have HR := Lib.hid hr
      have HRO := Lib.hid hro
      rw [hro] at c6 ⊢
      have hii : (i : Int) < (rooms.length : Int) := by omega
      clear ht hf hr hro hB2
      by_cases h0 : r.x0 ≤ x
      · by_cases h1 : x ≤ r.x1
        · by_cases h2 : r.y0 ≤ y
          · by_cases h3 : y ≤ r.y1
            · go_wp2_with fail
              go_ret
              exact ⟨ret_int (roomOf_hit HN.out hil (by rw [← HR.out]; exact inBx_yes h0 h1 h2 h3)), HWB.out.trans (HF.out.alloc _) (by simp [Ext])⟩
            · go_wp2_with fail
              go_roundw
              case rel => exact ⟨i + 1, by omega, by go_num, HN.out.step hil (by rw [← HR.out]; exact inBx_no (by omega)), HF.out.alloc _⟩
              case measure => simp [intOf]; omega
          · go_wp2_with fail
            go_roundw
            case rel => exact ⟨i + 1, by omega, by go_num, HN.out.step hil (by rw [← HR.out]; exact inBx_no (by omega)), HF.out.alloc _⟩
            case measure => simp [intOf]; omega
        · go_wp2_with fail
          go_roundw
          case rel => exact ⟨i + 1, by omega, by go_num, HN.out.step hil (by rw [← HR.out]; exact inBx_no (by omega)), HF.out.alloc _⟩
          case measure => simp [intOf]; omega
      · go_wp2_with fail
        go_roundw
        case rel => exact ⟨i + 1, by omega, by go_num, HN.out.step hil (by rw [← HR.out]; exact inBx_no (by omega)), HF.out.alloc _⟩
        case measure => simp [intOf]; omega
    · have hke : i = rooms.length := by omega
      have HN2 := Lib.hid (by rw [hke] at HN; exact HN.out : NoRoom rooms x y rooms.length)
      clear ht hf hke
      go_wp2_with fail
      go_ret
      exact ⟨ret_int (roomOf_none HN2.out), HWB.out.trans HF.out (by simp [Ext])⟩

set_option maxRecDepth 100000 in
set_option maxHeartbeats 4000000 in
theorem rroom_any (w : World) (s : St) (rooms : List Bx) (doors : List (Int × Int)) (h : MapAt w s rooms doors) (x y : Int) :
    Calls Try.prog 13 #[s.val, .agg #[.int .i64 x, .int .i64 y]] w fun e w' => e = .returned (.int .i64 (roomOf rooms x y)) ∧ Fr [] w w' := by
  have hrl : rooms.length ≤ 9223372036854775807 := by have := h.rr.2.1; unfold maxLen at this; omega
  have hdl : doors.length ≤ 9223372036854775807 := by have := h.dr.2.1; unfold maxLen at this; omega
  have HM := Lib.hid h
  have hrn : s.rn = rooms.length := h.rn
  have hdn : s.dn = doors.length := h.dn
  unfold St.val
  rw [hrn, hdn]
  clear hrn hdn h
  obtain ⟨bx, hbx⟩ : ∃ bx, bx = w.heap.size := ⟨_, rfl⟩
  obtain ⟨wb, hwb⟩ : ∃ wb, wb = (w.alloc (.cells #[.int .i64 s.players, .slice s.bo s.nb s.bc, .int .i64 s.x0, .int .i64 s.y0, .int .i64 s.x1, .int .i64 s.y1, .slice s.ro rooms.length s.rc, .slice s.dO doors.length s.dc, .int .i64 s.fog, .int .i64 s.gx, .int .i64 s.gy, .int .i64 s.push, .int .i64 s.drag, .int .i64 s.rest, .int .i64 s.rounds, .int .i64 s.fuel] 31)).alloc (.cells #[.int .i64 x, .int .i64 y] 29) := ⟨_, rfl⟩
  have HB := Lib.hid (by rw [hwb, hbx]; exact alloc_old (alloc_new w _) : wb.heap[bx]? = some (.cells #[.int .i64 s.players, .slice s.bo s.nb s.bc, .int .i64 s.x0, .int .i64 s.y0, .int .i64 s.x1, .int .i64 s.y1, .slice s.ro rooms.length s.rc, .slice s.dO doors.length s.dc, .int .i64 s.fog, .int .i64 s.gx, .int .i64 s.gy, .int .i64 s.push, .int .i64 s.drag, .int .i64 s.rest, .int .i64 s.rounds, .int .i64 s.fuel] 31 (0, 0)))
  have HB2 := Lib.hid (by rw [hwb, hbx]; exact alloc_new2 w _ _ : wb.heap[bx + 1]? = some (.cells #[.int .i64 x, .int .i64 y] 29 (0, 0)))
  have HWB := Lib.hid (by rw [hwb]; exact ((Fr.refl [] w).alloc _).alloc _ : Fr [] w wb)
  have HBX := Lib.hid hbx
  have HWE := Lib.hid hwb
  clear hbx hwb
  go_enter Try.func13, Try.ntmps13
  go_wp2_with fail
  rw [← HBX.out, ← HWE.out]
  go_loopw [5] (fun iv wr => ∃ i : Nat, i ≤ rooms.length ∧ iv = .int .i64 (i : Int) ∧ NoRoom rooms x y i ∧ Fr [] wb wr) (fun iv _ => rooms.length - (intOf iv).toNat)
  case atStart => exact ⟨0, by omega, rfl, NoRoom.zero _ _ _, Fr.refl _ _⟩
  case round =>
    obtain ⟨i, hi, rfl, ht, hf⟩ := hrel
    have HN := Lib.hid ht
    have HF := Lib.hid hf
    have c6 : wr.cell? ⟨bx, 6, none⟩ = some (.slice s.ro rooms.length s.rc) := cell_blk (hf.blk HB.out (by simp)) 6
    have hB2 := HB2.out
    by_cases hil : i < rooms.length
    · obtain ⟨g, off, hro, hg, k0, k1, k2, k3⟩ := (HM.out.old (HWB.out.trans hf (by simp [Ext]))).rr.room hil
      have d0 : wr.cell? ⟨bx + 1, 0, none⟩ = some (.int .i64 x) := cell_blk (hf.blk HB2.out (by simp)) 0
      have d1 : wr.cell? ⟨bx + 1, 1, none⟩ = some (.int .i64 y) := cell_blk (hf.blk HB2.out (by simp)) 1
      have d0' : ∀ o, (wr.alloc o).cell? ⟨bx + 1, 0, none⟩ = some (.int .i64 x) := fun o => cell_blk (alloc_old (hf.blk HB2.out (by simp))) 0
      have d1' : ∀ o, (wr.alloc o).cell? ⟨bx + 1, 1, none⟩ = some (.int .i64 y) := fun o => cell_blk (alloc_old (hf.blk HB2.out (by simp))) 1
      obtain ⟨r, hr⟩ : ∃ r, r = rooms[i] := ⟨_, rfl⟩
      rw [← hr] at k0 k1 k2 k3
      have HR := Lib.hid hr
      have HRO := Lib.hid hro
      rw [hro] at c6 ⊢
      have hii : (i : Int) < (rooms.length : Int) := by omega
      clear ht hf hr hro hB2
      by_cases h0 : r.x0 ≤ x
      · by_cases h1 : x ≤ r.x1
        · by_cases h2 : r.y0 ≤ y
          · by_cases h3 : y ≤ r.y1
            · go_wp2_with fail
              go_ret
              exact ⟨ret_int (roomOf_hit HN.out hil (by rw [← HR.out]; exact inBx_yes h0 h1 h2 h3)), HWB.out.trans (HF.out.alloc _) (by simp [Ext])⟩
            · go_wp2_with fail
              go_roundw
              case rel => exact ⟨i + 1, by omega, by go_num, HN.out.step hil (by rw [← HR.out]; exact inBx_no (by omega)), HF.out.alloc _⟩
              case measure => simp [intOf]; omega
          · go_wp2_with fail
            go_roundw
            case rel => exact ⟨i + 1, by omega, by go_num, HN.out.step hil (by rw [← HR.out]; exact inBx_no (by omega)), HF.out.alloc _⟩
            case measure => simp [intOf]; omega
        · go_wp2_with fail
          go_roundw
          case rel => exact ⟨i + 1, by omega, by go_num, HN.out.step hil (by rw [← HR.out]; exact inBx_no (by omega)), HF.out.alloc _⟩
          case measure => simp [intOf]; omega
      · go_wp2_with fail
        go_roundw
        case rel => exact ⟨i + 1, by omega, by go_num, HN.out.step hil (by rw [← HR.out]; exact inBx_no (by omega)), HF.out.alloc _⟩
        case measure => simp [intOf]; omega
    · have hke : i = rooms.length := by omega
      have HN2 := Lib.hid (by rw [hke] at HN; exact HN.out : NoRoom rooms x y rooms.length)
      clear ht hf hke
      go_wp2_with fail
      go_ret
      exact ⟨ret_int (roomOf_none HN2.out), HWB.out.trans HF.out (by simp [Ext])⟩

set_option maxRecDepth 100000 in
set_option maxHeartbeats 4000000 in
theorem conn_any (w : World) (s : St) (rooms : List Bx) (doors : List (Int × Int)) (h : MapAt w s rooms doors) (a b : Int) :
    Calls Try.prog 35 #[s.val, .int .i64 a, .int .i64 b] w fun e w' => e = .returned (.bool (connB doors a b)) ∧ Fr [] w w' := by
  have hrl : rooms.length ≤ 9223372036854775807 := by have := h.rr.2.1; unfold maxLen at this; omega
  have hdl : doors.length ≤ 9223372036854775807 := by have := h.dr.2.1; unfold maxLen at this; omega
  have HM := Lib.hid h
  have hrn : s.rn = rooms.length := h.rn
  have hdn : s.dn = doors.length := h.dn
  unfold St.val
  rw [hrn, hdn]
  clear hrn hdn h
  obtain ⟨bx, hbx⟩ : ∃ bx, bx = w.heap.size := ⟨_, rfl⟩
  obtain ⟨wb, hwb⟩ : ∃ wb, wb = w.alloc (.cells #[.int .i64 s.players, .slice s.bo s.nb s.bc, .int .i64 s.x0, .int .i64 s.y0, .int .i64 s.x1, .int .i64 s.y1, .slice s.ro rooms.length s.rc, .slice s.dO doors.length s.dc, .int .i64 s.fog, .int .i64 s.gx, .int .i64 s.gy, .int .i64 s.push, .int .i64 s.drag, .int .i64 s.rest, .int .i64 s.rounds, .int .i64 s.fuel] 31) := ⟨_, rfl⟩
  have HB := Lib.hid (by rw [hwb, hbx]; exact alloc_new w _ : wb.heap[bx]? = some (.cells #[.int .i64 s.players, .slice s.bo s.nb s.bc, .int .i64 s.x0, .int .i64 s.y0, .int .i64 s.x1, .int .i64 s.y1, .slice s.ro rooms.length s.rc, .slice s.dO doors.length s.dc, .int .i64 s.fog, .int .i64 s.gx, .int .i64 s.gy, .int .i64 s.push, .int .i64 s.drag, .int .i64 s.rest, .int .i64 s.rounds, .int .i64 s.fuel] 31 (0, 0)))
  have HWB := Lib.hid (by rw [hwb]; exact (Fr.refl [] w).alloc _ : Fr [] w wb)
  have c7 : wb.cell? ⟨bx, 7, none⟩ = some (.slice s.dO doors.length s.dc) := cell_blk HB.out 7
  have HBX := Lib.hid hbx
  have HWE := Lib.hid hwb
  clear hbx hwb
  go_enter Try.func35, Try.ntmps35
  go_wp2_with fail
  rw [← HBX.out, ← HWE.out]
  go_loop [7] (fun iv => ∃ i : Nat, i ≤ doors.length ∧ iv = .int .i64 (i : Int) ∧ (doors.take i).any (drHas a b) = false) (fun iv => doors.length - (intOf iv).toNat)
  case atStart => exact ⟨0, by omega, rfl, rfl⟩
  case round =>
    obtain ⟨i, hi, rfl, ht⟩ := hrel
    have HT := Lib.hid ht
    clear ht
    by_cases hil : i < doors.length
    · obtain ⟨g, off, hro, hg, k0, k1⟩ := (HM.out.old HWB.out).dr.door hil
      obtain ⟨p, hp⟩ : ∃ p, p = doors[i].1 := ⟨_, rfl⟩
      obtain ⟨q, hq⟩ : ∃ q, q = doors[i].2 := ⟨_, rfl⟩
      rw [← hp] at k0
      rw [← hq] at k1
      have HP := Lib.hid hp
      have HQ := Lib.hid hq
      have HD := Lib.hid (by unfold drHas; rw [← hp, ← hq] : drHas a b doors[i] = ((p == a && q == b) || (p == b && q == a)))
      rw [hro] at c7 ⊢
      have hii : (i : Int) < (doors.length : Int) := by omega
      clear hp hq hro
      cases e0 : (p == a) <;> cases e1 : (q == b) <;> cases e2 : (p == b) <;> cases e3 : (q == a)
      · have HH := Lib.hid (by rw [HD.out, e0, e1, e2, e3]; rfl : drHas a b doors[i] = false)
        clear HD
        go_wp2_with fail
        go_round
        case rel => exact ⟨i + 1, by omega, by go_num, any_snoc hil HT.out HH.out⟩
        case measure => simp [intOf]; omega
      · have HH := Lib.hid (by rw [HD.out, e0, e1, e2, e3]; rfl : drHas a b doors[i] = false)
        clear HD
        go_wp2_with fail
        go_round
        case rel => exact ⟨i + 1, by omega, by go_num, any_snoc hil HT.out HH.out⟩
        case measure => simp [intOf]; omega
      · have HH := Lib.hid (by rw [HD.out, e0, e1, e2, e3]; rfl : drHas a b doors[i] = false)
        clear HD
        go_wp2_with fail
        go_round
        case rel => exact ⟨i + 1, by omega, by go_num, any_snoc hil HT.out HH.out⟩
        case measure => simp [intOf]; omega
      · have HH := Lib.hid (by rw [HD.out, e0, e1, e2, e3]; rfl : drHas a b doors[i] = true)
        clear HD
        go_wp2_with fail
        go_ret
        exact ⟨ret_bool (connB_hit hil HH.out).symm, HWB.out⟩
      · have HH := Lib.hid (by rw [HD.out, e0, e1, e2, e3]; rfl : drHas a b doors[i] = false)
        clear HD
        go_wp2_with fail
        go_round
        case rel => exact ⟨i + 1, by omega, by go_num, any_snoc hil HT.out HH.out⟩
        case measure => simp [intOf]; omega
      · have HH := Lib.hid (by rw [HD.out, e0, e1, e2, e3]; rfl : drHas a b doors[i] = false)
        clear HD
        go_wp2_with fail
        go_round
        case rel => exact ⟨i + 1, by omega, by go_num, any_snoc hil HT.out HH.out⟩
        case measure => simp [intOf]; omega
      · have HH := Lib.hid (by rw [HD.out, e0, e1, e2, e3]; rfl : drHas a b doors[i] = false)
        clear HD
        go_wp2_with fail
        go_round
        case rel => exact ⟨i + 1, by omega, by go_num, any_snoc hil HT.out HH.out⟩
        case measure => simp [intOf]; omega
      · have HH := Lib.hid (by rw [HD.out, e0, e1, e2, e3]; rfl : drHas a b doors[i] = true)
        clear HD
        go_wp2_with fail
        go_ret
        exact ⟨ret_bool (connB_hit hil HH.out).symm, HWB.out⟩
      · have HH := Lib.hid (by rw [HD.out, e0, e1, e2, e3]; rfl : drHas a b doors[i] = false)
        clear HD
        go_wp2_with fail
        go_round
        case rel => exact ⟨i + 1, by omega, by go_num, any_snoc hil HT.out HH.out⟩
        case measure => simp [intOf]; omega
      · have HH := Lib.hid (by rw [HD.out, e0, e1, e2, e3]; rfl : drHas a b doors[i] = false)
        clear HD
        go_wp2_with fail
        go_round
        case rel => exact ⟨i + 1, by omega, by go_num, any_snoc hil HT.out HH.out⟩
        case measure => simp [intOf]; omega
      · have HH := Lib.hid (by rw [HD.out, e0, e1, e2, e3]; rfl : drHas a b doors[i] = false)
        clear HD
        go_wp2_with fail
        go_round
        case rel => exact ⟨i + 1, by omega, by go_num, any_snoc hil HT.out HH.out⟩
        case measure => simp [intOf]; omega
      · have HH := Lib.hid (by rw [HD.out, e0, e1, e2, e3]; rfl : drHas a b doors[i] = true)
        clear HD
        go_wp2_with fail
        go_ret
        exact ⟨ret_bool (connB_hit hil HH.out).symm, HWB.out⟩
      · have HH := Lib.hid (by rw [HD.out, e0, e1, e2, e3]; rfl : drHas a b doors[i] = true)
        clear HD
        go_wp2_with fail
        go_ret
        exact ⟨ret_bool (connB_hit hil HH.out).symm, HWB.out⟩
      · have HH := Lib.hid (by rw [HD.out, e0, e1, e2, e3]; rfl : drHas a b doors[i] = true)
        clear HD
        go_wp2_with fail
        go_ret
        exact ⟨ret_bool (connB_hit hil HH.out).symm, HWB.out⟩
      · have HH := Lib.hid (by rw [HD.out, e0, e1, e2, e3]; rfl : drHas a b doors[i] = true)
        clear HD
        go_wp2_with fail
        go_ret
        exact ⟨ret_bool (connB_hit hil HH.out).symm, HWB.out⟩
      · have HH := Lib.hid (by rw [HD.out, e0, e1, e2, e3]; rfl : drHas a b doors[i] = true)
        clear HD
        go_wp2_with fail
        go_ret
        exact ⟨ret_bool (connB_hit hil HH.out).symm, HWB.out⟩
    · have hke : doors.take i = doors := List.take_of_length_le (by omega)
      have HT2 := Lib.hid (by rw [hke] at HT; exact HT.out : doors.any (drHas a b) = false)
      clear hke
      go_wp2_with fail
      go_ret
      exact ⟨ret_bool (by unfold connB; rw [HT2.out]; rfl), HWB.out⟩
end Go.Proofs.Ytdbngpncigjfiaa
/- Package cellmem: contracts of Set, New and Cells. -/
namespace Go.Proofs.Ytdbngpncigjfiaa
open Go.RowKit


def MemS.set (s : MemS) (i v : Int) : MemS := if s.has i then { cells := s.cells.set i.toNat v, log := s.log ++ [(i, s.cells.getD i.toNat 0)], base := s.base } else s

section
variable {w : World} {p : Nat} {F : List Nat} {s : MemS}

theorem new_two (w : World) (x y : Value) (t : TypeId) : ∀ j u, [x, y][j]? = some u → (w.alloc (.cells #[x, y] t)).cell? ((⟨w.heap.size, 0, none⟩ : Addr).add j) = some u := by
  intro j u hu
  rw [Addr.add_mid, Nat.zero_add, World.cell?_alloc_new]
  simpa using hu





end
end Go.Proofs.Ytdbngpncigjfiaa
/- arenanetref01.Around. -/
namespace Go.Proofs.Ytdbngpncigjfiaa
open Go.RowKit

def around (n most : Int) : Int := (if n < 0 then -(n + 1) else n) % most

theorem around_any (n m : Int) (w : World) (h1 : -9223372036854775808 ≤ n) (h2 : n ≤ 9223372036854775807) (h3 : 1 ≤ m) (h4 : m ≤ 9223372036854775807) :
    Calls Try.prog 24 #[.int .i64 n, .int .i64 m] w fun e w' => e = .returned (.int .i64 (around n m)) ∧ w = w' := by
  by_cases hn : n < 0
  · go_enter Try.func24, Try.ntmps24
    go_wp2
    go_ret
    exact ⟨congrArg (fun x => Ending.returned (.int .i64 x)) (by rw [around, if_pos hn, ← Int.neg_tmod, Int.tmod_eq_emod_of_nonneg (by omega)]), rfl⟩
  · go_enter Try.func24, Try.ntmps24
    go_wp2
    go_ret
    exact ⟨congrArg (fun x => Ending.returned (.int .i64 x)) (by rw [around, if_neg (by omega)]), rfl⟩

theorem around_lt (n : Int) {m : Int} (h : 0 < m) : 0 ≤ around n m ∧ around n m < m := ⟨Int.emod_nonneg _ (by omega), Int.emod_lt_of_pos _ h⟩

def bounded (n : Int) : Prop := -9223372036854775808 ≤ n ∧ n ≤ 9223372036854775807
theorem wf_bounded {n : Int} (h : (Lit.int .i64 n).wf = true) : bounded n := by
  have := Go.bounds_i64 h
  exact ⟨by omega, by omega⟩

/-- Around, as a natural number below most -/
theorem around_nat (n : Int) (m : Nat) (hn : bounded n) (h3 : 1 ≤ m) (h4 : m ≤ 9223372036854775807) :
    ∃ k : Nat, k < m ∧ (k : Int) = around n m ∧ ∀ w, Calls Try.prog 24 #[.int .i64 n, .int .i64 m] w fun e w' => e = .returned (.int .i64 (k : Int)) ∧ w = w' := by
  obtain ⟨k, hk⟩ := Int.eq_ofNat_of_zero_le (around_lt n (m := (m : Int)) (by omega)).1
  have := (around_lt n (m := (m : Int)) (by omega)).2
  exact ⟨k, by omega, hk.symm, fun w => hk ▸ around_any n m w hn.1 hn.2 (by omega) (by omega)⟩
end Go.Proofs.Ytdbngpncigjfiaa
/- Package cellmem: contracts of New and Cells. -/
namespace Go.Proofs.Ytdbngpncigjfiaa
open Go.RowKit

section
variable {w : World} {p : Nat} {F : List Nat} {s : MemS}

/-! ### New -/

/-- the block of a row of integers -/
def row (l : List Int) : Obj := .cells (ints l).toArray 3 (0, 0)

theorem row_cell {w : World} {b : Nat} {l : List Int} (h : w.heap[b]? = some (row l)) {k : Nat} (hk : k < l.length) : w.cell? ⟨b, k, none⟩ = some (.int .i64 l[k]) := by
  rw [cell_blk h, List.getElem?_toArray, ints_get, List.getElem?_eq_getElem hk]; rfl

theorem row_frozen {w : World} {b : Nat} {l : List Int} (h : w.heap[b]? = some (row l)) (k : Nat) : w.frozen? ⟨b, k, none⟩ = false := frozen_blk h k

theorem row_set {w : World} {b : Nat} {l : List Int} (h : w.heap[b]? = some (row l)) (k : Nat) (x : Int) : (w.setCell ⟨b, k, none⟩ (.int .i64 x)).heap[b]? = some (row (l.set k x)) := by
  rw [setCell_blk h]
  simp [row, ints]

theorem row_seg {w : World} {b : Nat} {l : List Int} (h : w.heap[b]? = some (row l)) (hm : l.length ≤ maxLen) : Seg w 3 1 (some ⟨b, 0, none⟩) l.length l.length (ints l) :=
  Seg.one b _ _ 1 l.length h (by simp) hm

theorem infoInt : (Try.prog.info? 3).map (fun i => (i.zero, i.size, i.bytes)) = some (some (.int .i64 0), 1, 8) := by kernel_rfl

theorem make_ints (n : Nat) (hn : n ≤ 1099511627776) (u : World) :
    (Instr.makeSlice 22 (.int .i64 n) (.int .i64 n)).run Try.prog u = .ok (.slice (some ⟨u.heap.size, 0, none⟩) n n) (u.alloc (row (List.replicate n 0))) := by
  obtain ⟨i0, hi, hz0, hz1, hz2⟩ := info_parts infoInt
  have h := run_make (P := Try.prog) u 22 3 i0 (.int .i64 0) Try.underlying22 hi hz0 .i64 .i64 n n (by omega) (Int.le_refl _) (by rw [hz2]; omega) (by omega)
  rw [h]
  have e : madeCells (Value.int .i64 0).cells (Int.toNat n * i0.size) = (ints (List.replicate n 0)).toArray := by
    have := toList_madeCells_one (.int .i64 0) n
    rw [hz1, Int.toNat_natCast, Nat.mul_one, ints, List.map_replicate, ← this]
    rfl
  rw [e]
  simp [row]






/-! ### Cells -/

/-- a row of integers has been made at block b; nothing that was there has changed -/
def RowNew (w : World) (b : Nat) (l : List Int) (w' : World) : Prop := w'.heap[b]? = some (row l) ∧ Fr [] w w'

theorem RowNew.step {l : List Int} {k : Nat} {wr : World} (h : RowNew w w.heap.size (l.take k ++ List.replicate (l.length - k) 0) wr) (hk : k < l.length) {x : Int} (hx : x = l[k]) :
    RowNew w w.heap.size (l.take (k + 1) ++ List.replicate (l.length - (k + 1)) 0) (wr.setCell ⟨w.heap.size, k, none⟩ (.int .i64 x)) := by
  obtain ⟨h1, h3⟩ := h
  subst hx
  refine ⟨?_, h3.setCell (.inr (Nat.le_refl _)) _⟩
  rw [row_set h1]
  congr 2
  rw [List.take_succ_eq_append_getElem hk, List.append_assoc, show l.length - k = (l.length - (k + 1)) + 1 by omega, List.replicate_succ, List.set_append_right _ _ (by simp; omega)]
  simp [List.length_take, show min k l.length = k by omega]

theorem MemS.get_lt (s : MemS) {k : Nat} (hk : k < s.cells.length) : s.get k = s.cells[k] := by simp [MemS.get, MemS.has, hk]


end
end Go.Proofs.Ytdbngpncigjfiaa
/- arenanetref01.Ints; a slice of ints that came in. -/
namespace Go.Proofs.Ytdbngpncigjfiaa
open Go.RowKit

theorem Rd.news {w : World} {size : Nat} {ad : Addr} {n : Nat} {xs : List Value} (h : Rd w size (some ad) n xs) (h0 : 0 < n) : ∀ j u, xs[j]? = some u → w.cell? (ad.add j) = some u := by
  intro j u hu
  obtain ⟨g, off, ha, _, hc⟩ := h.at h0
  cases ha
  have hj : j < n * size := by have := (List.getElem?_eq_some_iff.1 hu).1; rw [h.1] at this; exact this
  rw [Addr.add_mid, hc j hj, hu]

/-- a slice of ints that came in -/
structure Srci (w : World) (ao : Option Addr) (cap : Nat) (l : List Int) : Prop where
  rd : Rd w 1 ao l.length (ints l)
  bnd : ∀ x ∈ l, bounded x
  fit : l.length ≤ cap
  capm : cap ≤ maxLen
  nil : ao = none → cap = 0 ∧ l = []

theorem Srci.old {w w' : World} {ao : Option Addr} {cap : Nat} {l : List Int} (h : Srci w ao cap l) (hf : Fr [] w w') : Srci w' ao cap l := ⟨h.rd.fr hf (by simp), h.bnd, h.fit, h.capm, h.nil⟩

theorem srci_of_row {w : World} {a : Option Addr} {len cap : Nat} {zs : List Int}
    (h : (a = none ∧ len = 0 ∧ cap = 0 ∧ zs = []) ∨
      ∃ x, a = some x ∧ len ≤ cap ∧ cap ≤ maxLen ∧ zs.length = cap ∧ (∀ i, i < zs.length → w.cell? (x.add i) = some (.int .i64 (zs.getD i 0))) ∧ ∀ n ∈ zs, (Lit.int .i64 n).wf = true) :
    ∃ l : List Int, l.length = len ∧ Srci w a cap l := by
  obtain ⟨l, hl, h1, h2⟩ := rd_of_row h
  refine ⟨l, hl, h1, h2, ?_, ?_, fun hn => ?_⟩
  · rcases h with ⟨rfl, rfl, rfl, rfl⟩ | ⟨x, rfl, h3, h4, _⟩ <;> omega
  · rcases h with ⟨rfl, rfl, rfl, rfl⟩ | ⟨x, rfl, h3, h4, _⟩
    · simp
    · exact h4
  · rcases h with ⟨rfl, rfl, rfl, rfl⟩ | ⟨x, rfl, h3, h4, _⟩
    · exact ⟨rfl, List.eq_nil_of_length_eq_zero hl⟩
    · cases hn

def IntsTo (w : World) (l : List Int) (e : Ending) (w' : World) : Prop := ∃ oa oc, e = .returned (.slice oa l.length oc) ∧ Seg w' 3 1 oa l.length oc (ints l) ∧ Fr [] w w' ∧ ∀ k ∈ blk oa, w.heap.size ≤ k


end Go.Proofs.Ytdbngpncigjfiaa
