/- Package visibility: Room; the reference's Room and connected. -/
import Derived.Test.YtdbngpncigjfiaaVisP
import Derived.Test.YtdbngpncigjfiaaMem
namespace Go.Proofs.Ytdbngpncigjfiaa
open Go.RowKit

set_option maxRecDepth 100000 in
set_option maxHeartbeats 4000000 in
theorem room_any (w : World) (s : St) (rooms : List Bx) (doors : List (Int × Int)) (h : MapAt w s rooms doors) (x y : Int) :
    Calls Try.prog 12 #[s.val, .agg #[.int .i64 x, .int .i64 y]] w fun e w' => e = .returned (.int .i64 (roomOf rooms x y)) ∧ Fr [] w w' := by
  have hrl : rooms.length ≤ 9223372036854775807 := by have := h.rr.2.1; unfold maxLen at this; omega
  have hdl : doors.length ≤ 9223372036854775807 := by have := h.dr.2.1; unfold maxLen at this; omega
  have HM := Lib.hid h
  have hrn : s.rn = rooms.length := h.rn
  have hdn : s.dn = doors.length := h.dn
  unfold St.val
  rw [hrn, hdn]
  clear hrn hdn h
  obtain ⟨bx, hbx⟩ : ∃ bx, bx = w.heap.size := ⟨_, rfl⟩
  obtain ⟨wb, hwb⟩ : ∃ wb, wb = (w.alloc (.cells #[.int .i64 s.players, .slice s.bo s.nb s.bc, .int .i64 s.x0, .int .i64 s.y0, .int .i64 s.x1, .int .i64 s.y1, .slice s.ro rooms.length s.rc, .slice s.dO doors.length s.dc, .int .i64 s.fog, .int .i64 s.gx, .int .i64 s.gy, .int .i64 s.push, .int .i64 s.drag, .int .i64 s.rest, .int .i64 s.rounds, .int .i64 s.fuel] 31)).alloc (.cells #[.int .i64 x, .int .i64 y] 29) := ⟨_, rfl⟩
  have HB := Lib.hid (by rw [hwb, hbx]; exact alloc_old (alloc_new w _) : wb.heap[bx]? = some (.cells #[.int .i64 s.players, .slice s.bo s.nb s.bc, .int .i64 s.x0, .int .i64 s.y0, .int .i64 s.x1, .int .i64 s.y1, .slice s.ro rooms.length s.rc, .slice s.dO doors.length s.dc, .int .i64 s.fog, .int .i64 s.gx, .int .i64 s.gy, .int .i64 s.push, .int .i64 s.drag, .int .i64 s.rest, .int .i64 s.rounds, .int .i64 s.fuel] 31 (0, 0)))
  have HB2 := Lib.hid (by rw [hwb, hbx]; exact alloc_new2 w _ _ : wb.heap[bx + 1]? = some (.cells #[.int .i64 x, .int .i64 y] 29 (0, 0)))
  have HWB := Lib.hid (by rw [hwb]; exact ((Fr.refl [] w).alloc _).alloc _ : Fr [] w wb)
  have HBX := Lib.hid hbx
  have HWE := Lib.hid hwb
  clear hbx hwb
  go_enter Try.func12, Try.ntmps12
  go_wp2_with fail
  rw [← HBX.out, ← HWE.out]
  go_loopw [10] (fun iv wr => ∃ i : Nat, i ≤ rooms.length ∧ iv = .int .i64 (i : Int) ∧ NoRoom rooms x y i ∧ Fr [] wb wr) (fun iv _ => rooms.length - (intOf iv).toNat)
  case atStart => exact ⟨0, by omega, rfl, NoRoom.zero _ _ _, Fr.refl _ _⟩
  case round =>
    obtain ⟨i, hi, rfl, ht, hf⟩ := hrel
    have HN := Lib.hid ht
    have HF := Lib.hid hf
    have c6 : wr.cell? ⟨bx, 6, none⟩ = some (.slice s.ro rooms.length s.rc) := cell_blk (hf.blk HB.out (by simp)) 6
    have hB2 := HB2.out
    by_cases hil : i < rooms.length
    · obtain ⟨g, off, hro, hg, k0, k1, k2, k3⟩ := (HM.out.old (HWB.out.trans hf (by simp [Ext]))).rr.room hil
      have d0 : wr.cell? ⟨bx + 1, 0, none⟩ = some (.int .i64 x) := cell_blk (hf.blk HB2.out (by simp)) 0
      have d1 : wr.cell? ⟨bx + 1, 1, none⟩ = some (.int .i64 y) := cell_blk (hf.blk HB2.out (by simp)) 1
      have d0' : ∀ o, (wr.alloc o).cell? ⟨bx + 1, 0, none⟩ = some (.int .i64 x) := fun o => cell_blk (alloc_old (hf.blk HB2.out (by simp))) 0
      have d1' : ∀ o, (wr.alloc o).cell? ⟨bx + 1, 1, none⟩ = some (.int .i64 y) := fun o => cell_blk (alloc_old (hf.blk HB2.out (by simp))) 1
      obtain ⟨r, hr⟩ : ∃ r, r = rooms[i] := ⟨_, rfl⟩
      rw [← hr] at k0 k1 k2 k3
      have HR := Lib.hid hr
      have HRO := Lib.hid hro
      rw [hro] at c6 ⊢
      have hii : (i : Int) < (rooms.length : Int) := by omega
      clear ht hf hr hro hB2
      by_cases h0 : r.x0 ≤ x
      · by_cases h1 : x ≤ r.x1
        · by_cases h2 : r.y0 ≤ y
          · by_cases h3 : y ≤ r.y1
            · go_wp2_with fail
              go_ret
              exact ⟨ret_int (roomOf_hit HN.out hil (by rw [← HR.out]; exact inBx_yes h0 h1 h2 h3)), HWB.out.trans (HF.out.alloc _) (by simp [Ext])⟩
            · go_wp2_with fail
              go_roundw
              case rel => exact ⟨i + 1, by omega, by go_num, HN.out.step hil (by rw [← HR.out]; exact inBx_no (by omega)), HF.out.alloc _⟩
              case measure => simp [intOf]; omega
          · go_wp2_with fail
            go_roundw
            case rel => exact ⟨i + 1, by omega, by go_num, HN.out.step hil (by rw [← HR.out]; exact inBx_no (by omega)), HF.out.alloc _⟩
            case measure => simp [intOf]; omega
        · go_wp2_with fail
          go_roundw
          case rel => exact ⟨i + 1, by omega, by go_num, HN.out.step hil (by rw [← HR.out]; exact inBx_no (by omega)), HF.out.alloc _⟩
          case measure => simp [intOf]; omega
      · go_wp2_with fail
        go_roundw
        case rel => exact ⟨i + 1, by omega, by go_num, HN.out.step hil (by rw [← HR.out]; exact inBx_no (by omega)), HF.out.alloc _⟩
        case measure => simp [intOf]; omega
    · have hke : i = rooms.length := by omega
      have HN2 := Lib.hid (by rw [hke] at HN; exact HN.out : NoRoom rooms x y rooms.length)
      clear ht hf hke
      go_wp2_with fail
      go_ret
      exact ⟨ret_int (roomOf_none HN2.out), HWB.out.trans HF.out (by simp [Ext])⟩

set_option maxRecDepth 100000 in
set_option maxHeartbeats 4000000 in
theorem rroom_any (w : World) (s : St) (rooms : List Bx) (doors : List (Int × Int)) (h : MapAt w s rooms doors) (x y : Int) :
    Calls Try.prog 13 #[s.val, .agg #[.int .i64 x, .int .i64 y]] w fun e w' => e = .returned (.int .i64 (roomOf rooms x y)) ∧ Fr [] w w' := by
  have hrl : rooms.length ≤ 9223372036854775807 := by have := h.rr.2.1; unfold maxLen at this; omega
  have hdl : doors.length ≤ 9223372036854775807 := by have := h.dr.2.1; unfold maxLen at this; omega
  have HM := Lib.hid h
  have hrn : s.rn = rooms.length := h.rn
  have hdn : s.dn = doors.length := h.dn
  unfold St.val
  rw [hrn, hdn]
  clear hrn hdn h
  obtain ⟨bx, hbx⟩ : ∃ bx, bx = w.heap.size := ⟨_, rfl⟩
  obtain ⟨wb, hwb⟩ : ∃ wb, wb = (w.alloc (.cells #[.int .i64 s.players, .slice s.bo s.nb s.bc, .int .i64 s.x0, .int .i64 s.y0, .int .i64 s.x1, .int .i64 s.y1, .slice s.ro rooms.length s.rc, .slice s.dO doors.length s.dc, .int .i64 s.fog, .int .i64 s.gx, .int .i64 s.gy, .int .i64 s.push, .int .i64 s.drag, .int .i64 s.rest, .int .i64 s.rounds, .int .i64 s.fuel] 31)).alloc (.cells #[.int .i64 x, .int .i64 y] 29) := ⟨_, rfl⟩
  have HB := Lib.hid (by rw [hwb, hbx]; exact alloc_old (alloc_new w _) : wb.heap[bx]? = some (.cells #[.int .i64 s.players, .slice s.bo s.nb s.bc, .int .i64 s.x0, .int .i64 s.y0, .int .i64 s.x1, .int .i64 s.y1, .slice s.ro rooms.length s.rc, .slice s.dO doors.length s.dc, .int .i64 s.fog, .int .i64 s.gx, .int .i64 s.gy, .int .i64 s.push, .int .i64 s.drag, .int .i64 s.rest, .int .i64 s.rounds, .int .i64 s.fuel] 31 (0, 0)))
  have HB2 := Lib.hid (by rw [hwb, hbx]; exact alloc_new2 w _ _ : wb.heap[bx + 1]? = some (.cells #[.int .i64 x, .int .i64 y] 29 (0, 0)))
  have HWB := Lib.hid (by rw [hwb]; exact ((Fr.refl [] w).alloc _).alloc _ : Fr [] w wb)
  have HBX := Lib.hid hbx
  have HWE := Lib.hid hwb
  clear hbx hwb
  go_enter Try.func13, Try.ntmps13
  go_wp2_with fail
  rw [← HBX.out, ← HWE.out]
  go_loopw [5] (fun iv wr => ∃ i : Nat, i ≤ rooms.length ∧ iv = .int .i64 (i : Int) ∧ NoRoom rooms x y i ∧ Fr [] wb wr) (fun iv _ => rooms.length - (intOf iv).toNat)
  case atStart => exact ⟨0, by omega, rfl, NoRoom.zero _ _ _, Fr.refl _ _⟩
  case round =>
    obtain ⟨i, hi, rfl, ht, hf⟩ := hrel
    have HN := Lib.hid ht
    have HF := Lib.hid hf
    have c6 : wr.cell? ⟨bx, 6, none⟩ = some (.slice s.ro rooms.length s.rc) := cell_blk (hf.blk HB.out (by simp)) 6
    have hB2 := HB2.out
    by_cases hil : i < rooms.length
    · obtain ⟨g, off, hro, hg, k0, k1, k2, k3⟩ := (HM.out.old (HWB.out.trans hf (by simp [Ext]))).rr.room hil
      have d0 : wr.cell? ⟨bx + 1, 0, none⟩ = some (.int .i64 x) := cell_blk (hf.blk HB2.out (by simp)) 0
      have d1 : wr.cell? ⟨bx + 1, 1, none⟩ = some (.int .i64 y) := cell_blk (hf.blk HB2.out (by simp)) 1
      have d0' : ∀ o, (wr.alloc o).cell? ⟨bx + 1, 0, none⟩ = some (.int .i64 x) := fun o => cell_blk (alloc_old (hf.blk HB2.out (by simp))) 0
      have d1' : ∀ o, (wr.alloc o).cell? ⟨bx + 1, 1, none⟩ = some (.int .i64 y) := fun o => cell_blk (alloc_old (hf.blk HB2.out (by simp))) 1
      obtain ⟨r, hr⟩ : ∃ r, r = rooms[i] := ⟨_, rfl⟩
      rw [← hr] at k0 k1 k2 k3
      have HR := Lib.hid hr
      have HRO := Lib.hid hro
      rw [hro] at c6 ⊢
      have hii : (i : Int) < (rooms.length : Int) := by omega
      clear ht hf hr hro hB2
      by_cases h0 : r.x0 ≤ x
      · by_cases h1 : x ≤ r.x1
        · by_cases h2 : r.y0 ≤ y
          · by_cases h3 : y ≤ r.y1
            · go_wp2_with fail
              go_ret
              exact ⟨ret_int (roomOf_hit HN.out hil (by rw [← HR.out]; exact inBx_yes h0 h1 h2 h3)), HWB.out.trans (HF.out.alloc _) (by simp [Ext])⟩
            · go_wp2_with fail
              go_roundw
              case rel => exact ⟨i + 1, by omega, by go_num, HN.out.step hil (by rw [← HR.out]; exact inBx_no (by omega)), HF.out.alloc _⟩
              case measure => simp [intOf]; omega
          · go_wp2_with fail
            go_roundw
            case rel => exact ⟨i + 1, by omega, by go_num, HN.out.step hil (by rw [← HR.out]; exact inBx_no (by omega)), HF.out.alloc _⟩
            case measure => simp [intOf]; omega
        · go_wp2_with fail
          go_roundw
          case rel => exact ⟨i + 1, by omega, by go_num, HN.out.step hil (by rw [← HR.out]; exact inBx_no (by omega)), HF.out.alloc _⟩
          case measure => simp [intOf]; omega
      · go_wp2_with fail
        go_roundw
        case rel => exact ⟨i + 1, by omega, by go_num, HN.out.step hil (by rw [← HR.out]; exact inBx_no (by omega)), HF.out.alloc _⟩
        case measure => simp [intOf]; omega
    · have hke : i = rooms.length := by omega
      have HN2 := Lib.hid (by rw [hke] at HN; exact HN.out : NoRoom rooms x y rooms.length)
      clear ht hf hke
      go_wp2_with fail
      go_ret
      exact ⟨ret_int (roomOf_none HN2.out), HWB.out.trans HF.out (by simp [Ext])⟩

set_option maxRecDepth 100000 in
set_option maxHeartbeats 4000000 in
theorem conn_any (w : World) (s : St) (rooms : List Bx) (doors : List (Int × Int)) (h : MapAt w s rooms doors) (a b : Int) :
    Calls Try.prog 35 #[s.val, .int .i64 a, .int .i64 b] w fun e w' => e = .returned (.bool (connB doors a b)) ∧ Fr [] w w' := by
  have hrl : rooms.length ≤ 9223372036854775807 := by have := h.rr.2.1; unfold maxLen at this; omega
  have hdl : doors.length ≤ 9223372036854775807 := by have := h.dr.2.1; unfold maxLen at this; omega
  have HM := Lib.hid h
  have hrn : s.rn = rooms.length := h.rn
  have hdn : s.dn = doors.length := h.dn
  unfold St.val
  rw [hrn, hdn]
  clear hrn hdn h
  obtain ⟨bx, hbx⟩ : ∃ bx, bx = w.heap.size := ⟨_, rfl⟩
  obtain ⟨wb, hwb⟩ : ∃ wb, wb = w.alloc (.cells #[.int .i64 s.players, .slice s.bo s.nb s.bc, .int .i64 s.x0, .int .i64 s.y0, .int .i64 s.x1, .int .i64 s.y1, .slice s.ro rooms.length s.rc, .slice s.dO doors.length s.dc, .int .i64 s.fog, .int .i64 s.gx, .int .i64 s.gy, .int .i64 s.push, .int .i64 s.drag, .int .i64 s.rest, .int .i64 s.rounds, .int .i64 s.fuel] 31) := ⟨_, rfl⟩
  have HB := Lib.hid (by rw [hwb, hbx]; exact alloc_new w _ : wb.heap[bx]? = some (.cells #[.int .i64 s.players, .slice s.bo s.nb s.bc, .int .i64 s.x0, .int .i64 s.y0, .int .i64 s.x1, .int .i64 s.y1, .slice s.ro rooms.length s.rc, .slice s.dO doors.length s.dc, .int .i64 s.fog, .int .i64 s.gx, .int .i64 s.gy, .int .i64 s.push, .int .i64 s.drag, .int .i64 s.rest, .int .i64 s.rounds, .int .i64 s.fuel] 31 (0, 0)))
  have HWB := Lib.hid (by rw [hwb]; exact (Fr.refl [] w).alloc _ : Fr [] w wb)
  have c7 : wb.cell? ⟨bx, 7, none⟩ = some (.slice s.dO doors.length s.dc) := cell_blk HB.out 7
  have HBX := Lib.hid hbx
  have HWE := Lib.hid hwb
  clear hbx hwb
  go_enter Try.func35, Try.ntmps35
  go_wp2_with fail
  rw [← HBX.out, ← HWE.out]
  go_loop [7] (fun iv => ∃ i : Nat, i ≤ doors.length ∧ iv = .int .i64 (i : Int) ∧ (doors.take i).any (drHas a b) = false) (fun iv => doors.length - (intOf iv).toNat)
  case atStart => exact ⟨0, by omega, rfl, rfl⟩
  case round =>
    obtain ⟨i, hi, rfl, ht⟩ := hrel
    have HT := Lib.hid ht
    clear ht
    by_cases hil : i < doors.length
    · obtain ⟨g, off, hro, hg, k0, k1⟩ := (HM.out.old HWB.out).dr.door hil
      obtain ⟨p, hp⟩ : ∃ p, p = doors[i].1 := ⟨_, rfl⟩
      obtain ⟨q, hq⟩ : ∃ q, q = doors[i].2 := ⟨_, rfl⟩
      rw [← hp] at k0
      rw [← hq] at k1
      have HP := Lib.hid hp
      have HQ := Lib.hid hq
      have HD := Lib.hid (by unfold drHas; rw [← hp, ← hq] : drHas a b doors[i] = ((p == a && q == b) || (p == b && q == a)))
      rw [hro] at c7 ⊢
      have hii : (i : Int) < (doors.length : Int) := by omega
      clear hp hq hro
      cases e0 : (p == a) <;> cases e1 : (q == b) <;> cases e2 : (p == b) <;> cases e3 : (q == a)
      · have HH := Lib.hid (by rw [HD.out, e0, e1, e2, e3]; rfl : drHas a b doors[i] = false)
        clear HD
        go_wp2_with fail
        go_round
        case rel => exact ⟨i + 1, by omega, by go_num, any_snoc hil HT.out HH.out⟩
        case measure => simp [intOf]; omega
      · have HH := Lib.hid (by rw [HD.out, e0, e1, e2, e3]; rfl : drHas a b doors[i] = false)
        clear HD
        go_wp2_with fail
        go_round
        case rel => exact ⟨i + 1, by omega, by go_num, any_snoc hil HT.out HH.out⟩
        case measure => simp [intOf]; omega
      · have HH := Lib.hid (by rw [HD.out, e0, e1, e2, e3]; rfl : drHas a b doors[i] = false)
        clear HD
        go_wp2_with fail
        go_round
        case rel => exact ⟨i + 1, by omega, by go_num, any_snoc hil HT.out HH.out⟩
        case measure => simp [intOf]; omega
      · have HH := Lib.hid (by rw [HD.out, e0, e1, e2, e3]; rfl : drHas a b doors[i] = true)
        clear HD
        go_wp2_with fail
        go_ret
        exact ⟨ret_bool (connB_hit hil HH.out).symm, HWB.out⟩
      · have HH := Lib.hid (by rw [HD.out, e0, e1, e2, e3]; rfl : drHas a b doors[i] = false)
        clear HD
        go_wp2_with fail
        go_round
        case rel => exact ⟨i + 1, by omega, by go_num, any_snoc hil HT.out HH.out⟩
        case measure => simp [intOf]; omega
      · have HH := Lib.hid (by rw [HD.out, e0, e1, e2, e3]; rfl : drHas a b doors[i] = false)
        clear HD
        go_wp2_with fail
        go_round
        case rel => exact ⟨i + 1, by omega, by go_num, any_snoc hil HT.out HH.out⟩
        case measure => simp [intOf]; omega
      · have HH := Lib.hid (by rw [HD.out, e0, e1, e2, e3]; rfl : drHas a b doors[i] = false)
        clear HD
        go_wp2_with fail
        go_round
        case rel => exact ⟨i + 1, by omega, by go_num, any_snoc hil HT.out HH.out⟩
        case measure => simp [intOf]; omega
      · have HH := Lib.hid (by rw [HD.out, e0, e1, e2, e3]; rfl : drHas a b doors[i] = true)
        clear HD
        go_wp2_with fail
        go_ret
        exact ⟨ret_bool (connB_hit hil HH.out).symm, HWB.out⟩
      · have HH := Lib.hid (by rw [HD.out, e0, e1, e2, e3]; rfl : drHas a b doors[i] = false)
        clear HD
        go_wp2_with fail
        go_round
        case rel => exact ⟨i + 1, by omega, by go_num, any_snoc hil HT.out HH.out⟩
        case measure => simp [intOf]; omega
      · have HH := Lib.hid (by rw [HD.out, e0, e1, e2, e3]; rfl : drHas a b doors[i] = false)
        clear HD
        go_wp2_with fail
        go_round
        case rel => exact ⟨i + 1, by omega, by go_num, any_snoc hil HT.out HH.out⟩
        case measure => simp [intOf]; omega
      · have HH := Lib.hid (by rw [HD.out, e0, e1, e2, e3]; rfl : drHas a b doors[i] = false)
        clear HD
        go_wp2_with fail
        go_round
        case rel => exact ⟨i + 1, by omega, by go_num, any_snoc hil HT.out HH.out⟩
        case measure => simp [intOf]; omega
      · have HH := Lib.hid (by rw [HD.out, e0, e1, e2, e3]; rfl : drHas a b doors[i] = true)
        clear HD
        go_wp2_with fail
        go_ret
        exact ⟨ret_bool (connB_hit hil HH.out).symm, HWB.out⟩
      · have HH := Lib.hid (by rw [HD.out, e0, e1, e2, e3]; rfl : drHas a b doors[i] = true)
        clear HD
        go_wp2_with fail
        go_ret
        exact ⟨ret_bool (connB_hit hil HH.out).symm, HWB.out⟩
      · have HH := Lib.hid (by rw [HD.out, e0, e1, e2, e3]; rfl : drHas a b doors[i] = true)
        clear HD
        go_wp2_with fail
        go_ret
        exact ⟨ret_bool (connB_hit hil HH.out).symm, HWB.out⟩
      · have HH := Lib.hid (by rw [HD.out, e0, e1, e2, e3]; rfl : drHas a b doors[i] = true)
        clear HD
        go_wp2_with fail
        go_ret
        exact ⟨ret_bool (connB_hit hil HH.out).symm, HWB.out⟩
      · have HH := Lib.hid (by rw [HD.out, e0, e1, e2, e3]; rfl : drHas a b doors[i] = true)
        clear HD
        go_wp2_with fail
        go_ret
        exact ⟨ret_bool (connB_hit hil HH.out).symm, HWB.out⟩
    · have hke : doors.take i = doors := List.take_of_length_le (by omega)
      have HT2 := Lib.hid (by rw [hke] at HT; exact HT.out : doors.any (drHas a b) = false)
      clear hke
      go_wp2_with fail
      go_ret
      exact ⟨ret_bool (by unfold connB; rw [HT2.out]; rfl), HWB.out⟩
end Go.Proofs.Ytdbngpncigjfiaa
