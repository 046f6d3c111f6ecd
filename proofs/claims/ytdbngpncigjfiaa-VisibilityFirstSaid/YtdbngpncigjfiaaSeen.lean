/- Package visibility: Seen; the reference's Seen. -/
import Derived.Test.YtdbngpncigjfiaaRSees
namespace Go.Proofs.Ytdbngpncigjfiaa
open Go.RowKit

section
variable {w : World} {s : St} {bodies : List Bd} {rooms : List Bx} {doors : List (Int × Int)} {co : Option Addr} {cc : Nat} {cells : List Int}

/-- what a player sees -/
def seenL (s : St) (rooms : List Bx) (doors : List (Int × Int)) (cells : List Int) (p : Int) : List Int := accL (fun k => seesB s rooms doors cells p (k : Int)) s.nb

set_option maxRecDepth 100000 in
set_option maxHeartbeats 4000000 in
theorem seenC_any (h : VPre w s bodies rooms doors co cc cells) (C : Array Value) (hC : CAt s C) (p : Int) (tb t2 t3 : Nat) (hb : w.heap[tb]? = some (.cells C 31 (0, 0)))
    (c2 : w.cell? ⟨t2, 0, none⟩ = some (.slice co cells.length cc)) (c3 : w.cell? ⟨t3, 0, none⟩ = some (.int .i64 p)) (k : Int) :
    Calls Try.prog 39 #[.int .i64 k, .pointer (some ⟨tb, 0, none⟩), .pointer (some ⟨t2, 0, none⟩), .pointer (some ⟨t3, 0, none⟩)] w fun e w' => e = .returned (.bool (seesB s rooms doors cells p k)) ∧ Fr [] w w' := by
  have HS := Lib.hid (by have := sees_any h p k; rw [hC.val] at this; exact this)
  have HB := Lib.hid hb
  have HCS := Lib.hid hC.size
  clear h hC hb
  go_enter Try.func39, Try.ntmps39
  go_wp2_with (first | (refine wpList_loadB rfl 31 (Operand.tmp 1) rfl tb 16 rfl C 31 (0, 0) HB.out _ Try.underlying31 rfl HCS.out infoSetup ?_) | (go_at_call 21; refine HS.out.mono ?_; rintro e w1 ⟨rfl, hf1⟩; have HF1 := Lib.hid hf1; clear hf1))
  go_ret
  exact ⟨rfl, HF1.out⟩

set_option maxRecDepth 100000 in
set_option maxHeartbeats 4000000 in
theorem seen_any (h : VPre w s bodies rooms doors co cc cells) (p : Int) :
    Calls Try.prog 19 #[s.val, .slice co cells.length cc, .int .i64 p] w (IntsTo w (seenL s rooms doors cells p)) := by
  have hnb := h.mp.ok.b1
  obtain ⟨C, hC⟩ := cAt s
  obtain ⟨bx, hbx⟩ : ∃ bx, bx = w.heap.size := ⟨_, rfl⟩
  obtain ⟨wb, hwb⟩ : ∃ wb, wb = ((w.alloc (.cells C 31)).alloc (.cells #[.slice co cells.length cc] 22)).alloc (.cells #[.int .i64 p] 3) := ⟨_, rfl⟩
  have hB : wb.heap[bx]? = some (.cells C 31 (0, 0)) := by rw [hwb, hbx]; exact alloc_old (alloc_old (alloc_new w _))
  have hB2 : wb.heap[bx + 1]? = some (.cells #[.slice co cells.length cc] 22 (0, 0)) := by rw [hwb, hbx]; exact alloc_old (alloc_new2 w _ _)
  have hB3 : wb.heap[bx + 1 + 1]? = some (.cells #[.int .i64 p] 3 (0, 0)) := by
    rw [hwb, hbx, show w.heap.size + 1 + 1 = ((w.alloc (.cells C 31)).alloc (.cells #[.slice co cells.length cc] 22)).heap.size by simp]; exact alloc_new _ _
  have hWB : Fr [] w wb := by rw [hwb]; exact (((Fr.refl [] w).alloc _).alloc _).alloc _
  have HBEL := Lib.hid (below_seen wb s.nb hnb bx (bx + 1) (bx + 1 + 1) (fun k => seesB s rooms doors cells p (k : Int)) fun k wr _ hf =>
    seenC_any (h.old (hWB.trans hf (by simp [Ext]))) C hC p bx (bx + 1) (bx + 1 + 1) (hf.blk hB (by simp)) (cell_blk (hf.blk hB2 (by simp)) 0) (cell_blk (hf.blk hB3 (by simp)) 0) (k : Int))
  have c1 := (cell_blk hB 1).trans hC.c1
  have HWB := Lib.hid hWB
  have HBX := Lib.hid hbx
  have HWE := Lib.hid hwb
  rw [hC.val]
  clear h hC hbx hwb hB hB2 hB3 hWB
  go_enter Try.func19, Try.ntmps19
  go_upto_region 1 with (fail)
  rw [← HBX.out, ← HWE.out]
  go_wp2_with (go_at_call 32; refine HBEL.out.mono ?_; rintro e w2 ⟨oa, oc, rfl, hs2, hf2, hb2⟩; have HS2 := Lib.hid hs2; have HF2 := Lib.hid hf2; have HB2 := Lib.hid hb2; clear hs2 hf2 hb2)
  go_ret
  exact ⟨oa, oc, rfl, HS2.out, HWB.out.trans HF2.out (by simp [Ext]), fun k hk => by have := HB2.out k hk; have := HWB.out.size; omega⟩
end
end Go.Proofs.Ytdbngpncigjfiaa
