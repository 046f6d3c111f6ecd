/- Chapter 27: the frame of Sees; the reference's position. -/
import Derived.Test.YtdbngpncigjfiaaVis2
import Derived.Test.YtdbngpncigjfiaaVec
import Derived.Test.YtdbngpncigjfiaaMotion4
namespace Go.Proofs.Ytdbngpncigjfiaa
open Go.RowKit

def posX (s : St) (cells : List Int) (i : Int) : Int := cells.getD (48 + 4 * s.players + 8 * i).toNat 0
def posY (s : St) (cells : List Int) (i : Int) : Int := cells.getD ((48 + 4 * s.players + 8 * i).toNat + 1) 0
structure VPre (w : World) (s : St) (bodies : List Bd) (rooms : List Bx) (doors : List (Int × Int)) (co : Option Addr) (cc : Nat) (cells : List Int) : Prop where
  mp : MotPre w s bodies co cc cells
  map : MapAt w s rooms doors
  few : Few rooms doors
  pn : s.players ≤ (s.nb : Int)
  len : 48 + 4 * s.players + 8 * (s.nb : Int) ≤ (cells.length : Int)
  pos : ∀ i : Int, 0 ≤ i → i < (s.nb : Int) → inC (posX s cells i) ∧ inC (posY s cells i)
  f0 : 0 ≤ s.fog
  f1 : s.fog ≤ 4194304
theorem VPre.old {w w' : World} {s : St} {bodies : List Bd} {rooms : List Bx} {doors : List (Int × Int)} {co : Option Addr} {cc : Nat} {cells : List Int} (h : VPre w s bodies rooms doors co cc cells) (hf : Fr [] w w') : VPre w' s bodies rooms doors co cc cells :=
  ⟨⟨h.mp.ok, h.mp.p0, h.mp.bd.old hf, h.mp.rd.fr hf (by simp), h.mp.fit, h.mp.cap⟩, h.map.old hf, h.few, h.pn, h.len, h.pos, h.f0, h.f1⟩

/-- the cells of a setup, as one letter -/
structure CAt (s : St) (C : Array Value) : Prop where
  val : s.val = .agg C
  size : C.size = 16
  c0 : C[0]? = some (.int .i64 s.players)
  c1 : C[1]? = some (.slice s.bo s.nb s.bc)
  c6 : C[6]? = some (.slice s.ro s.rn s.rc)
  c7 : C[7]? = some (.slice s.dO s.dn s.dc)
  c8 : C[8]? = some (.int .i64 s.fog)
theorem cAt (s : St) : ∃ C, CAt s C := ⟨_, ⟨rfl, rfl, rfl, rfl, rfl, rfl, rfl⟩⟩

section
variable {w : World} {s : St} {bodies : List Bd} {rooms : List Bx} {doors : List (Int × Int)} {co : Option Addr} {cc : Nat} {cells : List Int}

set_option maxRecDepth 100000 in
set_option maxHeartbeats 4000000 in
theorem position_any (h : VPre w s bodies rooms doors co cc cells) (i : Int) (h0 : 0 ≤ i) (h1 : i < (s.nb : Int)) :
    Calls Try.prog 43 #[s.val, .slice co cells.length cc, .int .i64 i] w fun e w' => e = .returned (.agg #[.int .i64 (posX s cells i), .int .i64 (posY s cells i)]) ∧ Fr [] w w' := by
  have hp := h.mp.p0
  have hok := h.mp.ok
  have hln := h.len
  have hcap := h.mp.cap
  unfold maxLen at hcap
  have hfit := h.mp.fit
  obtain ⟨b, hb⟩ := Int.eq_ofNat_of_zero_le (show 0 ≤ 48 + 4 * s.players + 8 * i by omega)
  have hbn : (48 + 4 * s.players + 8 * i).toNat = b := by omega
  obtain ⟨X, hX⟩ : ∃ X, X = posX s cells i := ⟨_, rfl⟩
  obtain ⟨Y, hY⟩ : ∃ Y, Y = posY s cells i := ⟨_, rfl⟩
  have hbl : b + 1 < cells.length := by omega
  obtain ⟨g, off, rfl, hg, hc⟩ := h.mp.rd.at (by omega)
  have e0 : w.cell? ⟨g, off + b, none⟩ = some (.int .i64 X) := by
    rw [hX, posX, hbn, hc _ (by omega), ints_get, List.getElem?_eq_getElem (by omega), List.getD_eq_getElem?_getD, List.getElem?_eq_getElem (by omega)]; rfl
  have e1 : w.cell? ⟨g, off + (b + 1), none⟩ = some (.int .i64 Y) := by
    rw [hY, posY, hbn, hc _ (by omega), ints_get, List.getElem?_eq_getElem (by omega), List.getD_eq_getElem?_getD, List.getElem?_eq_getElem (by omega)]; rfl
  obtain ⟨C, hC⟩ := cAt s
  have HBD := Lib.hid fun (u : World) => (by have h := rbody_any u s hok i; rw [show bdOf s i = (b : Int) by unfold bdOf; rw [if_neg (by omega)]; omega, hC.val] at h; exact h : Calls Try.prog 38 #[.agg C, .int .i64 i] u fun e w' => e = .returned (.int .i64 (b : Int)) ∧ Fr [] u w')
  have HCS := Lib.hid hC.size
  rw [hC.val, ← hX, ← hY]
  have E0 := Lib.hid e0
  have E1 := Lib.hid e1
  have HG := Lib.hid hg
  have hbb : b + 1 < cells.length := hbl
  obtain ⟨N, hN⟩ : ∃ N, N = cells.length := ⟨_, rfl⟩
  rw [← hN] at hbb ⊢
  have hNb : N ≤ 9223372036854775807 := by omega
  have hbi : (b : Int) + 1 < (N : Int) := by omega
  have w1' : IntKind.i64.wrap ((b : Int) + 1) = (b : Int) + 1 := IntWalk.i64_in _ (by omega)
  have x1' : (0 : Int) ≤ (b : Int) + 1 := by omega
  have y1' : ((b : Int) + 1).toNat = b + 1 := by omega
  clear h hp hok hln hfit hb hbn hX hY hc hbl hC e0 e1 hg h0 h1 hN hcap
  obtain ⟨bx, hbx⟩ : ∃ bx, bx = w.heap.size := ⟨_, rfl⟩
  obtain ⟨wb, hwb⟩ : ∃ wb, wb = (w.alloc (.cells C 31)).alloc (.cells #[.int .i64 0, .int .i64 0] 29) := ⟨_, rfl⟩
  have HB := Lib.hid (by rw [hwb, hbx]; exact alloc_old (alloc_new w _) : wb.heap[bx]? = some (.cells C 31 (0, 0)))
  have HR := Lib.hid (by rw [hwb, hbx]; exact alloc_new2 w _ _ : wb.heap[bx + 1]? = some (.cells #[.int .i64 0, .int .i64 0] 29 (0, 0)))
  have HWB := Lib.hid (by rw [hwb]; exact ((Fr.refl [] w).alloc _).alloc _ : Fr [] w wb)
  have HBX := Lib.hid hbx
  have HWE := Lib.hid hwb
  clear hbx hwb w1' x1' y1'
  go_enter Try.func43, Try.ntmps43
  go_upto_region 1 with (fail)
  rw [← HBX.out, ← HWE.out]
  go_upto_region 2 with (first | (refine wpList_loadB rfl 31 (Operand.tmp 3) rfl bx 16 rfl C 31 (0, 0) HB.out _ Try.underlying31 rfl HCS.out infoSetup ?_) | (go_at_call 38; refine (HBD.out _).mono ?_; rintro e w1 ⟨rfl, hf1⟩; have d0 := (World.cell?_of_block ((HWB.out.trans hf1 (by simp [Ext])).block g HG.out (by simp))).trans E0.out; have d1 := (World.cell?_of_block ((HWB.out.trans hf1 (by simp [Ext])).block g HG.out (by simp))).trans E1.out; have HF1 := Lib.hid hf1; have HR1 := Lib.hid (hf1.blk HR.out (by simp)); clear hf1))
  have o0 : b < N := by omega
  have o1 : b + 1 < N := by omega
  have p0 : (b : Int) < (N : Int) := by omega
  have p1 : (b : Int) + 1 < (N : Int) := by omega
  have w1' : IntKind.i64.wrap ((b : Int) + 1) = (b : Int) + 1 := IntWalk.i64_in _ (by omega)
  have x1' : (0 : Int) ≤ (b : Int) + 1 := by omega
  have y1' : ((b : Int) + 1).toNat = b + 1 := by omega
  refine wp_still_tail 10 (by kernel_rfl) (by kernel_rfl) ?_
  simp only [List.take_succ_cons, List.take_zero, List.drop_succ_cons, List.drop_zero]
  repeat still_step
  refine wpStill_nil ?_
  go_wp2_with (refine wpList_storeB rfl 29 (Operand.tmp 6) (Operand.tmp 20) rfl (bx + 1) 2 #[.int .i64 X, .int .i64 Y] rfl rfl #[.int .i64 0, .int .i64 0] 29 (by exact HR1.out) rfl rfl (by kernel_rfl) (by simp [Value.oneCell']) ?_; intro w5 hb5 hf5; have HB5 := Lib.hid hb5; have HF5 := Lib.hid hf5; clear hb5 hf5)
  have t0 := cell_blk HB5.out 0
  have t1 := cell_blk HB5.out 1
  have hbw := HBX.out
  refine bodyPost_ret (v := .agg #[.int .i64 X, .int .i64 Y]) (by simp [results, Try.results43, go_sem, t0, t1]) rfl ⟨rfl, ?_⟩
  exact (HWB.out.trans HF1.out (by simp [Ext])).trans (show Fr [bx + 1] w1 w5 from ⟨HF5.out.os, HF5.out.tape, HF5.out.output, HF5.out.size, HF5.out.block⟩) (fun k hk => .inr (by simp at hk; omega))
end
end Go.Proofs.Ytdbngpncigjfiaa
