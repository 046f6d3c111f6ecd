/- Sees (merged by merge.py). -/
import Derived.Test.YtdbngpncigjfiaaZ277
/- Package visibility: Sees. -/
namespace Go.Proofs.Ytdbngpncigjfiaa
open Go.RowKit

/-- a room sees another one -/
def roomsSee (rooms : List Bx) (doors : List (Int × Int)) (a b : Int) : Bool := decide (0 ≤ a) && decide (0 ≤ b) && connB doors a b
/-- a player's body sees another one -/
def farB (s : St) (rooms : List Bx) (doors : List (Int × Int)) (px py qx qy : Int) : Bool :=
  roomsSee rooms doors (roomOf rooms px py) (roomOf rooms qx qy) && decide ((qx - px) * (qx - px) + (qy - py) * (qy - py) < (s.fog + 1) * (s.fog + 1))
def seesB (s : St) (rooms : List Bx) (doors : List (Int × Int)) (cells : List Int) (p b : Int) : Bool :=
  if p < 0 ∨ s.players ≤ p ∨ b < 0 ∨ (s.nb : Int) ≤ b then false
  else if b = p then true
  else farB s rooms doors (posX s cells p) (posY s cells p) (posX s cells b) (posY s cells b)

theorem root_fog {n : Nat} {r : Nat} {f m : Int} (h : IsRoot n r) (hf : 0 ≤ f) (hm : m = (n : Int)) : decide ((r : Int) ≤ f) = decide (m < (f + 1) * (f + 1)) := by
  obtain ⟨k, rfl⟩ := Int.eq_ofNat_of_zero_le hf
  have h1 := h.le_iff k
  rw [hm]
  have h2 : ((k : Int) + 1) * ((k : Int) + 1) = (((k + 1) * (k + 1) : Nat) : Int) := by simp
  rw [h2]
  apply decide_eq_decide.2
  rw [Int.ofNat_le, Int.ofNat_lt]
  exact h1

section
variable {w : World} {s : St} {bodies : List Bd} {rooms : List Bx} {doors : List (Int × Int)} {co : Option Addr} {cc : Nat} {cells : List Int}

theorem VPre.motion (h : VPre w s bodies rooms doors co cc cells) (i : Int) (h0 : 0 ≤ i) (h1 : i < (s.nb : Int)) : ∃ vx vy im : Int, ∀ u, Fr [] w u →
    Calls Try.prog 41 #[s.val, .slice co cells.length cc, .int .i64 i] u fun e w' => e = .returned (.agg #[.int .i64 (posX s cells i), .int .i64 (posY s cells i), .int .i64 vx, .int .i64 vy, .int .i64 im]) ∧ Fr [] u w' := by
  obtain ⟨k, rfl⟩ := Int.eq_ofNat_of_zero_le h0
  refine ⟨cells.getD ((48 + 4 * s.players + 8 * (k : Int)).toNat + 2) 0, cells.getD ((48 + 4 * s.players + 8 * (k : Int)).toNat + 3) 0, (bodies.map (·.im)).getD k 0, fun u hu => ?_⟩
  have hm := (h.old hu).mp
  have hln := h.len
  exact motion_in u s bodies co cc cells hm k ⟨h0, h1, by omega⟩

set_option maxRecDepth 100000 in
set_option maxHeartbeats 8000000 in
theorem sees_any (h : VPre w s bodies rooms doors co cc cells) (p b : Int) :
    Calls Try.prog 21 #[s.val, .slice co cells.length cc, .int .i64 p, .int .i64 b] w fun e w' => e = .returned (.bool (seesB s rooms doors cells p b)) ∧ Fr [] w w' := by
  have hok := h.mp.ok
  have hp0 := h.mp.p0
  have hpn := h.pn
  obtain ⟨C, hC⟩ := cAt s
  have HPL := Lib.hid fun u => (by rw [← hC.val]; exact player_any u s hok p : Calls Try.prog 40 #[.agg C, .int .i64 p] u fun e w' => e = .returned (.int .i64 (plOf s p)) ∧ Fr [] u w')
  have HBO := Lib.hid fun u => (by rw [← hC.val]; exact body_any u s hok b : Calls Try.prog 25 #[.agg C, .int .i64 b] u fun e w' => e = .returned (.int .i64 (bdOf s b)) ∧ Fr [] u w')
  have HRO := Lib.hid fun u (hu : Fr [] w u) x y => (by rw [← hC.val]; exact room_any u s rooms doors (h.map.old hu) x y : Calls Try.prog 12 #[.agg C, .agg #[.int .i64 x, .int .i64 y]] u fun e w' => e = .returned (.int .i64 (roomOf rooms x y)) ∧ Fr [] u w')
  have HVI := Lib.hid fun u (hu : Fr [] w u) r => (by rw [← hC.val]; exact vis_any u s rooms doors (h.map.old hu) h.few r : Calls Try.prog 31 #[.agg C, .int .i64 r] u (VisAny rooms doors r u))
  have hu := Try.underlying31
  have huv := Try.underlying29
  have hCl : (Try.prog.info? 31).map (·.size) = some C.toList.length := by rw [Array.length_toList, hC.size]; exact infoSetup
  have hVl : (Try.prog.info? 29).map (·.size) = some 2 := by kernel_rfl
  have HCS := Lib.hid hC.size
  have HC8 := Lib.hid hC.c8
  have HPRE := Lib.hid h
  obtain ⟨bx, hbx⟩ : ∃ bx, bx = w.heap.size := ⟨_, rfl⟩
  obtain ⟨wb, hwb⟩ : ∃ wb, wb = w.alloc (.cells C 31) := ⟨_, rfl⟩
  have HB := Lib.hid (by rw [hwb, hbx]; exact alloc_new w _ : wb.heap[bx]? = some (.cells C 31 (0, 0)))
  have HWB := Lib.hid (by rw [hwb]; exact (Fr.refl [] w).alloc _ : Fr [] w wb)
  have HBX := Lib.hid hbx
  have HWE := Lib.hid hwb
  clear hbx hwb h
  by_cases hpv : p < 0 ∨ s.players ≤ p
  · have HR := Lib.hid (by unfold seesB; rw [if_pos (by omega)] : seesB s rooms doors cells p b = false)
    have HPL1 := Lib.hid fun u => (by have := HPL.out u; rw [show plOf s p = -1 by unfold plOf; rw [if_pos hpv]] at this; exact this : Calls Try.prog 40 #[.agg C, .int .i64 p] u fun e w' => e = .returned (.int .i64 (-1)) ∧ Fr [] u w')
    rw [hC.val]
    clear hpv HPL hu huv hCl hVl hC hok hp0 hpn
    go_enter Try.func21, Try.ntmps21
    go_upto_region 1 with (fail)
    rw [← HBX.out, ← HWE.out]
    go_wp2_with (first | (refine wpList_loadB rfl 31 (Operand.tmp 4) rfl bx 16 rfl C 31 (0, 0) HB.out _ Try.underlying31 rfl HCS.out infoSetup ?_) | (go_at_call 40; refine (HPL1.out _).mono ?_; rintro e w1 ⟨rfl, hf1⟩; have HF1 := Lib.hid hf1; clear hf1))
    go_ret
    exact ⟨ret_bool HR.out.symm, HWB.out.trans HF1.out (by simp [Ext])⟩
  · obtain ⟨PB, hPB⟩ : ∃ PB, PB = plOf s p := ⟨_, rfl⟩
    have hPB0 : 0 ≤ PB := by rw [hPB]; unfold plOf; rw [if_neg hpv]; omega
    have hPBd : decide (PB < 0) = false := decide_eq_false (by omega)
    have HPL1 := Lib.hid fun u => (by have := HPL.out u; rw [← hPB] at this; exact this : Calls Try.prog 40 #[.agg C, .int .i64 p] u fun e w' => e = .returned (.int .i64 PB) ∧ Fr [] u w')
    clear HPL hPB
    by_cases hbv : b < 0 ∨ (s.nb : Int) ≤ b
    · have HR := Lib.hid (by unfold seesB; rw [if_pos (by omega)] : seesB s rooms doors cells p b = false)
      have HBO1 := Lib.hid fun u => (by have := HBO.out u; rw [show bdOf s b = -1 by unfold bdOf; rw [if_pos hbv]] at this; exact this : Calls Try.prog 25 #[.agg C, .int .i64 b] u fun e w' => e = .returned (.int .i64 (-1)) ∧ Fr [] u w')
      rw [hC.val]
      clear hpv hbv HBO hu huv hCl hVl hC hok hp0 hpn
      go_enter Try.func21, Try.ntmps21
      go_upto_region 1 with (fail)
      rw [← HBX.out, ← HWE.out]
      go_wp2_with (first | (refine wpList_loadB rfl 31 (Operand.tmp 4) rfl bx 16 rfl C 31 (0, 0) HB.out _ Try.underlying31 rfl HCS.out infoSetup ?_) | (refine wpList_loadG (by rfl) 31 (Operand.tmp 4) rfl bx 16 rfl C 31 (0, 0) HB1.out _ Try.underlying31 rfl HCS.out infoSetup ?_) | (go_at_call 40; refine (HPL1.out _).mono ?_; rintro e w1 ⟨rfl, hf1⟩; have HF1 := Lib.hid hf1; have HB1 := Lib.hid (hf1.blk HB.out (by simp)); clear hf1) | (go_at_call 25; refine (HBO1.out _).mono ?_; rintro e w2 ⟨rfl, hf2⟩; have HF2 := Lib.hid hf2; clear hf2))
      go_ret
      exact ⟨ret_bool HR.out.symm, (HWB.out.trans HF1.out (by simp [Ext])).trans HF2.out (by simp [Ext])⟩
    · have hbv' : 0 ≤ b ∧ b < (s.nb : Int) := by omega
      have hpv' : 0 ≤ p ∧ p < (s.nb : Int) := by omega
      obtain ⟨BV, hBV⟩ : ∃ BV, BV = bdOf s b := ⟨_, rfl⟩
      have hBV0 : 0 ≤ BV := by rw [hBV]; unfold bdOf; rw [if_neg hbv]; omega
      have hBVd : decide (BV < 0) = false := decide_eq_false (by omega)
      have HBO1 := Lib.hid fun u => (by have := HBO.out u; rw [← hBV] at this; exact this : Calls Try.prog 25 #[.agg C, .int .i64 b] u fun e w' => e = .returned (.int .i64 BV) ∧ Fr [] u w')
      have HNV := Lib.hid (by omega : ¬ (p < 0 ∨ s.players ≤ p ∨ b < 0 ∨ (s.nb : Int) ≤ b))
      obtain ⟨pvx, pvy, pim, hmp⟩ := HPRE.out.motion p hpv'.1 hpv'.2
      obtain ⟨qvx, qvy, qim, hmq⟩ := HPRE.out.motion b hbv'.1 hbv'.2
      obtain ⟨hcp1, hcp2⟩ := HPRE.out.pos p hpv'.1 hpv'.2
      obtain ⟨hcq1, hcq2⟩ := HPRE.out.pos b hbv'.1 hbv'.2
      have hf0 := HPRE.out.f0
      have h8 := HPRE.out.few.1
      obtain ⟨px, hpx⟩ : ∃ px, px = posX s cells p := ⟨_, rfl⟩
      obtain ⟨py, hpy⟩ : ∃ py, py = posY s cells p := ⟨_, rfl⟩
      obtain ⟨qx, hqx⟩ : ∃ qx, qx = posX s cells b := ⟨_, rfl⟩
      obtain ⟨qy, hqy⟩ : ∃ qy, qy = posY s cells b := ⟨_, rfl⟩
      have HFAR := Lib.hid (fun (hne : ¬ b = p) => (by unfold seesB; rw [if_neg HNV.out, if_neg hne, hpx, hpy, hqx, hqy] : seesB s rooms doors cells p b = farB s rooms doors px py qx qy))
      rw [← hpx, ← hpy] at hmp
      rw [← hqx, ← hqy] at hmq
      rw [← hpx] at hcp1
      rw [← hpy] at hcp2
      rw [← hqx] at hcq1
      rw [← hqy] at hcq2
      simp only [hC.val] at hmp hmq
      have HMP := Lib.hid hmp
      have HMQ := Lib.hid hmq
      have HC1 := Lib.hid hcp1
      have HC2 := Lib.hid hcp2
      have HC3 := Lib.hid hcq1
      have HC4 := Lib.hid hcq2
      rw [hC.val]
      clear hpv hbv HBO hBV hC hok hp0 hpn hbv' hpv' hmp hmq hcp1 hcp2 hcq1 hcq2 hpx hpy hqx hqy
      by_cases hbp : b = p
      · have HEQ := Lib.hid hbp
        have hbe : (b == p) = true := beq_iff_eq.2 hbp
        clear hbp hu huv hCl hVl
        go_enter Try.func21, Try.ntmps21
        go_upto_region 1 with (fail)
        rw [← HBX.out, ← HWE.out]
        go_wp2_with (first | (refine wpList_loadB rfl 31 (Operand.tmp 4) rfl bx 16 rfl C 31 (0, 0) HB.out _ Try.underlying31 rfl HCS.out infoSetup ?_) | (refine wpList_loadG (by rfl) 31 (Operand.tmp 4) rfl bx 16 rfl C 31 (0, 0) HB1.out _ Try.underlying31 rfl HCS.out infoSetup ?_) | (go_at_call 40; refine (HPL1.out _).mono ?_; rintro e w1 ⟨rfl, hf1⟩; have HF1 := Lib.hid hf1; have HB1 := Lib.hid (hf1.blk HB.out (by simp)); clear hf1) | (go_at_call 25; refine (HBO1.out _).mono ?_; rintro e w2 ⟨rfl, hf2⟩; have HF2 := Lib.hid hf2; clear hf2))
        go_ret
        exact ⟨ret_bool (by unfold seesB; rw [if_neg HNV.out, if_pos HEQ.out]), (HWB.out.trans HF1.out (by simp [Ext])).trans HF2.out (by simp [Ext])⟩
      · have HR := Lib.hid (HFAR.out hbp)
        have hbe : (b == p) = false := beq_eq_false_iff_ne.2 hbp
        have HUV := Lib.hid huv
        have HVL := Lib.hid hVl
        have HU := Lib.hid hu
        have HCL := Lib.hid hCl
        clear hbp hu huv hCl hVl HFAR
        have hfp : ∀ u, (Instr.field 66 (.agg #[.int .i64 px, .int .i64 py, .int .i64 pvx, .int .i64 pvy, .int .i64 pim]) 0).run Try.prog u = .ok (.agg #[.int .i64 px, .int .i64 py]) u := fun _ => by kernel_rfl
        have hfq : ∀ u, (Instr.field 66 (.agg #[.int .i64 qx, .int .i64 qy, .int .i64 qvx, .int .i64 qvy, .int .i64 qim]) 0).run Try.prog u = .ok (.agg #[.int .i64 qx, .int .i64 qy]) u := fun _ => by kernel_rfl
        go_enter Try.func21, Try.ntmps21
        go_upto_region 1 with (fail)
        rw [← HBX.out, ← HWE.out]
        go_upto_region 5 with (first | (refine wpList_loadB rfl 31 (Operand.tmp 4) rfl bx 16 rfl C 31 (0, 0) HB.out _ Try.underlying31 rfl HCS.out infoSetup ?_) | (refine wpList_loadG (by rfl) 31 (Operand.tmp 4) rfl bx 16 rfl C 31 (0, 0) HB1.out _ Try.underlying31 rfl HCS.out infoSetup ?_) | (go_at_call 40; refine (HPL1.out _).mono ?_; rintro e w1 ⟨rfl, hf1⟩; have HF1 := Lib.hid hf1; have HB1 := Lib.hid (hf1.blk HB.out (by simp)); clear hf1) | (go_at_call 25; refine (HBO1.out _).mono ?_; rintro e w2 ⟨rfl, hf2⟩; have HW2 := Lib.hid ((HWB.out.trans HF1.out (by simp [Ext])).trans hf2 (by simp [Ext])); have HB2 := Lib.hid (hf2.blk HB1.out (by simp)); clear hf2))
        go_upto_region 6 with (first | (refine wpList_loadB rfl 31 (Operand.tmp 4) rfl bx 16 rfl C 31 (0, 0) HB2.out _ Try.underlying31 rfl HCS.out infoSetup ?_) | (go_at_call 41; refine (HMP.out w2 HW2.out).mono ?_; rintro e w3 ⟨rfl, hf3⟩; have HF3 := Lib.hid hf3; have HB3 := Lib.hid (hf3.blk HB2.out (by simp)); clear hf3))
        obtain ⟨W3, hW3⟩ : ∃ W3, W3 = w3.alloc (.cells #[.int .i64 px, .int .i64 py] 29) := ⟨_, rfl⟩
        obtain ⟨b9, hb9⟩ : ∃ b9, b9 = w3.heap.size := ⟨_, rfl⟩
        have HW3 := Lib.hid (by rw [hW3]; exact (HW2.out.trans HF3.out (by simp [Ext])).alloc _ : Fr [] w W3)
        have HBW3 := Lib.hid (by rw [hW3]; exact alloc_old HB3.out : W3.heap[bx]? = some (.cells C 31 (0, 0)))
        have H9 := Lib.hid (by rw [hW3, hb9]; exact alloc_new w3 _ : W3.heap[b9]? = some (.cells #[.int .i64 px, .int .i64 py] 29 (0, 0)))
        rw [← hW3, ← hb9]
        clear hW3 hb9
        go_upto_region 7 with (first | (refine wpList_loadB rfl 31 (Operand.tmp 4) rfl bx 16 rfl C 31 (0, 0) HBW3.out _ Try.underlying31 rfl HCS.out infoSetup ?_) | (go_at_call 41; refine (HMQ.out W3 HW3.out).mono ?_; rintro e w4 ⟨rfl, hf4⟩; have HF4 := Lib.hid hf4; have HB4 := Lib.hid (hf4.blk HBW3.out (by simp)); have H94 := Lib.hid (hf4.blk H9.out (by simp)); clear hf4))
        obtain ⟨W4, hW4⟩ : ∃ W4, W4 = w4.alloc (.cells #[.int .i64 qx, .int .i64 qy] 29) := ⟨_, rfl⟩
        obtain ⟨b10, hb10⟩ : ∃ b10, b10 = w4.heap.size := ⟨_, rfl⟩
        have HW4 := Lib.hid (by rw [hW4]; exact (HW3.out.trans HF4.out (by simp [Ext])).alloc _ : Fr [] w W4)
        have HBW4 := Lib.hid (by rw [hW4]; exact alloc_old HB4.out : W4.heap[bx]? = some (.cells C 31 (0, 0)))
        have H9W := Lib.hid (by rw [hW4]; exact alloc_old H94.out : W4.heap[b9]? = some (.cells #[.int .i64 px, .int .i64 py] 29 (0, 0)))
        have H10 := Lib.hid (by rw [hW4, hb10]; exact alloc_new w4 _ : W4.heap[b10]? = some (.cells #[.int .i64 qx, .int .i64 qy] 29 (0, 0)))
        rw [← hW4, ← hb10]
        clear hW4 hb10
        have q0 := cell_blk H10.out 0
        have q1 := cell_blk H10.out 1
        obtain ⟨rb, hrb⟩ : ∃ rb, rb = roomOf rooms qx qy := ⟨_, rfl⟩
        have HRB := Lib.hid hrb
        have hrbl := (roomOf_lt rooms qx qy).2
        rw [← hrb] at hrbl
        clear hrb
        go_upto_region 8 with (first | (refine wpList_loadB rfl 31 (Operand.tmp 4) rfl bx 16 rfl C 31 (0, 0) HBW4.out _ Try.underlying31 rfl HCS.out infoSetup ?_) | (go_at_call 12; refine (HRO.out W4 HW4.out qx qy).mono ?_; rintro e w5 ⟨rfl, hf5⟩; rw [← HRB.out]; have HF5 := Lib.hid hf5; clear hf5))
        have KEEP := Lib.hid (fun (u : World) (hu : Fr [] W4 u) => (⟨hu.blk HBW4.out (by simp), cell_blk (hu.blk H9W.out (by simp)) 0, cell_blk (hu.blk H9W.out (by simp)) 1, hu⟩ : (fun w' : World => w'.heap[bx]? = some (.cells C 31 (0, 0)) ∧ w'.cell? ⟨b9, 0, none⟩ = some (.int .i64 px) ∧ w'.cell? ⟨b9, 1, none⟩ = some (.int .i64 py) ∧ Fr [] W4 w') u))
        clear q0 q1
        have hu := HU.out
        have hCl := HCL.out
        by_cases hneg : rb < 0
        · have HNO := Lib.hid (by unfold farB roomsSee; rw [← HRB.out, decide_eq_false (by omega : ¬ 0 ≤ rb)]; simp : farB s rooms doors px py qx qy = false)
          have hnd : decide (rb < 0) = true := decide_eq_true hneg
          refine wp_region_held_drew (S := fun w' : World => w'.heap[bx]? = some (.cells C 31 (0, 0)) ∧ w'.cell? ⟨b9, 0, none⟩ = some (.int .i64 px) ∧ w'.cell? ⟨b9, 1, none⟩ = some (.int .i64 py) ∧ Fr [] W4 w') (by kernel_rfl) (KEEP.out _ (HF5.out.drew)) (fun hHeld => ?_)
          refine wpAnyH_takeL (i := 0) (v := _) rfl (by kernel_rfl) (by kernel_rfl) (by kernel_rfl) (fun _ _ _ h => h) (Or.inl ⟨by rfl, (by intro w' hSw; (try dsimp only at hSw); obtain ⟨-, g1, g2, -⟩ := hSw; go_simp; try with_reducible rfl)⟩) (by assumption) ?_
          try simp only [Act.put, List.setIfInBounds_toArray, List.set_cons_zero, List.set_cons_succ]
          refine wpAnyH_takeL (i := 1) (v := _) rfl (by kernel_rfl) (by kernel_rfl) (by kernel_rfl) (fun _ _ _ h => h) (Or.inl ⟨by rfl, (by intro w' hSw; (try dsimp only at hSw); obtain ⟨-, g1, g2, -⟩ := hSw; go_simp; try with_reducible rfl)⟩) (by assumption) ?_
          try simp only [Act.put, List.setIfInBounds_toArray, List.set_cons_zero, List.set_cons_succ]
          refine wpAnyH_takeL (i := 2) (v := _) rfl (by kernel_rfl) (by kernel_rfl) (by kernel_rfl) (fun _ _ _ h => h) (Or.inl ⟨by rfl, (by intro w' hSw; (try dsimp only at hSw); obtain ⟨-, g1, g2, -⟩ := hSw; go_simp; try with_reducible rfl)⟩) (by assumption) ?_
          try simp only [Act.put, List.setIfInBounds_toArray, List.set_cons_zero, List.set_cons_succ]
          refine wpAnyH_takeL (i := 3) (v := undef) rfl (by kernel_rfl) (by kernel_rfl) (by kernel_rfl) (fun _ _ _ h => h) (Or.inr ⟨by rfl, rfl⟩) (by assumption) ?_
          try simp only [Act.put, List.setIfInBounds_toArray, List.set_cons_zero, List.set_cons_succ]
          refine wpAnyH_takeL (i := 4) (v := undef) rfl (by kernel_rfl) (by kernel_rfl) (by kernel_rfl) (fun _ _ _ h => h) (Or.inr ⟨by rfl, rfl⟩) (by assumption) ?_
          try simp only [Act.put, List.setIfInBounds_toArray, List.set_cons_zero, List.set_cons_succ]
          refine wpAnyH_takeL (i := 5) (v := undef) rfl (by kernel_rfl) (by kernel_rfl) (by kernel_rfl) (fun _ _ _ h => h) (Or.inr ⟨by rfl, rfl⟩) (by assumption) ?_
          try simp only [Act.put, List.setIfInBounds_toArray, List.set_cons_zero, List.set_cons_succ]
          refine wpAnyH_takeL (i := 6) (v := undef) rfl (by kernel_rfl) (by kernel_rfl) (by kernel_rfl) (fun _ _ _ h => h) (Or.inr ⟨by rfl, rfl⟩) (by assumption) ?_
          try simp only [Act.put, List.setIfInBounds_toArray, List.set_cons_zero, List.set_cons_succ]
          refine wpAnyH_takeL (i := 7) (v := undef) rfl (by kernel_rfl) (by kernel_rfl) (by kernel_rfl) (fun _ _ _ h => h) (Or.inr ⟨by rfl, rfl⟩) (by assumption) ?_
          try simp only [Act.put, List.setIfInBounds_toArray, List.set_cons_zero, List.set_cons_succ]
          refine wpAnyH_takeL (i := 8) (v := undef) rfl (by kernel_rfl) (by kernel_rfl) (by kernel_rfl) (fun _ _ _ h => h) (Or.inr ⟨by rfl, rfl⟩) (by assumption) ?_
          try simp only [Act.put, List.setIfInBounds_toArray, List.set_cons_zero, List.set_cons_succ]
          refine wpAnyH_takeL (i := 9) (v := undef) rfl (by kernel_rfl) (by kernel_rfl) (by kernel_rfl) (fun _ _ _ h => h) (Or.inr ⟨by rfl, rfl⟩) (by assumption) ?_
          try simp only [Act.put, List.setIfInBounds_toArray, List.set_cons_zero, List.set_cons_succ]
          refine wpAnyH_takeL (i := 10) (v := undef) rfl (by kernel_rfl) (by kernel_rfl) (by kernel_rfl) (fun _ _ _ h => h) (Or.inr ⟨by rfl, rfl⟩) (by assumption) ?_
          try simp only [Act.put, List.setIfInBounds_toArray, List.set_cons_zero, List.set_cons_succ]
          refine wpAnyH_takeL (i := 11) (v := undef) rfl (by kernel_rfl) (by kernel_rfl) (by kernel_rfl) (fun _ _ _ h => h) (Or.inr ⟨by rfl, rfl⟩) (by assumption) ?_
          try simp only [Act.put, List.setIfInBounds_toArray, List.set_cons_zero, List.set_cons_succ]
          refine wpAnyH_takeL (i := 12) (v := _) rfl (by kernel_rfl) (by kernel_rfl) (by kernel_rfl) (fun _ _ _ h => h) (Or.inl ⟨by rfl, (by intro w' hSw; (try dsimp only at hSw); obtain ⟨-, g1, g2, -⟩ := hSw; go_simp; try with_reducible rfl)⟩) (by assumption) ?_
          try simp only [Act.put, List.setIfInBounds_toArray, List.set_cons_zero, List.set_cons_succ]
          refine wpAnyH_done (by kernel_rfl) ?_ _
          go_wp2_with fail
          go_ret
          exact ⟨ret_bool (by rw [HR.out, HNO.out]), (HW4.out.trans HF5.out (by simp [Ext])).drew⟩
        have hrb0 : 0 ≤ rb := by omega
        have hrb8 : rb < 8 := by omega
        have hrbb := bitN_lt hrb8
        have hnd : decide (rb < 0) = false := decide_eq_false hneg
        clear hneg
        refine wp_region_held_drew (S := fun w' : World => w'.heap[bx]? = some (.cells C 31 (0, 0)) ∧ w'.cell? ⟨b9, 0, none⟩ = some (.int .i64 px) ∧ w'.cell? ⟨b9, 1, none⟩ = some (.int .i64 py) ∧ Fr [] W4 w') (by kernel_rfl) (KEEP.out _ (HF5.out.drew)) (fun hHeld => ?_)
        refine wpAnyH_takeL (i := 0) (v := _) rfl (by kernel_rfl) (by kernel_rfl) (by kernel_rfl) (fun _ _ _ h => h) (Or.inl ⟨by rfl, (by intro w' hSw; (try dsimp only at hSw); obtain ⟨-, g1, g2, -⟩ := hSw; go_simp; try with_reducible rfl)⟩) (by assumption) ?_
        try simp only [Act.put, List.setIfInBounds_toArray, List.set_cons_zero, List.set_cons_succ]
        refine wpAnyH_takeL (i := 1) (v := _) rfl (by kernel_rfl) (by kernel_rfl) (by kernel_rfl) (fun _ _ _ h => h) (Or.inl ⟨by rfl, (by intro w' hSw; (try dsimp only at hSw); obtain ⟨-, g1, g2, -⟩ := hSw; go_simp; try with_reducible rfl)⟩) (by assumption) ?_
        try simp only [Act.put, List.setIfInBounds_toArray, List.set_cons_zero, List.set_cons_succ]
        refine wpAnyH_takeL (i := 2) (v := _) rfl (by kernel_rfl) (by kernel_rfl) (by kernel_rfl) (fun _ _ _ h => h) (Or.inl ⟨by rfl, (by intro w' hSw; (try dsimp only at hSw); obtain ⟨-, g1, g2, -⟩ := hSw; go_simp; try with_reducible rfl)⟩) (by assumption) ?_
        try simp only [Act.put, List.setIfInBounds_toArray, List.set_cons_zero, List.set_cons_succ]
        refine wpAnyH_takeL (i := 3) (v := (.agg C)) rfl (by kernel_rfl) (by kernel_rfl) (by kernel_rfl) (fun _ _ _ h => h) (yieldsIf_load_mid (by rfl) 31 (Operand.tmp 4) rfl bx 0 rfl C.toList _ (fun w' hw' => range_blk (c := C) hw'.1) hu rfl hCl) (by assumption) ?_
        try simp only [Act.put, List.setIfInBounds_toArray, List.set_cons_zero, List.set_cons_succ]
        refine wpAnyH_takeL (i := 4) (v := (.agg C)) rfl (by kernel_rfl) (by kernel_rfl) (by kernel_rfl) (fun _ _ _ h => h) (yieldsIf_load_mid (by rfl) 31 (Operand.tmp 4) rfl bx 0 rfl C.toList _ (fun w' hw' => range_blk (c := C) hw'.1) hu rfl hCl) (by assumption) ?_
        try simp only [Act.put, List.setIfInBounds_toArray, List.set_cons_zero, List.set_cons_succ]
        refine wpAnyH_takeL (i := 5) (v := _) rfl (by kernel_rfl) (by kernel_rfl) (by kernel_rfl) (fun _ _ _ h => h) (Or.inl ⟨by rfl, (by intro w' hSw; (try dsimp only at hSw); obtain ⟨-, g1, g2, -⟩ := hSw; go_simp; try with_reducible rfl)⟩) (by assumption) ?_
        try simp only [Act.put, List.setIfInBounds_toArray, List.set_cons_zero, List.set_cons_succ]
        refine wpAnyH_takeL (i := 8) (v := _) rfl (by kernel_rfl) (by kernel_rfl) (by kernel_rfl) (fun _ _ _ h => h) (Or.inl ⟨by rfl, (by intro w' hSw; (try dsimp only at hSw); obtain ⟨-, g1, g2, -⟩ := hSw; go_simp; try with_reducible rfl)⟩) (by assumption) ?_
        try simp only [Act.put, List.setIfInBounds_toArray, List.set_cons_zero, List.set_cons_succ]
        refine wpAnyH_ready (rs := [6]) (by kernel_rfl) (by simp) ?_
        refine AllReadyH.consL (i := 6) rfl (fun K hK => ?_) AllReadyH.nil
        go_simp
        (refine (HRO.out _ (HW4.out.trans HF5.out (by simp [Ext])).drew px py).mono ?_; rintro e wA ⟨rfl, hA⟩; have HA := Lib.hid (by exact HF5.out.drew.trans hA (by simp [Ext]) : Fr [] W4 wA); clear hA)
        refine hK.out _ _ (KEEP.out _ HA.out) (fun hHeld => ?_)
        clear hK K
        try simp only [Act.put, List.setIfInBounds_toArray, List.set_cons_zero, List.set_cons_succ]
        refine wpAnyH_ready (rs := [7]) (by kernel_rfl) (by simp) ?_
        refine AllReadyH.consL (i := 7) rfl (fun K hK => ?_) AllReadyH.nil
        go_simp
        (refine (HVI.out _ (HW4.out.trans HA.out (by simp [Ext])) _).mono ?_; rintro e wB ⟨V, rfl, hV, hB⟩; have HFB := Lib.hid (by exact HA.out.trans hB (by simp [Ext]) : Fr [] W4 wB); have hV8 := hV.1; have HVO := Lib.hid hV; clear hV hB; obtain ⟨X, hX⟩ : ∃ X, X = V &&& bitN rb := ⟨_, rfl⟩; have ha : bits .and .u64 (V : Int) ((bitN rb : Nat) : Int) = (X : Int) := (by rw [hX]; exact bits_and_u64 V _ hV8 hrbb); have HX := Lib.hid hX; clear hX)
        refine hK.out _ _ (KEEP.out _ HFB.out) (fun hHeld => ?_)
        clear hK K
        try simp only [Act.put, List.setIfInBounds_toArray, List.set_cons_zero, List.set_cons_succ]
        refine wpAnyH_ready (rs := [9]) (by kernel_rfl) (by simp) ?_
        refine AllReadyH.consL (i := 9) rfl (fun K hK => ?_) AllReadyH.nil
        go_simp
        (refine (bit_any _ _ hrb0 hrb8).mono ?_; rintro e wC ⟨rfl, rfl⟩)
        refine hK.out _ _ (KEEP.out _ HFB.out) (fun hHeld => ?_)
        clear hK K
        try simp only [Act.put, List.setIfInBounds_toArray, List.set_cons_zero, List.set_cons_succ]
        refine wpAnyH_takeL (i := 10) (v := _) rfl (by kernel_rfl) (by kernel_rfl) (by kernel_rfl) (fun _ _ _ h => h) (Or.inl ⟨by rfl, (by intro w' hSw; (try dsimp only at hSw); obtain ⟨-, g1, g2, -⟩ := hSw; go_simp; try with_reducible rfl)⟩) (by assumption) ?_
        try simp only [Act.put, List.setIfInBounds_toArray, List.set_cons_zero, List.set_cons_succ]
        refine wpAnyH_takeL (i := 11) (v := _) rfl (by kernel_rfl) (by kernel_rfl) (by kernel_rfl) (fun _ _ _ h => h) (Or.inl ⟨by rfl, (by intro w' hSw; (try dsimp only at hSw); obtain ⟨-, g1, g2, -⟩ := hSw; go_simp; try with_reducible rfl)⟩) (by assumption) ?_
        try simp only [Act.put, List.setIfInBounds_toArray, List.set_cons_zero, List.set_cons_succ]
        refine wpAnyH_takeL (i := 12) (v := _) rfl (by kernel_rfl) (by kernel_rfl) (by kernel_rfl) (fun _ _ _ h => h) (Or.inl ⟨by rfl, (by intro w' hSw; (try dsimp only at hSw); obtain ⟨-, g1, g2, -⟩ := hSw; go_simp; try with_reducible rfl)⟩) (by assumption) ?_
        try simp only [Act.put, List.setIfInBounds_toArray, List.set_cons_zero, List.set_cons_succ]
        refine wpAnyH_done (by kernel_rfl) ?_ _
        have HSEE := Lib.hid (by
          have h1 := HVO.out.2 rb.toNat (by omega)
          have h2 := (roomOf_lt rooms px py).2
          rw [Int.toNat_of_nonneg hrb0] at h1
          unfold roomsSee
          rw [h1, decide_eq_true hrb0, Bool.and_true]
          congr 1
          rw [decide_eq_decide]; constructor
          · intro h3; exact ⟨h3, h2⟩
          · intro h3; exact h3.1 : roomsSee rooms doors (roomOf rooms px py) rb = V.testBit rb.toNat)
        have HXV := Lib.hid (by have := and_bitN V hrb0; rw [← HX.out] at this; exact this : X = 0 ↔ V.testBit rb.toNat = false)
        have hWB := (HW4.out.trans HFB.out (by simp [Ext]))
        have HWBW := Lib.hid hWB
        clear hWB
        by_cases hX0 : X = 0
        · have HNO := Lib.hid (by unfold farB; rw [← HRB.out, HSEE.out, HXV.out.1 hX0]; rfl : farB s rooms doors px py qx qy = false)
          have hXd : ((X : Int) == 0) = true := by rw [hX0]; rfl
          have hXi : (X : Int) = 0 := by omega
          clear ha hX0
          go_wp2_with fail
          go_ret
          exact ⟨ret_bool (by rw [HR.out, HNO.out]), HWBW.out⟩
        · have HYES := Lib.hid (by
            have h1 : V.testBit rb.toNat = true := by cases e : V.testBit rb.toNat with | false => exact absurd (HXV.out.2 e) hX0 | true => rfl
            unfold farB; rw [← HRB.out, HSEE.out, h1, Bool.true_and] : farB s rooms doors px py qx qy = decide ((qx - px) * (qx - px) + (qy - py) * (qy - py) < (s.fog + 1) * (s.fog + 1)))
          have hXi : ¬ (X : Int) = 0 := by omega
          have hXd : ((X : Int) == 0) = false := beq_eq_false_iff_ne.2 hXi
          have HDX := Lib.hid (dd_bound HC3.out HC1.out)
          have HDY := Lib.hid (dd_bound HC4.out HC2.out)
          have HSU := Lib.hid fun u => sub_any u qx qy px py HC3.out HC4.out HC1.out HC2.out
          have HLE := Lib.hid fun u => vlen_any u (qx - px) (qy - py) HDX.out HDY.out
          have K10 := Lib.hid (fun (u : World) (hu : Fr [] wB u) => (⟨cell_blk ((HFB.out.trans hu (by simp [Ext])).blk H10.out (by simp)) 0, cell_blk ((HFB.out.trans hu (by simp [Ext])).blk H10.out (by simp)) 1, cell_blk ((HFB.out.trans hu (by simp [Ext])).blk H9W.out (by simp)) 0, cell_blk ((HFB.out.trans hu (by simp [Ext])).blk H9W.out (by simp)) 1, (cell_blk ((HFB.out.trans hu (by simp [Ext])).blk HBW4.out (by simp)) 8).trans HC8.out⟩ :
            u.cell? ⟨b10, 0, none⟩ = some (.int .i64 qx) ∧ u.cell? ⟨b10, 1, none⟩ = some (.int .i64 qy) ∧ u.cell? ⟨b9, 0, none⟩ = some (.int .i64 px) ∧ u.cell? ⟨b9, 1, none⟩ = some (.int .i64 py) ∧ u.cell? ⟨bx, 8, none⟩ = some (.int .i64 s.fog)))
          clear ha hX0
          go_upto_region 10 with fail
          go_region_held3 (fun u => u.cell? ⟨b10, 0, none⟩ = some (.int .i64 qx) ∧ u.cell? ⟨b10, 1, none⟩ = some (.int .i64 qy) ∧ u.cell? ⟨b9, 0, none⟩ = some (.int .i64 px) ∧ u.cell? ⟨b9, 1, none⟩ = some (.int .i64 py) ∧ u.cell? ⟨bx, 8, none⟩ = some (.int .i64 s.fog)) (first | exact K10.out _ ((Fr.refl _ _).drew) | exact K10.out _ HG1.out | exact K10.out _ HG2.out) (first | (go_at_call 29; refine (HSU.out _).mono ?_; rintro e w6 ⟨rfl, hg1⟩; have HG1 := Lib.hid (by exact ((Fr.refl [] wB).drew).trans hg1 (by simp [Ext]) : Fr [] wB w6); clear hg1) | (go_at_call 42; refine (HLE.out _).mono ?_; rintro e w7 ⟨r, rfl, hr, hrs, hg2⟩; have HG2 := Lib.hid (by exact HG1.out.trans hg2 (by simp [Ext]) : Fr [] wB w7); have HRT := Lib.hid hr; clear hr hg2))
          go_wp2_with fail
          go_ret
          have hnn : 0 ≤ (qx - px) * (qx - px) + (qy - py) * (qy - py) := by have := mul_self_nn (qx - px); have := mul_self_nn (qy - py); omega
          exact ⟨ret_bool (by rw [HR.out, HYES.out]; exact root_fog HRT.out hf0 (Int.toNat_of_nonneg hnn).symm), HWBW.out.trans HG2.out (by simp [Ext])⟩
end
end Go.Proofs.Ytdbngpncigjfiaa
