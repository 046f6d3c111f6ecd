/- VisibilityFirst returns true (written by genlaw27.py). -/
import Derived.Test.YtdbngpncigjfiaaLaw27b
namespace Go.Proofs.Ytdbngpncigjfiaa
open Go.RowKit

theorem clamp_eq (x lo hi : Int) (h : lo ≤ hi) : (clampI x lo hi == x) = (decide (lo ≤ x) && decide (x ≤ hi)) := by
  unfold clampI
  by_cases h1 : x < lo
  · rw [if_pos h1, decide_eq_false (by omega : ¬ lo ≤ x), Bool.false_and, beq_eq_false_iff_ne]; omega
  · rw [if_neg h1, decide_eq_true (by omega : lo ≤ x), Bool.true_and]
    by_cases h2 : hi < x
    · rw [if_pos h2, decide_eq_false (by omega : ¬ x ≤ hi), beq_eq_false_iff_ne]; omega
    · rw [if_neg h2, decide_eq_true (by omega : x ≤ hi), beq_iff_eq]
theorem clamp_in (b : Bx) (x y : Int) (h : boxOk b) : ((clampI x b.x0 b.x1 == x) && (clampI y b.y0 b.y1 == y)) = inBx b x y := by
  rw [clamp_eq _ _ _ h.1, clamp_eq _ _ _ h.2.1]
  unfold inBx
  simp only [Bool.and_assoc]
theorem room_lo (rooms : List Bx) (x y : Int) {i : Nat} (hi : i < rooms.length) (h : (i : Int) < roomOf rooms x y ∨ roomOf rooms x y < 0) : inBx rooms[i] x y = false := by
  unfold roomOf at h
  split at h
  · rename_i hl
    have h2 : i < roomN rooms x y := by omega
    have := List.not_of_lt_findIdx (p := fun b => inBx b x y) (xs := rooms) (i := i) h2
    simpa using this
  · rename_i hl
    have h2 : i < roomN rooms x y := by have := List.findIdx_le_length (p := fun b => inBx b x y) (xs := rooms); unfold roomN at hl ⊢; omega
    have := List.not_of_lt_findIdx (p := fun b => inBx b x y) (xs := rooms) (i := i) h2
    simpa using this
theorem room_at (rooms : List Bx) (x y : Int) {i : Nat} (hi : i < rooms.length) (h : (i : Int) = roomOf rooms x y) : inBx rooms[i] x y = true := by
  unfold roomOf at h
  split at h
  · rename_i hl
    have e : i = roomN rooms x y := by omega
    subst e
    exact List.findIdx_getElem (p := fun b => inBx b x y) (w := hl)
  · omega
theorem room_take (rooms : List Bx) (x y : Int) (K : Nat) (hK : (K : Int) = roomOf rooms x y + 1) : roomOf (rooms.take K) x y = roomOf rooms x y := by
  have hb := roomOf_lt rooms x y
  have hKl : K ≤ rooms.length := by omega
  have hlen : (rooms.take K).length = K := by rw [List.length_take]; omega
  by_cases h0 : K = 0
  · subst h0
    have : roomOf rooms x y = -1 := by omega
    rw [this, List.take_zero]; rfl
  · obtain ⟨j, rfl⟩ : ∃ j, K = j + 1 := ⟨K - 1, by omega⟩
    have hj : (j : Int) = roomOf rooms x y := by omega
    rw [← hj]
    symm
    refine roomOf_hit (i := j) (fun i hi hij => ?_) (by omega) ?_
    · rw [List.getElem_take]; exact room_lo rooms x y (by omega) (.inl (by omega))
    · rw [List.getElem_take]; exact room_at rooms x y (by omega) hj
theorem Rd.takeB {w : World} {ao : Option Addr} {n k : Nat} {xs : List Bx} (h : Rd w 4 ao n (xs.flatMap Bx.cells)) (hn : xs.length = n) (hk : k ≤ n) : Rd w 4 ao k ((xs.take k).flatMap Bx.cells) := by
  have hl : (xs.take k).length = k := by rw [List.length_take]; omega
  refine ⟨by rw [flat_len Bx.cells 4 (fun _ => rfl), hl], by have := h.2.1; omega, ?_⟩
  rcases Nat.eq_zero_or_pos k with h0 | h0
  · exact .inl h0
  · right
    obtain ⟨g, off, h1, h2, h3⟩ := h.at (by omega)
    refine ⟨g, off, h1, h2, fun j hj => ?_⟩
    rw [h3 j (by omega)]
    have hs : xs.flatMap Bx.cells = (xs.take k).flatMap Bx.cells ++ (xs.drop k).flatMap Bx.cells := by rw [← List.flatMap_append, List.take_append_drop]
    rw [hs, List.getElem?_append_left (by rw [flat_len Bx.cells 4 (fun _ => rfl), hl]; exact hj)]

set_option maxRecDepth 100000 in
set_option maxHeartbeats 16000000 in
theorem vfirst_walk (w : World) (lo : Option Addr) (lc : Nat) (l : List Int) (hl : Srci w lo lc l) (mo : Option Addr) (mc : Nat) (m : List Int) (hm : Srci w mo mc m) (x y : Int) (hx : bounded x) (hy : bounded y) :
    Calls Try.prog 9 #[.slice lo l.length lc, .slice mo m.length mc, .int .i64 x, .int .i64 y] w fun e w' => e = .returned (.bool true) ∧ Fr [] w w' := by
  have HSU := Lib.hid (set27_any w lo lc l hl.rd hl.bnd mo mc m hm.rd hm.bnd)
  have HPT := Lib.hid (fun u => point_any u x y hx hy)
  clear hl hm hx hy
  go_enter Try.func9, Try.ntmps9
  go_wp2_with fail
  refine HSU.out.mono ?_
  rintro e w1 ⟨s, bodies, rooms, doors, rfl, hs⟩
  have HS := Lib.hid hs
  have F1 := Lib.hid hs.fr
  have hr5 := hs.r5
  obtain ⟨C, hC⟩ := cAt s
  have HCS := Lib.hid hC.size
  have HV := Lib.hid hC.val
  have HC := Lib.hid hC
  have hCl : (Try.prog.info? 31).map (·.size) = some C.toList.length := by rw [Array.length_toList, hC.size]; exact infoSetup
  have HO := Lib.hid (by have h := hC.val; unfold St.val at h; injection h with h; rw [← h]; simp [Value.oneCell'] : C.all (·.oneCell') = true)
  obtain ⟨b1, hb1⟩ : ∃ b1, b1 = w1.heap.size := ⟨_, rfl⟩
  have HB1 := Lib.hid hb1
  rw [HV.out]
  have HCL0 := Lib.hid hCl
  clear hs hb1 hC HSU hCl
  go_upto_region 2 with (refine wpList_storeB rfl 31 (Operand.tmp 9) (Operand.tmp 18) rfl w1.heap.size 16 C rfl rfl _ 31 (by exact alloc_new _ _) rfl HCS.out infoSetup HO.out ?_; intro w2 hb2 hf2; have F2 := Lib.hid (((Fr.refl [] w1).alloc _).trans hf2 (fun k hk => .inr (by simp at hk; omega))); have B2 := Lib.hid (by rw [HB1.out]; exact hb2 : w2.heap[b1]? = some (.cells C 31 (0, 0))); clear hb2 hf2)
  rw [← HB1.out]
  go_wp2_with fail
  refine (HPT.out _).mono ?_
  rintro e w3 ⟨px, py, -, -, rfl, f3⟩
  have F3 := Lib.hid (F2.out.trans f3 (by simp [Ext]))
  have B3 := Lib.hid (f3.blk B2.out (by simp))
  clear f3 HPT
  go_upto_region 3 with fail
  obtain ⟨w4, hw4⟩ : ∃ w4, w4 = w3.alloc (.cells #[.int .i64 px, .int .i64 py] 29) := ⟨_, rfl⟩
  obtain ⟨b2, hb2⟩ : ∃ b2, b2 = w3.heap.size := ⟨_, rfl⟩
  have B4 := Lib.hid (by rw [hw4]; exact alloc_old B3.out : w4.heap[b1]? = some (.cells C 31 (0, 0)))
  have P4 := Lib.hid (by rw [hw4, hb2]; exact alloc_new w3 _ : w4.heap[b2]? = some (.cells #[.int .i64 px, .int .i64 py] 29 (0, 0)))
  have F4 := Lib.hid (by rw [hw4]; exact F3.out.alloc _ : Fr [] w1 w4)
  rw [← hw4, ← hb2]
  clear hw4 hb2 F3 B3
  obtain ⟨rp, hrp⟩ : ∃ rp, rp = roomOf rooms px py := ⟨_, rfl⟩
  have hrb : -1 ≤ rp ∧ rp < (rooms.length : Int) := by rw [hrp]; exact roomOf_lt rooms px py
  obtain ⟨hrb1, hrb2⟩ := hrb
  have HRP := Lib.hid hrp
  have QRo := Lib.hid (fun u (hu : Fr [] w4 u) => (by rw [← HV.out, hrp]; exact room_any u s rooms doors (HS.out.mapu (F4.out.trans hu (by simp [Ext]))) px py : Calls Try.prog 12 #[.agg C, .agg #[.int .i64 px, .int .i64 py]] u fun e w' => e = .returned (.int .i64 rp) ∧ Fr [] u w'))
  clear hrp
  have p0 : w4.cell? ⟨b2, 0, none⟩ = some (.int .i64 px) := cell_blk P4.out 0
  have p1 : w4.cell? ⟨b2, 1, none⟩ = some (.int .i64 py) := cell_blk P4.out 1
  go_wp2_with (refine wpList_loadB rfl 31 (Operand.tmp 9) rfl b1 16 rfl C 31 (0, 0) B4.out _ Try.underlying31 rfl HCS.out infoSetup ?_)
  refine (QRo.out w4 (Fr.refl _ _)).mono ?_
  rintro e w5 ⟨rfl, f5⟩
  have F5 := Lib.hid f5
  have C6 := Lib.hid (fun u (hu : Fr [] w5 u) => (by
    have h := cell_blk ((F5.out.trans hu (by simp [Ext])).blk B4.out (by simp)) 6
    rw [h, HC.out.c6, HS.out.map.rn] : u.cell? ⟨b1, 6, none⟩ = some (.slice s.ro rooms.length s.rc)))
  have c6 := C6.out w5 (Fr.refl _ _)
  have KP2 := Lib.hid (fun u (hu : Fr [] w5 u) => ((F5.out.trans hu (by simp [Ext])).blk P4.out (by simp) : u.heap[b2]? = some (.cells #[.int .i64 px, .int .i64 py] 29 (0, 0))))
  have d1 : decide (rp < -1) = false := decide_eq_false (by omega)
  have d2 : decide ((rooms.length : Int) ≤ rp) = false := decide_eq_false (by omega)
  clear f5 p0 p1
  go_upto_region 6 with fail
  clear d1 d2 c6
  go_wp2_with fail
  go_loopw [12] (fun iv wr => ∃ i : Nat, i ≤ rooms.length ∧ iv = .int .i64 (i : Int) ∧ Fr [] w5 wr) (fun iv _ => rooms.length - (intOf iv).toNat)
  case atStart => exact ⟨0, by omega, rfl, Fr.refl _ _⟩
  case round =>
    obtain ⟨i, hi, rfl, hf⟩ := hrel
    have HF := Lib.hid hf
    have c6 := C6.out wr hf
    clear hf
    by_cases hil : i < rooms.length
    · have hili : (i : Int) < (rooms.length : Int) := by omega
      obtain ⟨g, off, hro, hg, k0, k1, k2, k3⟩ := (HS.out.mapu ((F4.out.trans F5.out (by simp [Ext])).trans HF.out (by simp [Ext]))).rr.room hil
      obtain ⟨b, hb⟩ : ∃ b, b = rooms[i] := ⟨_, rfl⟩
      have HOK := Lib.hid (by rw [hb]; exact HS.out.rok _ (List.getElem_mem hil) : boxOk b)
      have HIB := Lib.hid (by rw [hb] : inBx b px py = inBx rooms[i] px py)
      rw [← hb] at k0 k1 k2 k3
      obtain ⟨x0, hx0⟩ : ∃ x0, x0 = b.x0 := ⟨_, rfl⟩
      obtain ⟨y0, hy0⟩ : ∃ y0, y0 = b.y0 := ⟨_, rfl⟩
      obtain ⟨x1, hx1⟩ : ∃ x1, x1 = b.x1 := ⟨_, rfl⟩
      obtain ⟨y1, hy1⟩ : ∃ y1, y1 = b.y1 := ⟨_, rfl⟩
      have HCI := Lib.hid (by rw [hx0, hx1, hy0, hy1]; exact clamp_in b px py HOK.out : ((clampI px x0 x1 == px) && (clampI py y0 y1 == py)) = inBx b px py)
      rw [← hx0] at k0
      rw [← hy0] at k1
      rw [← hx1] at k2
      rw [← hy1] at k3
      have HRO := Lib.hid hro
      rw [hro] at c6
      clear hb hx0 hy0 hx1 hy1 hro
      go_upto_region 10 with fail
      obtain ⟨wb, hwb⟩ : ∃ wb, wb = wr.alloc (.cells #[.int .i64 x0, .int .i64 y0, .int .i64 x1, .int .i64 y1] 25) := ⟨_, rfl⟩
      obtain ⟨b13, hb13⟩ : ∃ b13, b13 = wr.heap.size := ⟨_, rfl⟩
      have BX := Lib.hid (by rw [hwb, hb13]; exact alloc_new wr _ : wb.heap[b13]? = some (.cells #[.int .i64 x0, .int .i64 y0, .int .i64 x1, .int .i64 y1] 25 (0, 0)))
      have HWB := Lib.hid (by rw [hwb]; exact HF.out.alloc _ : Fr [] w5 wb)
      rw [← hwb, ← hb13]
      clear hwb hb13 k0 k1 k2 k3 c6
      go_cut [14] (fun s14 wc => s14 = .bool (inBx b px py) ∧ Fr [] wb wc)
      case first =>
        have K10 := Lib.hid (fun u (hu : Fr [] wb u) => (⟨cell_blk (KP2.out u (HWB.out.trans hu (by simp [Ext]))) 0, cell_blk (KP2.out u (HWB.out.trans hu (by simp [Ext]))) 1, cell_blk (hu.blk BX.out (by simp)) 0, cell_blk (hu.blk BX.out (by simp)) 1, cell_blk (hu.blk BX.out (by simp)) 2, cell_blk (hu.blk BX.out (by simp)) 3⟩ :
          u.cell? ⟨b2, 0, none⟩ = some (.int .i64 px) ∧ u.cell? ⟨b2, 1, none⟩ = some (.int .i64 py) ∧ u.cell? ⟨b13, 0, none⟩ = some (.int .i64 x0) ∧ u.cell? ⟨b13, 1, none⟩ = some (.int .i64 y0) ∧ u.cell? ⟨b13, 2, none⟩ = some (.int .i64 x1) ∧ u.cell? ⟨b13, 3, none⟩ = some (.int .i64 y1)))
        have QC1 := Lib.hid (fun u => clamp_any u px x0 x1)
        have QC2 := Lib.hid (fun u => clamp_any u py y0 y1)
        obtain ⟨c1, hc1⟩ : ∃ c1, c1 = clampI px x0 x1 := ⟨_, rfl⟩
        obtain ⟨c2, hc2⟩ : ∃ c2, c2 = clampI py y0 y1 := ⟨_, rfl⟩
        rw [← hc1] at QC1 HCI
        rw [← hc2] at QC2 HCI
        have HDr := Lib.hid ((Fr.refl [] wb).drew)
        clear hc1 hc2
        cases e1 : (c1 == px)
        · have HIN := Lib.hid (by rw [← HCI.out, e1]; rfl : inBx b px py = false)
          clear HCI
          refine wp_region_held_drew (S := fun u => u.cell? ⟨b2, 0, none⟩ = some (.int .i64 px) ∧ u.cell? ⟨b2, 1, none⟩ = some (.int .i64 py) ∧ u.cell? ⟨b13, 0, none⟩ = some (.int .i64 x0) ∧ u.cell? ⟨b13, 1, none⟩ = some (.int .i64 y0) ∧ u.cell? ⟨b13, 2, none⟩ = some (.int .i64 x1) ∧ u.cell? ⟨b13, 3, none⟩ = some (.int .i64 y1)) (by kernel_rfl) (K10.out _ HDr.out) (fun hHeld => ?_)
          refine wpAnyH_takeL (i := 0) (v := _) rfl (by kernel_rfl) (by kernel_rfl) (by kernel_rfl) (fun _ _ _ h => h) (Or.inl ⟨by rfl, (by intro w' hSw; (try dsimp only at hSw); obtain ⟨g0, g1, g2, g3, g4, g5⟩ := hSw; go_simp; try with_reducible rfl)⟩) (by assumption) ?_
          try simp only [Act.put, List.setIfInBounds_toArray, List.set_cons_zero, List.set_cons_succ]
          refine wpAnyH_takeL (i := 1) (v := _) rfl (by kernel_rfl) (by kernel_rfl) (by kernel_rfl) (fun _ _ _ h => h) (Or.inl ⟨by rfl, (by intro w' hSw; (try dsimp only at hSw); obtain ⟨g0, g1, g2, g3, g4, g5⟩ := hSw; go_simp; try with_reducible rfl)⟩) (by assumption) ?_
          try simp only [Act.put, List.setIfInBounds_toArray, List.set_cons_zero, List.set_cons_succ]
          refine wpAnyH_takeL (i := 2) (v := _) rfl (by kernel_rfl) (by kernel_rfl) (by kernel_rfl) (fun _ _ _ h => h) (Or.inl ⟨by rfl, (by intro w' hSw; (try dsimp only at hSw); obtain ⟨g0, g1, g2, g3, g4, g5⟩ := hSw; go_simp; try with_reducible rfl)⟩) (by assumption) ?_
          try simp only [Act.put, List.setIfInBounds_toArray, List.set_cons_zero, List.set_cons_succ]
          refine wpAnyH_takeL (i := 3) (v := _) rfl (by kernel_rfl) (by kernel_rfl) (by kernel_rfl) (fun _ _ _ h => h) (Or.inl ⟨by rfl, (by intro w' hSw; (try dsimp only at hSw); obtain ⟨g0, g1, g2, g3, g4, g5⟩ := hSw; go_simp; try with_reducible rfl)⟩) (by assumption) ?_
          try simp only [Act.put, List.setIfInBounds_toArray, List.set_cons_zero, List.set_cons_succ]
          refine wpAnyH_takeL (i := 4) (v := _) rfl (by kernel_rfl) (by kernel_rfl) (by kernel_rfl) (fun _ _ _ h => h) (Or.inl ⟨by rfl, (by intro w' hSw; (try dsimp only at hSw); obtain ⟨g0, g1, g2, g3, g4, g5⟩ := hSw; go_simp; try with_reducible rfl)⟩) (by assumption) ?_
          try simp only [Act.put, List.setIfInBounds_toArray, List.set_cons_zero, List.set_cons_succ]
          refine wpAnyH_takeL (i := 5) (v := _) rfl (by kernel_rfl) (by kernel_rfl) (by kernel_rfl) (fun _ _ _ h => h) (Or.inl ⟨by rfl, (by intro w' hSw; (try dsimp only at hSw); obtain ⟨g0, g1, g2, g3, g4, g5⟩ := hSw; go_simp; try with_reducible rfl)⟩) (by assumption) ?_
          try simp only [Act.put, List.setIfInBounds_toArray, List.set_cons_zero, List.set_cons_succ]
          refine wpAnyH_takeL (i := 7) (v := _) rfl (by kernel_rfl) (by kernel_rfl) (by kernel_rfl) (fun _ _ _ h => h) (Or.inl ⟨by rfl, (by intro w' hSw; (try dsimp only at hSw); obtain ⟨g0, g1, g2, g3, g4, g5⟩ := hSw; go_simp; try with_reducible rfl)⟩) (by assumption) ?_
          try simp only [Act.put, List.setIfInBounds_toArray, List.set_cons_zero, List.set_cons_succ]
          refine wpAnyH_takeL (i := 8) (v := _) rfl (by kernel_rfl) (by kernel_rfl) (by kernel_rfl) (fun _ _ _ h => h) (Or.inl ⟨by rfl, (by intro w' hSw; (try dsimp only at hSw); obtain ⟨g0, g1, g2, g3, g4, g5⟩ := hSw; go_simp; try with_reducible rfl)⟩) (by assumption) ?_
          try simp only [Act.put, List.setIfInBounds_toArray, List.set_cons_zero, List.set_cons_succ]
          refine wpAnyH_ready (rs := [6]) (by kernel_rfl) (by simp) ?_
          refine AllReadyH.consL (i := 6) rfl (fun K hK => ?_) AllReadyH.nil
          go_simp
          (refine (QC1.out _).mono ?_; rintro e wG ⟨rfl, hwG⟩; have HG := Lib.hid (by rw [← hwG]; exact HDr.out : Fr [] wb wG); clear hwG)
          refine hK.out _ _ (K10.out _ HG.out) (fun hHeld => ?_)
          clear hK K
          try simp only [Act.put, List.setIfInBounds_toArray, List.set_cons_zero, List.set_cons_succ]
          refine wpAnyH_takeL (i := 9) (v := _) rfl (by kernel_rfl) (by kernel_rfl) (by kernel_rfl) (fun _ _ _ h => h) (Or.inl ⟨by rfl, (by intro w' hSw; (try dsimp only at hSw); obtain ⟨g0, g1, g2, g3, g4, g5⟩ := hSw; go_simp; try with_reducible rfl)⟩) (by assumption) ?_
          try simp only [Act.put, List.setIfInBounds_toArray, List.set_cons_zero, List.set_cons_succ]
          refine wpAnyH_takeL (i := 10) (v := _) rfl (by kernel_rfl) (by kernel_rfl) (by kernel_rfl) (fun _ _ _ h => h) (Or.inl ⟨by rfl, (by intro w' hSw; (try dsimp only at hSw); obtain ⟨g0, g1, g2, g3, g4, g5⟩ := hSw; go_simp; try with_reducible rfl)⟩) (by assumption) ?_
          try simp only [Act.put, List.setIfInBounds_toArray, List.set_cons_zero, List.set_cons_succ]
          refine wpAnyH_takeL (i := 11) (v := undef) rfl (by kernel_rfl) (by kernel_rfl) (by kernel_rfl) (fun _ _ _ h => h) (Or.inr ⟨by rfl, rfl⟩) (by assumption) ?_
          try simp only [Act.put, List.setIfInBounds_toArray, List.set_cons_zero, List.set_cons_succ]
          refine wpAnyH_takeL (i := 12) (v := undef) rfl (by kernel_rfl) (by kernel_rfl) (by kernel_rfl) (fun _ _ _ h => h) (Or.inr ⟨by rfl, rfl⟩) (by assumption) ?_
          try simp only [Act.put, List.setIfInBounds_toArray, List.set_cons_zero, List.set_cons_succ]
          refine wpAnyH_takeL (i := 13) (v := undef) rfl (by kernel_rfl) (by kernel_rfl) (by kernel_rfl) (fun _ _ _ h => h) (Or.inr ⟨by rfl, rfl⟩) (by assumption) ?_
          try simp only [Act.put, List.setIfInBounds_toArray, List.set_cons_zero, List.set_cons_succ]
          refine wpAnyH_takeL (i := 14) (v := undef) rfl (by kernel_rfl) (by kernel_rfl) (by kernel_rfl) (fun _ _ _ h => h) (Or.inr ⟨by rfl, rfl⟩) (by assumption) ?_
          try simp only [Act.put, List.setIfInBounds_toArray, List.set_cons_zero, List.set_cons_succ]
          refine wpAnyH_takeL (i := 15) (v := undef) rfl (by kernel_rfl) (by kernel_rfl) (by kernel_rfl) (fun _ _ _ h => h) (Or.inr ⟨by rfl, rfl⟩) (by assumption) ?_
          try simp only [Act.put, List.setIfInBounds_toArray, List.set_cons_zero, List.set_cons_succ]
          refine wpAnyH_takeL (i := 16) (v := undef) rfl (by kernel_rfl) (by kernel_rfl) (by kernel_rfl) (fun _ _ _ h => h) (Or.inr ⟨by rfl, rfl⟩) (by assumption) ?_
          try simp only [Act.put, List.setIfInBounds_toArray, List.set_cons_zero, List.set_cons_succ]
          refine wpAnyH_takeL (i := 17) (v := undef) rfl (by kernel_rfl) (by kernel_rfl) (by kernel_rfl) (fun _ _ _ h => h) (Or.inr ⟨by rfl, rfl⟩) (by assumption) ?_
          try simp only [Act.put, List.setIfInBounds_toArray, List.set_cons_zero, List.set_cons_succ]
          refine wpAnyH_takeL (i := 18) (v := undef) rfl (by kernel_rfl) (by kernel_rfl) (by kernel_rfl) (fun _ _ _ h => h) (Or.inr ⟨by rfl, rfl⟩) (by assumption) ?_
          try simp only [Act.put, List.setIfInBounds_toArray, List.set_cons_zero, List.set_cons_succ]
          refine wpAnyH_takeL (i := 19) (v := undef) rfl (by kernel_rfl) (by kernel_rfl) (by kernel_rfl) (fun _ _ _ h => h) (Or.inr ⟨by rfl, rfl⟩) (by assumption) ?_
          try simp only [Act.put, List.setIfInBounds_toArray, List.set_cons_zero, List.set_cons_succ]
          refine wpAnyH_takeL (i := 20) (v := undef) rfl (by kernel_rfl) (by kernel_rfl) (by kernel_rfl) (fun _ _ _ h => h) (Or.inr ⟨by rfl, rfl⟩) (by assumption) ?_
          try simp only [Act.put, List.setIfInBounds_toArray, List.set_cons_zero, List.set_cons_succ]
          refine wpAnyH_takeL (i := 21) (v := _) rfl (by kernel_rfl) (by kernel_rfl) (by kernel_rfl) (fun _ _ _ h => h) (Or.inl ⟨by rfl, (by intro w' hSw; (try dsimp only at hSw); obtain ⟨g0, g1, g2, g3, g4, g5⟩ := hSw; go_simp; try with_reducible rfl)⟩) (by assumption) ?_
          try simp only [Act.put, List.setIfInBounds_toArray, List.set_cons_zero, List.set_cons_succ]
          refine wpAnyH_takeL (i := 22) (v := _) rfl (by kernel_rfl) (by kernel_rfl) (by kernel_rfl) (fun _ _ _ h => h) (Or.inl ⟨by rfl, (by intro w' hSw; (try dsimp only at hSw); obtain ⟨g0, g1, g2, g3, g4, g5⟩ := hSw; go_simp; try with_reducible rfl)⟩) (by assumption) ?_
          try simp only [Act.put, List.setIfInBounds_toArray, List.set_cons_zero, List.set_cons_succ]
          refine wpAnyH_done (by kernel_rfl) ?_ _
          go_wp2_with fail
          go_meet
          exact ⟨by rw [HIN.out], HG.out⟩
        · cases e2 : (c2 == py)
          all_goals
            have HIN := Lib.hid (by rw [← HCI.out, e1, Bool.true_and] : inBx b px py = (c2 == py))
            clear HCI
            refine wp_region_held_drew (S := fun u => u.cell? ⟨b2, 0, none⟩ = some (.int .i64 px) ∧ u.cell? ⟨b2, 1, none⟩ = some (.int .i64 py) ∧ u.cell? ⟨b13, 0, none⟩ = some (.int .i64 x0) ∧ u.cell? ⟨b13, 1, none⟩ = some (.int .i64 y0) ∧ u.cell? ⟨b13, 2, none⟩ = some (.int .i64 x1) ∧ u.cell? ⟨b13, 3, none⟩ = some (.int .i64 y1)) (by kernel_rfl) (K10.out _ HDr.out) (fun hHeld => ?_)
            refine wpAnyH_takeL (i := 0) (v := _) rfl (by kernel_rfl) (by kernel_rfl) (by kernel_rfl) (fun _ _ _ h => h) (Or.inl ⟨by rfl, (by intro w' hSw; (try dsimp only at hSw); obtain ⟨g0, g1, g2, g3, g4, g5⟩ := hSw; go_simp; try with_reducible rfl)⟩) (by assumption) ?_
            try simp only [Act.put, List.setIfInBounds_toArray, List.set_cons_zero, List.set_cons_succ]
            refine wpAnyH_takeL (i := 1) (v := _) rfl (by kernel_rfl) (by kernel_rfl) (by kernel_rfl) (fun _ _ _ h => h) (Or.inl ⟨by rfl, (by intro w' hSw; (try dsimp only at hSw); obtain ⟨g0, g1, g2, g3, g4, g5⟩ := hSw; go_simp; try with_reducible rfl)⟩) (by assumption) ?_
            try simp only [Act.put, List.setIfInBounds_toArray, List.set_cons_zero, List.set_cons_succ]
            refine wpAnyH_takeL (i := 2) (v := _) rfl (by kernel_rfl) (by kernel_rfl) (by kernel_rfl) (fun _ _ _ h => h) (Or.inl ⟨by rfl, (by intro w' hSw; (try dsimp only at hSw); obtain ⟨g0, g1, g2, g3, g4, g5⟩ := hSw; go_simp; try with_reducible rfl)⟩) (by assumption) ?_
            try simp only [Act.put, List.setIfInBounds_toArray, List.set_cons_zero, List.set_cons_succ]
            refine wpAnyH_takeL (i := 3) (v := _) rfl (by kernel_rfl) (by kernel_rfl) (by kernel_rfl) (fun _ _ _ h => h) (Or.inl ⟨by rfl, (by intro w' hSw; (try dsimp only at hSw); obtain ⟨g0, g1, g2, g3, g4, g5⟩ := hSw; go_simp; try with_reducible rfl)⟩) (by assumption) ?_
            try simp only [Act.put, List.setIfInBounds_toArray, List.set_cons_zero, List.set_cons_succ]
            refine wpAnyH_takeL (i := 4) (v := _) rfl (by kernel_rfl) (by kernel_rfl) (by kernel_rfl) (fun _ _ _ h => h) (Or.inl ⟨by rfl, (by intro w' hSw; (try dsimp only at hSw); obtain ⟨g0, g1, g2, g3, g4, g5⟩ := hSw; go_simp; try with_reducible rfl)⟩) (by assumption) ?_
            try simp only [Act.put, List.setIfInBounds_toArray, List.set_cons_zero, List.set_cons_succ]
            refine wpAnyH_takeL (i := 5) (v := _) rfl (by kernel_rfl) (by kernel_rfl) (by kernel_rfl) (fun _ _ _ h => h) (Or.inl ⟨by rfl, (by intro w' hSw; (try dsimp only at hSw); obtain ⟨g0, g1, g2, g3, g4, g5⟩ := hSw; go_simp; try with_reducible rfl)⟩) (by assumption) ?_
            try simp only [Act.put, List.setIfInBounds_toArray, List.set_cons_zero, List.set_cons_succ]
            refine wpAnyH_takeL (i := 7) (v := _) rfl (by kernel_rfl) (by kernel_rfl) (by kernel_rfl) (fun _ _ _ h => h) (Or.inl ⟨by rfl, (by intro w' hSw; (try dsimp only at hSw); obtain ⟨g0, g1, g2, g3, g4, g5⟩ := hSw; go_simp; try with_reducible rfl)⟩) (by assumption) ?_
            try simp only [Act.put, List.setIfInBounds_toArray, List.set_cons_zero, List.set_cons_succ]
            refine wpAnyH_takeL (i := 8) (v := _) rfl (by kernel_rfl) (by kernel_rfl) (by kernel_rfl) (fun _ _ _ h => h) (Or.inl ⟨by rfl, (by intro w' hSw; (try dsimp only at hSw); obtain ⟨g0, g1, g2, g3, g4, g5⟩ := hSw; go_simp; try with_reducible rfl)⟩) (by assumption) ?_
            try simp only [Act.put, List.setIfInBounds_toArray, List.set_cons_zero, List.set_cons_succ]
            refine wpAnyH_ready (rs := [6]) (by kernel_rfl) (by simp) ?_
            refine AllReadyH.consL (i := 6) rfl (fun K hK => ?_) AllReadyH.nil
            go_simp
            (refine (QC1.out _).mono ?_; rintro e wG ⟨rfl, hwG⟩; have HG := Lib.hid (by rw [← hwG]; exact HDr.out : Fr [] wb wG); clear hwG)
            refine hK.out _ _ (K10.out _ HG.out) (fun hHeld => ?_)
            clear hK K
            try simp only [Act.put, List.setIfInBounds_toArray, List.set_cons_zero, List.set_cons_succ]
            refine wpAnyH_takeL (i := 9) (v := _) rfl (by kernel_rfl) (by kernel_rfl) (by kernel_rfl) (fun _ _ _ h => h) (Or.inl ⟨by rfl, (by intro w' hSw; (try dsimp only at hSw); obtain ⟨g0, g1, g2, g3, g4, g5⟩ := hSw; go_simp; try with_reducible rfl)⟩) (by assumption) ?_
            try simp only [Act.put, List.setIfInBounds_toArray, List.set_cons_zero, List.set_cons_succ]
            refine wpAnyH_takeL (i := 10) (v := _) rfl (by kernel_rfl) (by kernel_rfl) (by kernel_rfl) (fun _ _ _ h => h) (Or.inl ⟨by rfl, (by intro w' hSw; (try dsimp only at hSw); obtain ⟨g0, g1, g2, g3, g4, g5⟩ := hSw; go_simp; try with_reducible rfl)⟩) (by assumption) ?_
            try simp only [Act.put, List.setIfInBounds_toArray, List.set_cons_zero, List.set_cons_succ]
            refine wpAnyH_takeL (i := 11) (v := _) rfl (by kernel_rfl) (by kernel_rfl) (by kernel_rfl) (fun _ _ _ h => h) (Or.inl ⟨by rfl, (by intro w' hSw; (try dsimp only at hSw); obtain ⟨g0, g1, g2, g3, g4, g5⟩ := hSw; go_simp; try with_reducible rfl)⟩) (by assumption) ?_
            try simp only [Act.put, List.setIfInBounds_toArray, List.set_cons_zero, List.set_cons_succ]
            refine wpAnyH_takeL (i := 12) (v := _) rfl (by kernel_rfl) (by kernel_rfl) (by kernel_rfl) (fun _ _ _ h => h) (Or.inl ⟨by rfl, (by intro w' hSw; (try dsimp only at hSw); obtain ⟨g0, g1, g2, g3, g4, g5⟩ := hSw; go_simp; try with_reducible rfl)⟩) (by assumption) ?_
            try simp only [Act.put, List.setIfInBounds_toArray, List.set_cons_zero, List.set_cons_succ]
            refine wpAnyH_takeL (i := 13) (v := _) rfl (by kernel_rfl) (by kernel_rfl) (by kernel_rfl) (fun _ _ _ h => h) (Or.inl ⟨by rfl, (by intro w' hSw; (try dsimp only at hSw); obtain ⟨g0, g1, g2, g3, g4, g5⟩ := hSw; go_simp; try with_reducible rfl)⟩) (by assumption) ?_
            try simp only [Act.put, List.setIfInBounds_toArray, List.set_cons_zero, List.set_cons_succ]
            refine wpAnyH_takeL (i := 14) (v := _) rfl (by kernel_rfl) (by kernel_rfl) (by kernel_rfl) (fun _ _ _ h => h) (Or.inl ⟨by rfl, (by intro w' hSw; (try dsimp only at hSw); obtain ⟨g0, g1, g2, g3, g4, g5⟩ := hSw; go_simp; try with_reducible rfl)⟩) (by assumption) ?_
            try simp only [Act.put, List.setIfInBounds_toArray, List.set_cons_zero, List.set_cons_succ]
            refine wpAnyH_takeL (i := 15) (v := _) rfl (by kernel_rfl) (by kernel_rfl) (by kernel_rfl) (fun _ _ _ h => h) (Or.inl ⟨by rfl, (by intro w' hSw; (try dsimp only at hSw); obtain ⟨g0, g1, g2, g3, g4, g5⟩ := hSw; go_simp; try with_reducible rfl)⟩) (by assumption) ?_
            try simp only [Act.put, List.setIfInBounds_toArray, List.set_cons_zero, List.set_cons_succ]
            refine wpAnyH_takeL (i := 16) (v := _) rfl (by kernel_rfl) (by kernel_rfl) (by kernel_rfl) (fun _ _ _ h => h) (Or.inl ⟨by rfl, (by intro w' hSw; (try dsimp only at hSw); obtain ⟨g0, g1, g2, g3, g4, g5⟩ := hSw; go_simp; try with_reducible rfl)⟩) (by assumption) ?_
            try simp only [Act.put, List.setIfInBounds_toArray, List.set_cons_zero, List.set_cons_succ]
            refine wpAnyH_takeL (i := 18) (v := _) rfl (by kernel_rfl) (by kernel_rfl) (by kernel_rfl) (fun _ _ _ h => h) (Or.inl ⟨by rfl, (by intro w' hSw; (try dsimp only at hSw); obtain ⟨g0, g1, g2, g3, g4, g5⟩ := hSw; go_simp; try with_reducible rfl)⟩) (by assumption) ?_
            try simp only [Act.put, List.setIfInBounds_toArray, List.set_cons_zero, List.set_cons_succ]
            refine wpAnyH_takeL (i := 19) (v := _) rfl (by kernel_rfl) (by kernel_rfl) (by kernel_rfl) (fun _ _ _ h => h) (Or.inl ⟨by rfl, (by intro w' hSw; (try dsimp only at hSw); obtain ⟨g0, g1, g2, g3, g4, g5⟩ := hSw; go_simp; try with_reducible rfl)⟩) (by assumption) ?_
            try simp only [Act.put, List.setIfInBounds_toArray, List.set_cons_zero, List.set_cons_succ]
            refine wpAnyH_ready (rs := [17]) (by kernel_rfl) (by simp) ?_
            refine AllReadyH.consL (i := 17) rfl (fun K hK => ?_) AllReadyH.nil
            go_simp
            (refine (QC2.out _).mono ?_; rintro e wH ⟨rfl, hwH⟩; have HH := Lib.hid (by rw [← hwH]; exact HG.out : Fr [] wb wH); clear hwH)
            refine hK.out _ _ (K10.out _ HH.out) (fun hHeld => ?_)
            clear hK K
            try simp only [Act.put, List.setIfInBounds_toArray, List.set_cons_zero, List.set_cons_succ]
            refine wpAnyH_takeL (i := 20) (v := _) rfl (by kernel_rfl) (by kernel_rfl) (by kernel_rfl) (fun _ _ _ h => h) (Or.inl ⟨by rfl, (by intro w' hSw; (try dsimp only at hSw); obtain ⟨g0, g1, g2, g3, g4, g5⟩ := hSw; go_simp; try with_reducible rfl)⟩) (by assumption) ?_
            try simp only [Act.put, List.setIfInBounds_toArray, List.set_cons_zero, List.set_cons_succ]
            refine wpAnyH_takeL (i := 21) (v := _) rfl (by kernel_rfl) (by kernel_rfl) (by kernel_rfl) (fun _ _ _ h => h) (Or.inl ⟨by rfl, (by intro w' hSw; (try dsimp only at hSw); obtain ⟨g0, g1, g2, g3, g4, g5⟩ := hSw; go_simp; try with_reducible rfl)⟩) (by assumption) ?_
            try simp only [Act.put, List.setIfInBounds_toArray, List.set_cons_zero, List.set_cons_succ]
            refine wpAnyH_takeL (i := 22) (v := _) rfl (by kernel_rfl) (by kernel_rfl) (by kernel_rfl) (fun _ _ _ h => h) (Or.inl ⟨by rfl, (by intro w' hSw; (try dsimp only at hSw); obtain ⟨g0, g1, g2, g3, g4, g5⟩ := hSw; go_simp; try with_reducible rfl)⟩) (by assumption) ?_
            try simp only [Act.put, List.setIfInBounds_toArray, List.set_cons_zero, List.set_cons_succ]
            refine wpAnyH_done (by kernel_rfl) ?_ _
            go_wp2_with fail
            go_meet
            exact ⟨by rw [HIN.out, e2], HH.out⟩
      case rest =>
        obtain ⟨rfl, hfc⟩ := hcut
        have HFC := Lib.hid (HWB.out.trans hfc (by simp [Ext]))
        have HIN := Lib.hid (HIB.out)
        clear hfc
        obtain ⟨t, ht⟩ : ∃ t, t = inBx b px py := ⟨_, rfl⟩
        have HT := Lib.hid (ht.trans HIN.out)
        rw [← ht]
        clear ht
        by_cases h0 : rp < 0
        · have d0 : decide (rp < 0) = true := decide_eq_true h0
          have ei : ((i : Int) == rp) = false := beq_eq_false_iff_ne.2 (by omega)
          obtain rfl : false = t := by rw [HT.out]; exact (room_lo rooms px py hil (.inr (by rw [← HRP.out]; exact h0))).symm
          clear h0
          go_wp2_with fail
          go_roundw
          case rel => exact ⟨i + 1, by omega, by go_num, HFC.out⟩
          case measure => simp [intOf]; omega
        · have d0 : decide (rp < 0) = false := decide_eq_false h0
          by_cases h1 : (i : Int) < rp
          · have ei : ((i : Int) == rp) = false := beq_eq_false_iff_ne.2 (by omega)
            obtain rfl : false = t := by rw [HT.out]; exact (room_lo rooms px py hil (.inl (by rw [← HRP.out]; exact h1))).symm
            clear h0 h1
            go_wp2_with fail
            go_roundw
            case rel => exact ⟨i + 1, by omega, by go_num, HFC.out⟩
            case measure => simp [intOf]; omega
          · have d1 : decide ((i : Int) < rp) = false := decide_eq_false h1
            by_cases h2 : (i : Int) = rp
            · have ei : ((i : Int) == rp) = true := beq_iff_eq.2 h2
              obtain rfl : true = t := by rw [HT.out]; exact (room_at rooms px py hil (by rw [← HRP.out]; exact h2)).symm
              clear h0 h1 h2
              go_wp2_with fail
              go_roundw
              case rel => exact ⟨i + 1, by omega, by go_num, HFC.out⟩
              case measure => simp [intOf]; omega
            · have ei : ((i : Int) == rp) = false := beq_eq_false_iff_ne.2 h2
              clear h0 h1 h2 HT
              cases t
              all_goals
                go_wp2_with fail
                go_roundw
                case rel => exact ⟨i + 1, by omega, by go_num, HFC.out⟩
                case measure => simp [intOf]; omega
    · have hie : i = rooms.length := by omega
      obtain ⟨K, hK⟩ : ∃ K : Nat, rp + 1 = (K : Int) := ⟨(rp + 1).toNat, by omega⟩
      have HKE := Lib.hid hK
      have hKl : K ≤ rooms.length := by omega
      have hKc : K ≤ s.rc := by have := HS.out.rfit; omega
      have HBR := Lib.hid ((F5.out.trans HF.out (by simp [Ext])).blk B4.out (by simp))
      have hsl := run_slice_to (P := Try.prog) 26 25 Try.underlying26 4 (by kernel_rfl) s.ro rooms.length s.rc K hKc
      obtain ⟨b15, hb15⟩ : ∃ b15, b15 = wr.heap.size := ⟨_, rfl⟩
      have HB15 := Lib.hid hb15
      have HC7 := Lib.hid HC.out.c7
      have HC6 := Lib.hid (by rw [HC.out.c6, HS.out.map.rn] : C[6]? = some (.slice s.ro rooms.length s.rc))
      clear hb15 hie hK
      go_upto_region 14 with (first | (refine wpList_loadB rfl 31 (Operand.tmp 9) rfl b1 16 rfl C 31 (0, 0) HBR.out _ Try.underlying31 rfl HCS.out infoSetup ?_) | (refine wpList_storeB rfl 31 (Operand.tmp 15) (Operand.tmp 87) rfl wr.heap.size 16 C rfl rfl _ 31 (by exact alloc_new _ _) rfl HCS.out infoSetup HO.out ?_; intro w6 hb6 hf6; have F6 := Lib.hid (((Fr.refl [] wr).alloc _).trans hf6 (fun k hk => .inr (by simp at hk; omega))); have B6 := Lib.hid (by rw [HB15.out]; exact hb6 : w6.heap[b15]? = some (.cells C 31 (0, 0))); clear hb6 hf6))
      rw [← HB15.out]
      have q7 : w6.cell? ⟨b15, 7, none⟩ = some (.slice s.dO s.dn s.dc) := (cell_blk B6.out 7).trans HC7.out
      have y7 : w6.frozen? ⟨b15, 7, none⟩ = false := frozen_blk B6.out 7
      go_upto_region 15 with fail
      obtain ⟨w7, hw7⟩ : ∃ w7, w7 = w6.setCell ⟨b15, 7, none⟩ (.slice none 0 0) := ⟨_, rfl⟩
      have B7 := Lib.hid (by rw [hw7]; exact setCell_blk B6.out 7 _ : w7.heap[b15]? = some (.cells (C.setIfInBounds 7 (.slice none 0 0)) 31 (0, 0)))
      have F7 := Lib.hid (by rw [hw7]; exact F6.out.setCell (p := ⟨b15, 7, none⟩) (.inr (by rw [HB15.out]; exact Nat.le_refl _)) _ : Fr [] wr w7)
      rw [← hw7]
      clear hw7 q7 y7
      have q6 : w7.cell? ⟨b15, 6, none⟩ = some (.slice s.ro rooms.length s.rc) := (cell_blk B7.out 6).trans (by rw [Array.getElem?_setIfInBounds_ne (by omega)]; exact HC6.out)
      have y6 : w7.frozen? ⟨b15, 6, none⟩ = false := frozen_blk B7.out 6
      have c6 : w7.cell? ⟨b1, 6, none⟩ = some (.slice s.ro rooms.length s.rc) := C6.out w7 (HF.out.trans F7.out (by simp [Ext]))
      have hK := HKE.out
      go_upto_region 16 with fail
      clear hK hsl q6 y6 c6
      obtain ⟨C2, hC2⟩ : ∃ C2, C2 = (C.setIfInBounds 7 (.slice none 0 0)).setIfInBounds 6 (.slice s.ro K s.rc) := ⟨_, rfl⟩
      obtain ⟨w8, hw8⟩ : ∃ w8, w8 = w7.setCell ⟨b15, 6, none⟩ (.slice s.ro K s.rc) := ⟨_, rfl⟩
      have B8 := Lib.hid (by rw [hw8, hC2]; exact setCell_blk B7.out 6 _ : w8.heap[b15]? = some (.cells C2 31 (0, 0)))
      have F8 := Lib.hid (by rw [hw8]; exact F7.out.setCell (p := ⟨b15, 6, none⟩) (.inr (by rw [HB15.out]; exact Nat.le_refl _)) _ : Fr [] wr w8)
      have HCS2 := Lib.hid (by rw [hC2, Array.size_setIfInBounds, Array.size_setIfInBounds]; exact HCS.out : C2.size = 16)
      have HV2 := Lib.hid (by
        have h := HV.out
        unfold St.val at h
        injection h with h
        rw [hC2, ← h]; rfl : (sd (sr s s.ro K s.rc) none 0 0).val = .agg C2)
      rw [← hw8]
      have hall : Fr [] w4 w8 := (F5.out.trans HF.out (by simp [Ext])).trans F8.out (by simp [Ext])
      have HALL := Lib.hid hall
      have QR2 := Lib.hid (by
        have hm := HS.out.mapu (F4.out.trans hall (by simp [Ext]))
        have h := room_any w8 (sd (sr s s.ro K s.rc) none 0 0) (rooms.take K) [] ⟨by show K = _; rw [List.length_take]; omega, rfl, by have h := hm.rr.takeB rfl hKl; rw [show (rooms.take K).length = K by rw [List.length_take]; omega]; exact h, ⟨by simp, by simp, .inl rfl⟩⟩ px py
        rw [HV2.out, room_take rooms px py K (by rw [← HRP.out]; exact HKE.out.symm), ← HRP.out] at h
        exact h : Calls Try.prog 12 #[.agg C2, .agg #[.int .i64 px, .int .i64 py]] w8 fun e w' => e = .returned (.int .i64 rp) ∧ Fr [] w8 w')
      have p0 : w8.cell? ⟨b2, 0, none⟩ = some (.int .i64 px) := cell_blk (hall.blk P4.out (by simp)) 0
      have p1 : w8.cell? ⟨b2, 1, none⟩ = some (.int .i64 py) := cell_blk (hall.blk P4.out (by simp)) 1
      clear hw8 hC2 hall
      go_wp2_with (refine wpList_loadB rfl 31 (Operand.tmp 15) rfl b15 16 rfl C2 31 (0, 0) B8.out _ Try.underlying31 rfl HCS2.out infoSetup ?_)
      refine QR2.out.mono ?_
      rintro e w9 ⟨rfl, f9⟩
      have F9 := Lib.hid f9
      clear f9 p0 p1
      go_wp2_with fail
      refine (lives_any _).mono ?_
      rintro e w10 ⟨rfl, f10⟩
      have F10 := Lib.hid ((((F1.out.trans F4.out (by simp [Ext])).trans HALL.out (by simp [Ext])).trans F9.out (by simp [Ext])).trans f10 (by simp [Ext]))
      clear f10
      go_wp2_with fail
      go_ret
      exact ⟨rfl, F10.out⟩
end Go.Proofs.Ytdbngpncigjfiaa
