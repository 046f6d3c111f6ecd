/- VisibilityRooms returns true (written by genlaw27.py). -/
import Derived.Test.YtdbngpncigjfiaaLaw27
namespace Go.Proofs.Ytdbngpncigjfiaa
open Go.RowKit

set_option maxRecDepth 100000 in
set_option maxHeartbeats 16000000 in
theorem vrooms_walk (w : World) (lo : Option Addr) (lc : Nat) (l : List Int) (hl : Srci w lo lc l) (mo : Option Addr) (mc : Nat) (m : List Int) (hm : Srci w mo mc m) (x y room : Int) (hx : bounded x) (hy : bounded y) :
    Calls Try.prog 3 #[.slice lo l.length lc, .slice mo m.length mc, .int .i64 x, .int .i64 y, .int .i64 room] w fun e w' => e = .returned (.bool true) ∧ Fr [] w w' := by
  have HSU := Lib.hid (set27_any w lo lc l hl.rd hl.bnd mo mc m hm.rd hm.bnd)
  have HPT := Lib.hid (fun u => point_any u x y hx hy)
  clear hl hm hx hy
  go_enter Try.func3, Try.ntmps3
  go_wp2_with fail
  refine HSU.out.mono ?_
  rintro e w1 ⟨s, bodies, rooms, doors, rfl, hs⟩
  have HS := Lib.hid hs
  have F1 := Lib.hid hs.fr
  have hr5 := hs.r5
  obtain ⟨C, hC⟩ := cAt s
  have HCS := Lib.hid hC.size
  have HV := Lib.hid hC.val
  have HC := Lib.hid hC
  have hCl : (Try.prog.info? 31).map (·.size) = some C.toList.length := by rw [Array.length_toList, hC.size]; exact infoSetup
  have HO := Lib.hid (by have h := hC.val; unfold St.val at h; injection h with h; rw [← h]; simp [Value.oneCell'] : C.all (·.oneCell') = true)
  obtain ⟨b1, hb1⟩ : ∃ b1, b1 = w1.heap.size := ⟨_, rfl⟩
  have HB1 := Lib.hid hb1
  rw [HV.out]
  have HCL0 := Lib.hid hCl
  clear hs hb1 hC HSU hCl
  go_upto_region 2 with (refine wpList_storeB rfl 31 (Operand.tmp 11) (Operand.tmp 16) rfl w1.heap.size 16 C rfl rfl _ 31 (by exact alloc_new _ _) rfl HCS.out infoSetup HO.out ?_; intro w2 hb2 hf2; have F2 := Lib.hid (((Fr.refl [] w1).alloc _).trans hf2 (fun k hk => .inr (by simp at hk; omega))); have B2 := Lib.hid (by rw [HB1.out]; exact hb2 : w2.heap[b1]? = some (.cells C 31 (0, 0))); clear hb2 hf2)
  rw [← HB1.out]
  go_wp2_with fail
  refine (HPT.out _).mono ?_
  rintro e w3 ⟨px, py, -, -, rfl, f3⟩
  have F3 := Lib.hid (F2.out.trans f3 (by simp [Ext]))
  have B3 := Lib.hid (f3.blk B2.out (by simp))
  clear f3 HPT
  go_upto_region 3 with fail
  obtain ⟨w4, hw4⟩ : ∃ w4, w4 = w3.alloc (.cells #[.int .i64 px, .int .i64 py] 29) := ⟨_, rfl⟩
  obtain ⟨b2, hb2⟩ : ∃ b2, b2 = w3.heap.size := ⟨_, rfl⟩
  have B4 := Lib.hid (by rw [hw4]; exact alloc_old B3.out : w4.heap[b1]? = some (.cells C 31 (0, 0)))
  have P4 := Lib.hid (by rw [hw4, hb2]; exact alloc_new w3 _ : w4.heap[b2]? = some (.cells #[.int .i64 px, .int .i64 py] 29 (0, 0)))
  have F4 := Lib.hid (by rw [hw4]; exact F3.out.alloc _ : Fr [] w1 w4)
  rw [← hw4, ← hb2]
  clear hw4 hb2 F3 B3
  have KEEP := Lib.hid (fun u (hu : Fr [] w4 u) => (⟨hu.blk B4.out (by simp), hu.blk P4.out (by simp)⟩ : u.heap[b1]? = some (.cells C 31 (0, 0)) ∧ u.heap[b2]? = some (.cells #[.int .i64 px, .int .i64 py] 29 (0, 0))))
  obtain ⟨rp, hrp⟩ : ∃ rp, rp = roomOf rooms px py := ⟨_, rfl⟩
  have QRo := Lib.hid (fun u (hu : Fr [] w4 u) => (by rw [← HV.out, hrp]; exact room_any u s rooms doors (HS.out.mapu (F4.out.trans hu (by simp [Ext]))) px py : Calls Try.prog 12 #[.agg C, .agg #[.int .i64 px, .int .i64 py]] u fun e w' => e = .returned (.int .i64 rp) ∧ Fr [] u w'))
  have QRR := Lib.hid (fun u (hu : Fr [] w4 u) => (by rw [← HV.out, hrp]; exact rroom_any u s rooms doors (HS.out.mapu (F4.out.trans hu (by simp [Ext]))) px py : Calls Try.prog 13 #[.agg C, .agg #[.int .i64 px, .int .i64 py]] u fun e w' => e = .returned (.int .i64 rp) ∧ Fr [] u w'))
  have QRs := Lib.hid (fun u (hu : Fr [] w4 u) k => (by rw [← HV.out]; exact rooms_any u s rooms doors (HS.out.mapu (F4.out.trans hu (by simp [Ext]))) HS.out.few k : Calls Try.prog 15 #[.agg C, .int .i64 k] u (IntsTo u (roomsVis rooms doors k))))
  have QRRs := Lib.hid (fun u (hu : Fr [] w4 u) k => (by rw [← HV.out]; exact rrooms_any u s rooms doors (HS.out.mapu (F4.out.trans hu (by simp [Ext]))) HS.out.few k : Calls Try.prog 16 #[.agg C, .int .i64 k] u (IntsTo u (roomsVis rooms doors k))))
  have hxx : (rp != rp) = false := by simp
  have HD := Lib.hid ((Fr.refl [] w4).drew)
  clear hrp
  refine wp_region_held_drew (S := fun u => u.heap[b1]? = some (.cells C 31 (0, 0)) ∧ u.heap[b2]? = some (.cells #[.int .i64 px, .int .i64 py] 29 (0, 0))) (by kernel_rfl) (KEEP.out _ HD.out) (fun hHeld => ?_)
  refine wpAnyH_takeL (i := 0) (v := (.agg C)) rfl (by kernel_rfl) (by kernel_rfl) (by kernel_rfl) (fun _ _ _ h => h) (yieldsIf_load_mid (by rfl) 31 (Operand.tmp 11) rfl b1 0 rfl C.toList _ (fun w' hw' => range_blk (c := C) hw'.1) Try.underlying31 rfl HCL0.out) (by assumption) ?_
  try simp only [Act.put, List.setIfInBounds_toArray, List.set_cons_zero, List.set_cons_succ]
  refine wpAnyH_takeL (i := 1) (v := (.agg #[.int .i64 px, .int .i64 py])) rfl (by kernel_rfl) (by kernel_rfl) (by kernel_rfl) (fun _ _ _ h => h) (yieldsIf_load_mid (by rfl) 29 (Operand.tmp 12) rfl b2 0 rfl [.int .i64 px, .int .i64 py] _ (fun w' hw' => range_blk (c := #[.int .i64 px, .int .i64 py]) hw'.2) Try.underlying29 rfl infoVec) (by assumption) ?_
  try simp only [Act.put, List.setIfInBounds_toArray, List.set_cons_zero, List.set_cons_succ]
  refine wpAnyH_takeL (i := 3) (v := (.agg C)) rfl (by kernel_rfl) (by kernel_rfl) (by kernel_rfl) (fun _ _ _ h => h) (yieldsIf_load_mid (by rfl) 31 (Operand.tmp 11) rfl b1 0 rfl C.toList _ (fun w' hw' => range_blk (c := C) hw'.1) Try.underlying31 rfl HCL0.out) (by assumption) ?_
  try simp only [Act.put, List.setIfInBounds_toArray, List.set_cons_zero, List.set_cons_succ]
  refine wpAnyH_takeL (i := 4) (v := (.agg #[.int .i64 px, .int .i64 py])) rfl (by kernel_rfl) (by kernel_rfl) (by kernel_rfl) (fun _ _ _ h => h) (yieldsIf_load_mid (by rfl) 29 (Operand.tmp 12) rfl b2 0 rfl [.int .i64 px, .int .i64 py] _ (fun w' hw' => range_blk (c := #[.int .i64 px, .int .i64 py]) hw'.2) Try.underlying29 rfl infoVec) (by assumption) ?_
  try simp only [Act.put, List.setIfInBounds_toArray, List.set_cons_zero, List.set_cons_succ]
  refine wpAnyH_ready (rs := [2]) (by kernel_rfl) (by simp) ?_
  refine AllReadyH.consL (i := 2) rfl (fun K hK => ?_) AllReadyH.nil
  go_simp
  (refine (QRo.out _ HD.out).mono ?_; rintro e wA ⟨rfl, fA⟩; have HA := Lib.hid (HD.out.trans fA (by simp [Ext])); clear fA)
  refine hK.out _ _ (KEEP.out _ HA.out) (fun hHeld => ?_)
  clear hK K
  try simp only [Act.put, List.setIfInBounds_toArray, List.set_cons_zero, List.set_cons_succ]
  refine wpAnyH_ready (rs := [5]) (by kernel_rfl) (by simp) ?_
  refine AllReadyH.consL (i := 5) rfl (fun K hK => ?_) AllReadyH.nil
  go_simp
  (refine (QRR.out _ HA.out).mono ?_; rintro e wB ⟨rfl, fB⟩; have HB := Lib.hid (HA.out.trans fB (by simp [Ext])); clear fB)
  refine hK.out _ _ (KEEP.out _ HB.out) (fun hHeld => ?_)
  clear hK K
  try simp only [Act.put, List.setIfInBounds_toArray, List.set_cons_zero, List.set_cons_succ]
  refine wpAnyH_takeL (i := 6) (v := _) rfl (by kernel_rfl) (by kernel_rfl) (by kernel_rfl) (fun _ _ _ h => h) (Or.inl ⟨by rfl, (by intro w' hSw; (try dsimp only at hSw); obtain ⟨-, -⟩ := hSw; go_simp; try with_reducible rfl)⟩) (by assumption) ?_
  try simp only [Act.put, List.setIfInBounds_toArray, List.set_cons_zero, List.set_cons_succ]
  refine wpAnyH_takeL (i := 7) (v := _) rfl (by kernel_rfl) (by kernel_rfl) (by kernel_rfl) (fun _ _ _ h => h) (Or.inl ⟨by rfl, (by intro w' hSw; (try dsimp only at hSw); obtain ⟨-, -⟩ := hSw; go_simp; try with_reducible rfl)⟩) (by assumption) ?_
  try simp only [Act.put, List.setIfInBounds_toArray, List.set_cons_zero, List.set_cons_succ]
  refine wpAnyH_takeL (i := 8) (v := (.agg C)) rfl (by kernel_rfl) (by kernel_rfl) (by kernel_rfl) (fun _ _ _ h => h) (yieldsIf_load_mid (by rfl) 31 (Operand.tmp 11) rfl b1 0 rfl C.toList _ (fun w' hw' => range_blk (c := C) hw'.1) Try.underlying31 rfl HCL0.out) (by assumption) ?_
  try simp only [Act.put, List.setIfInBounds_toArray, List.set_cons_zero, List.set_cons_succ]
  refine wpAnyH_takeL (i := 9) (v := _) rfl (by kernel_rfl) (by kernel_rfl) (by kernel_rfl) (fun _ _ _ h => h) (Or.inl ⟨by rfl, (by intro w' hSw; (try dsimp only at hSw); obtain ⟨-, -⟩ := hSw; go_simp; try with_reducible rfl)⟩) (by assumption) ?_
  try simp only [Act.put, List.setIfInBounds_toArray, List.set_cons_zero, List.set_cons_succ]
  refine wpAnyH_takeL (i := 11) (v := (.agg C)) rfl (by kernel_rfl) (by kernel_rfl) (by kernel_rfl) (fun _ _ _ h => h) (yieldsIf_load_mid (by rfl) 31 (Operand.tmp 11) rfl b1 0 rfl C.toList _ (fun w' hw' => range_blk (c := C) hw'.1) Try.underlying31 rfl HCL0.out) (by assumption) ?_
  try simp only [Act.put, List.setIfInBounds_toArray, List.set_cons_zero, List.set_cons_succ]
  refine wpAnyH_takeL (i := 12) (v := _) rfl (by kernel_rfl) (by kernel_rfl) (by kernel_rfl) (fun _ _ _ h => h) (Or.inl ⟨by rfl, (by intro w' hSw; (try dsimp only at hSw); obtain ⟨-, -⟩ := hSw; go_simp; try with_reducible rfl)⟩) (by assumption) ?_
  try simp only [Act.put, List.setIfInBounds_toArray, List.set_cons_zero, List.set_cons_succ]
  refine wpAnyH_ready (rs := [10]) (by kernel_rfl) (by simp) ?_
  refine AllReadyH.consL (i := 10) rfl (fun K hK => ?_) AllReadyH.nil
  go_simp
  (refine (QRs.out _ HB.out room).mono ?_; rintro e wC ⟨oa, ca, rfl, hsC, fC, -⟩; have HC_ := Lib.hid (HB.out.trans fC (by simp [Ext])); have SC := Lib.hid hsC; clear fC hsC)
  refine hK.out _ _ (KEEP.out _ HC_.out) (fun hHeld => ?_)
  clear hK K
  try simp only [Act.put, List.setIfInBounds_toArray, List.set_cons_zero, List.set_cons_succ]
  refine wpAnyH_ready (rs := [13]) (by kernel_rfl) (by simp) ?_
  refine AllReadyH.consL (i := 13) rfl (fun K hK => ?_) AllReadyH.nil
  go_simp
  (refine (QRRs.out _ HC_.out room).mono ?_; rintro e wD_ ⟨ob, cb, rfl, hsD, fD_, -⟩; have HD_ := Lib.hid (HC_.out.trans fD_ (by simp [Ext])); have SD := Lib.hid hsD; have SC2 := Lib.hid (SC.out.fr fD_ (by simp)); clear fD_ hsD)
  refine hK.out _ _ (KEEP.out _ HD_.out) (fun hHeld => ?_)
  clear hK K
  try simp only [Act.put, List.setIfInBounds_toArray, List.set_cons_zero, List.set_cons_succ]
  refine wpAnyH_ready (rs := [14]) (by kernel_rfl) (by simp) ?_
  refine AllReadyH.consL (i := 14) rfl (fun K hK => ?_) AllReadyH.nil
  go_simp
  (refine (same_yes _ oa ob ca cb _ SC2.out.rd SD.out.rd).mono ?_; rintro e wE ⟨rfl, kE⟩; have HE := Lib.hid (HD_.out.trans (drewFr kE) (by simp [Ext])); clear kE)
  refine hK.out _ _ (KEEP.out _ HE.out) (fun hHeld => ?_)
  clear hK K
  try simp only [Act.put, List.setIfInBounds_toArray, List.set_cons_zero, List.set_cons_succ]
  refine wpAnyH_takeL (i := 15) (v := _) rfl (by kernel_rfl) (by kernel_rfl) (by kernel_rfl) (fun _ _ _ h => h) (Or.inl ⟨by rfl, (by intro w' hSw; (try dsimp only at hSw); obtain ⟨-, -⟩ := hSw; go_simp; try with_reducible rfl)⟩) (by assumption) ?_
  try simp only [Act.put, List.setIfInBounds_toArray, List.set_cons_zero, List.set_cons_succ]
  refine wpAnyH_takeL (i := 16) (v := _) rfl (by kernel_rfl) (by kernel_rfl) (by kernel_rfl) (fun _ _ _ h => h) (Or.inl ⟨by rfl, (by intro w' hSw; (try dsimp only at hSw); obtain ⟨-, -⟩ := hSw; go_simp; try with_reducible rfl)⟩) (by assumption) ?_
  try simp only [Act.put, List.setIfInBounds_toArray, List.set_cons_zero, List.set_cons_succ]
  refine wpAnyH_done (by kernel_rfl) ?_ _
  clear hxx
  go_wp2_with fail
  have C6 := Lib.hid (fun u (hu : Fr [] wE u) => (by
    have h := cell_blk ((KEEP.out u (HE.out.trans hu (by simp [Ext]))).1) 6
    rw [h, HC.out.c6, HS.out.map.rn] : u.cell? ⟨b1, 6, none⟩ = some (.slice s.ro rooms.length s.rc)))
  clear hHeld
  go_loopw [13] (fun iv wr => ∃ k : Int, -1 ≤ k ∧ k ≤ (rooms.length : Int) + 1 ∧ iv = .int .i64 k ∧ Fr [] wE wr) (fun iv _ => ((rooms.length : Int) + 1 - intOf iv).toNat)
  case atStart => exact ⟨-1, by omega, by omega, rfl, Fr.refl _ _⟩
  case round =>
    obtain ⟨k, hk0, hk1, rfl, hf⟩ := hrel
    have HF := Lib.hid hf
    have c6 := C6.out wr hf
    clear hf
    by_cases hle : k ≤ (rooms.length : Int)
    · have HDr := Lib.hid (HF.out.drew)
      have KEEP8 := Lib.hid (fun u (hu : Fr [] wE u) => (KEEP.out u (HE.out.trans hu (by simp [Ext]))).1)
      have Q8 := Lib.hid (fun u (hu : Fr [] wE u) k => QRs.out u (HE.out.trans hu (by simp [Ext])) k)
      have R8 := Lib.hid (fun u (hu : Fr [] wE u) k => QRRs.out u (HE.out.trans hu (by simp [Ext])) k)
      go_upto_region 8 with fail
      refine wp_region_held_drew (S := fun u => u.heap[b1]? = some (.cells C 31 (0, 0))) (by kernel_rfl) (KEEP8.out _ HDr.out) (fun hHeld => ?_)
      refine wpAnyH_takeL (i := 0) (v := (.agg C)) rfl (by kernel_rfl) (by kernel_rfl) (by kernel_rfl) (fun _ _ _ h => h) (yieldsIf_load_mid (by rfl) 31 (Operand.tmp 11) rfl b1 0 rfl C.toList _ (fun w' hw' => range_blk (c := C) hw') Try.underlying31 rfl HCL0.out) (by assumption) ?_
      try simp only [Act.put, List.setIfInBounds_toArray, List.set_cons_zero, List.set_cons_succ]
      refine wpAnyH_takeL (i := 1) (v := _) rfl (by kernel_rfl) (by kernel_rfl) (by kernel_rfl) (fun _ _ _ h => h) (Or.inl ⟨by rfl, (by intro w' hSw; (try dsimp only at hSw); skip; go_simp; try with_reducible rfl)⟩) (by assumption) ?_
      try simp only [Act.put, List.setIfInBounds_toArray, List.set_cons_zero, List.set_cons_succ]
      refine wpAnyH_takeL (i := 3) (v := (.agg C)) rfl (by kernel_rfl) (by kernel_rfl) (by kernel_rfl) (fun _ _ _ h => h) (yieldsIf_load_mid (by rfl) 31 (Operand.tmp 11) rfl b1 0 rfl C.toList _ (fun w' hw' => range_blk (c := C) hw') Try.underlying31 rfl HCL0.out) (by assumption) ?_
      try simp only [Act.put, List.setIfInBounds_toArray, List.set_cons_zero, List.set_cons_succ]
      refine wpAnyH_takeL (i := 4) (v := _) rfl (by kernel_rfl) (by kernel_rfl) (by kernel_rfl) (fun _ _ _ h => h) (Or.inl ⟨by rfl, (by intro w' hSw; (try dsimp only at hSw); skip; go_simp; try with_reducible rfl)⟩) (by assumption) ?_
      try simp only [Act.put, List.setIfInBounds_toArray, List.set_cons_zero, List.set_cons_succ]
      refine wpAnyH_ready (rs := [2]) (by kernel_rfl) (by simp) ?_
      refine AllReadyH.consL (i := 2) rfl (fun K hK => ?_) AllReadyH.nil
      go_simp
      (refine (Q8.out _ HDr.out k).mono ?_; rintro e xC ⟨oa8, ca8, rfl, hsC, fC, -⟩; have GC_ := Lib.hid (HDr.out.trans fC (by simp [Ext])); have SC := Lib.hid hsC; clear fC hsC)
      refine hK.out _ _ (KEEP8.out _ GC_.out) (fun hHeld => ?_)
      clear hK K
      try simp only [Act.put, List.setIfInBounds_toArray, List.set_cons_zero, List.set_cons_succ]
      refine wpAnyH_ready (rs := [5]) (by kernel_rfl) (by simp) ?_
      refine AllReadyH.consL (i := 5) rfl (fun K hK => ?_) AllReadyH.nil
      go_simp
      (refine (R8.out _ GC_.out k).mono ?_; rintro e xD_ ⟨ob8, cb8, rfl, hsD, fD_, -⟩; have GD_ := Lib.hid (GC_.out.trans fD_ (by simp [Ext])); have SD := Lib.hid hsD; have SC2 := Lib.hid (SC.out.fr fD_ (by simp)); clear fD_ hsD)
      refine hK.out _ _ (KEEP8.out _ GD_.out) (fun hHeld => ?_)
      clear hK K
      try simp only [Act.put, List.setIfInBounds_toArray, List.set_cons_zero, List.set_cons_succ]
      refine wpAnyH_ready (rs := [6]) (by kernel_rfl) (by simp) ?_
      refine AllReadyH.consL (i := 6) rfl (fun K hK => ?_) AllReadyH.nil
      go_simp
      (refine (same_yes _ oa8 ob8 ca8 cb8 _ SC2.out.rd SD.out.rd).mono ?_; rintro e xE ⟨rfl, kE⟩; have GE := Lib.hid (GD_.out.trans (drewFr kE) (by simp [Ext])); clear kE)
      refine hK.out _ _ (KEEP8.out _ GE.out) (fun hHeld => ?_)
      clear hK K
      try simp only [Act.put, List.setIfInBounds_toArray, List.set_cons_zero, List.set_cons_succ]
      refine wpAnyH_takeL (i := 7) (v := _) rfl (by kernel_rfl) (by kernel_rfl) (by kernel_rfl) (fun _ _ _ h => h) (Or.inl ⟨by rfl, (by intro w' hSw; (try dsimp only at hSw); skip; go_simp; try with_reducible rfl)⟩) (by assumption) ?_
      try simp only [Act.put, List.setIfInBounds_toArray, List.set_cons_zero, List.set_cons_succ]
      refine wpAnyH_done (by kernel_rfl) ?_ _
      go_wp2_with fail
      go_roundw
      case rel => exact ⟨k + 1, by omega, by omega, rfl, GE.out⟩
      case measure => simp [intOf]; omega
    · go_wp2_with fail
      refine (lives_any _).mono ?_
      rintro e w9 ⟨rfl, f9⟩
      have F9 := Lib.hid ((((F1.out.trans F4.out (by simp [Ext])).trans HE.out (by simp [Ext])).trans HF.out (by simp [Ext])).trans f9 (by simp [Ext]))
      clear f9
      go_wp2_with fail
      go_ret
      exact ⟨rfl, F9.out⟩
end Go.Proofs.Ytdbngpncigjfiaa
