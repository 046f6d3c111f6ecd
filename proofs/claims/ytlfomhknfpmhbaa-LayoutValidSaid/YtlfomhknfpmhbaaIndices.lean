/- LayoutIndices returns true. -/
import Derived.Laws.Closers25b
import Derived.Deep.RegionHeld3
import Derived.Test.YtlfomhknfpmhbaaSetup
namespace Go.Proofs.Ytlfomhknfpmhbaa
open Go.RowKit

theorem range_blk {w : World} {b : Nat} {c : Array Value} {T : TypeId} {f : Nat × Nat} (h : w.heap[b]? = some (.cells c T f)) : w.rangeAt b 0 c.toList := fun j v hv => by
  rw [Nat.zero_add, cell_blk h, ← Array.getElem?_toList]; exact hv

theorem SetupAt.ok {w w' : World} {s : St} {bodies : List Bd} {doors : List (Int × Int)} (h : SetupAt w w' s bodies doors) : s.Ok := by
  have h1 := h.num.1
  have h2 := h.nb
  have h3 := h.b5
  exact ⟨by omega, by omega, by omega, by omega⟩

set_option maxRecDepth 100000 in
set_option maxHeartbeats 8000000 in
theorem indices_walk (w : World) (lo : Option Addr) (lc : Nat) (l : List Int) (p i : Int) (hrd : Rd w 1 lo l.length (ints l)) (hb : ∀ x ∈ l, bounded x) (hp : bounded p) (hi : bounded i) :
    Calls Try.prog 4 #[.slice lo l.length lc, .int .i64 p, .int .i64 i] w fun e w' => e = .returned (.bool true) ∧ Fr [] w w' := by
  have HSU := Lib.hid (setup_any w lo lc l hrd hb)
  obtain ⟨kp, hkp, -, hAP⟩ := around_nat p 8 hp (by omega) (by omega)
  obtain ⟨ki, hki, -, hAI⟩ := around_nat i 8 hi (by omega) (by omega)
  have HAP := Lib.hid hAP
  have HAI := Lib.hid hAI
  clear hrd hb hAP hAI
  go_enter Try.func4, Try.ntmps4
  go_wp2_with fail
  refine HSU.out.mono ?_
  rintro e w1 ⟨s, bodies, doors, rfl, hs⟩
  have hok := hs.ok
  have F1 := Lib.hid hs.fr
  obtain ⟨C, hC⟩ : ∃ C : List Value, C = (stCells s).toList := ⟨_, rfl⟩
  have hval : s.val = .agg C.toArray := by rw [hC]; rfl
  have hCl : (Try.prog.info? 31).map (·.size) = some C.length := by rw [hC]; exact infoSetup
  have hCs : C.toArray.size = 16 := by rw [hC]; rfl
  have HCS := Lib.hid hCs
  have HC1 := Lib.hid (by rw [hC]; simp [stCells, Value.oneCell'] : C.toArray.all (·.oneCell') = true)
  have hu := Try.underlying31
  have HPL := Lib.hid (fun (u : World) (v : Int) => hval ▸ player_any u s hok v)
  have HRP := Lib.hid (fun (u : World) (v : Int) => hval ▸ rplayer_any u s hok v)
  have HBD := Lib.hid (fun (u : World) (v : Int) => hval ▸ body_any u s hok v)
  have HRB := Lib.hid (fun (u : World) (v : Int) => hval ▸ rbody_any u s hok v)
  have HSZ := Lib.hid (fun (u : World) => hval ▸ size_any u s hok)
  have HRS := Lib.hid (fun (u : World) => hval ▸ rsize_any u s hok)
  rw [hval]
  clear hs hC hval hCs
  go_wp2_with (refine wpList_storeB rfl 31 (Operand.tmp 7) (Operand.tmp 11) rfl w1.heap.size 16 C.toArray rfl rfl _ 31 (by exact alloc_new _ _) rfl HCS.out infoSetup HC1.out ?_; intro w2 hb2 hf2; have F2 := Lib.hid ((F1.out.alloc _).trans hf2 (fun k hk => .inr (by simp at hk; rw [hk]; exact F1.out.size))); have B2 := Lib.hid hb2; clear hb2 hf2)
  refine (HAP.out _).mono ?_
  rintro e w3 ⟨rfl, rfl⟩
  go_wp2_with fail
  refine (HAI.out _).mono ?_
  rintro e w3 ⟨rfl, rfl⟩
  obtain ⟨b7, hb7⟩ : ∃ b7, b7 = w1.heap.size := ⟨_, rfl⟩
  rw [← hb7] at B2 ⊢
  obtain ⟨IX, hIX⟩ : ∃ IX : Array Value, IX = #[.int .i64 p, .int .i64 i, .int .i64 (kp : Int), .int .i64 (ki : Int), .int .i64 (-1)] := ⟨_, rfl⟩
  obtain ⟨wb, hwb⟩ : ∃ wb, wb = w2.alloc (.cells #[.int .i64 p, .int .i64 i, .int .i64 (kp : Int), .int .i64 (ki : Int), .int .i64 (-1)] 3) := ⟨_, rfl⟩
  obtain ⟨bi, hbi⟩ : ∃ bi, bi = w2.heap.size := ⟨_, rfl⟩
  have HWE := Lib.hid hwb
  have HBI := Lib.hid hbi
  have FB := Lib.hid (by rw [hwb]; exact F2.out.alloc _ : Fr [] w wb)
  have BB := Lib.hid (by rw [hwb]; exact alloc_old B2.out : wb.heap[b7]? = some (.cells C.toArray 31 (0, 0)))
  have BI := Lib.hid (by rw [hwb, hbi, hIX]; exact alloc_new w2 _ : wb.heap[bi]? = some (.cells IX 3 (0, 0)))
  have HIX := Lib.hid hIX
  clear hb7 hIX hwb hbi
  go_wp2_with fail
  rw [← HWE.out, ← HBI.out]
  go_loopw [9] (fun kv wr => ∃ k : Nat, k ≤ 5 ∧ kv = .int .i64 (k : Int) ∧ Fr [] wb wr) (fun kv _ => 5 - (intOf kv).toNat)
  case atStart => exact ⟨0, by omega, rfl, Fr.refl _ _⟩
  case round =>
    obtain ⟨k, hk, rfl, hf⟩ := hrel
    have HF := Lib.hid hf
    by_cases hk5 : k < 5
    · obtain ⟨v, hv⟩ : ∃ v : Int, IX[k]? = some (.int .i64 v) := by
        rw [HIX.out]
        rcases (show k = 0 ∨ k = 1 ∨ k = 2 ∨ k = 3 ∨ k = 4 by omega) with e | e | e | e | e <;> subst e <;> exact ⟨_, rfl⟩
      have ci : wr.drew.cell? ⟨bi, k, none⟩ = some (.int .i64 v) := (cell_blk (hf.blk BI.out (by simp)) k).trans hv
      have cr : wr.drew.rangeAt b7 0 C := range_blk (c := C.toArray) (hf.blk BB.out (by simp))
      have HV := Lib.hid hv
      have hkk : (k : Int) < 5 := by omega
      obtain ⟨x, hx⟩ : ∃ x, x = plOf s v := ⟨_, rfl⟩
      obtain ⟨y, hy⟩ : ∃ y, y = bdOf s v := ⟨_, rfl⟩
      have KPL := Lib.hid (fun (u : World) => (by rw [hx]; exact HPL.out u v : Calls Try.prog 17 #[.agg C.toArray, .int .i64 v] u fun e w' => e = .returned (.int .i64 x) ∧ Fr [] u w'))
      have KRP := Lib.hid (fun (u : World) => (by rw [hx]; exact HRP.out u v : Calls Try.prog 18 #[.agg C.toArray, .int .i64 v] u fun e w' => e = .returned (.int .i64 x) ∧ Fr [] u w'))
      have KBD := Lib.hid (fun (u : World) => (by rw [hy]; exact HBD.out u v : Calls Try.prog 19 #[.agg C.toArray, .int .i64 v] u fun e w' => e = .returned (.int .i64 y) ∧ Fr [] u w'))
      have KRB := Lib.hid (fun (u : World) => (by rw [hy]; exact HRB.out u v : Calls Try.prog 20 #[.agg C.toArray, .int .i64 v] u fun e w' => e = .returned (.int .i64 y) ∧ Fr [] u w'))
      have hxx : (x != x) = false := by simp
      have hyy : (y != y) = false := by simp
      have Fd := Lib.hid (HF.out.trans (Fr.refl [] wr).drew (by simp [Ext]))
      have KEEP := Lib.hid (fun (u : World) (hu : Fr [] wb u) => (⟨range_blk (c := C.toArray) (hu.blk BB.out (by simp)), (cell_blk (hu.blk BI.out (by simp)) k).trans HV.out⟩ : u.rangeAt b7 0 C ∧ u.cell? ⟨bi, k, none⟩ = some (.int .i64 v)))
      clear hf hv hx hy
      go_wp2_with fail
      refine wp_region_held_drew (S := fun w' => w'.rangeAt b7 0 C ∧ w'.cell? ⟨bi, k, none⟩ = some (.int .i64 v)) (by kernel_rfl) ⟨cr, ci⟩ (fun hHeld => ?_)
      refine wpAnyH_takeL (i := 0) (v := .agg C.toArray) rfl (by kernel_rfl) (by kernel_rfl) (by kernel_rfl) (fun _ _ _ h => h) (yieldsIf_load_mid (by rfl) 31 (Operand.tmp 7) rfl b7 0 rfl C _ (fun w' hw' => hw'.1) hu rfl hCl) (by assumption) ?_
      try simp only [Act.put, List.setIfInBounds_toArray, List.set_cons_zero, List.set_cons_succ]
      refine wpAnyH_takeL (i := 1) (v := _) rfl (by kernel_rfl) (by kernel_rfl) (by kernel_rfl) (fun _ _ _ h => h) (Or.inl ⟨by rfl, (by intro w' hSw; (try dsimp only at hSw); obtain ⟨g0, g1⟩ := hSw; go_simp; try with_reducible rfl)⟩) (by assumption) ?_
      try simp only [Act.put, List.setIfInBounds_toArray, List.set_cons_zero, List.set_cons_succ]
      refine wpAnyH_takeL (i := 2) (v := _) rfl (by kernel_rfl) (by kernel_rfl) (by kernel_rfl) (fun _ _ _ h => h) (Or.inl ⟨by rfl, (by intro w' hSw; (try dsimp only at hSw); obtain ⟨g0, g1⟩ := hSw; go_simp; try with_reducible rfl)⟩) (by assumption) ?_
      try simp only [Act.put, List.setIfInBounds_toArray, List.set_cons_zero, List.set_cons_succ]
      refine wpAnyH_takeL (i := 3) (v := _) rfl (by kernel_rfl) (by kernel_rfl) (by kernel_rfl) (fun _ _ _ h => h) (Or.inl ⟨by rfl, (by intro w' hSw; (try dsimp only at hSw); obtain ⟨g0, g1⟩ := hSw; go_simp; try with_reducible rfl)⟩) (by assumption) ?_
      try simp only [Act.put, List.setIfInBounds_toArray, List.set_cons_zero, List.set_cons_succ]
      refine wpAnyH_takeL (i := 4) (v := _) rfl (by kernel_rfl) (by kernel_rfl) (by kernel_rfl) (fun _ _ _ h => h) (Or.inl ⟨by rfl, (by intro w' hSw; (try dsimp only at hSw); obtain ⟨g0, g1⟩ := hSw; go_simp; try with_reducible rfl)⟩) (by assumption) ?_
      try simp only [Act.put, List.setIfInBounds_toArray, List.set_cons_zero, List.set_cons_succ]
      refine wpAnyH_takeL (i := 6) (v := .agg C.toArray) rfl (by kernel_rfl) (by kernel_rfl) (by kernel_rfl) (fun _ _ _ h => h) (yieldsIf_load_mid (by rfl) 31 (Operand.tmp 7) rfl b7 0 rfl C _ (fun w' hw' => hw'.1) hu rfl hCl) (by assumption) ?_
      try simp only [Act.put, List.setIfInBounds_toArray, List.set_cons_zero, List.set_cons_succ]
      refine wpAnyH_takeL (i := 7) (v := _) rfl (by kernel_rfl) (by kernel_rfl) (by kernel_rfl) (fun _ _ _ h => h) (Or.inl ⟨by rfl, (by intro w' hSw; (try dsimp only at hSw); obtain ⟨g0, g1⟩ := hSw; go_simp; try with_reducible rfl)⟩) (by assumption) ?_
      try simp only [Act.put, List.setIfInBounds_toArray, List.set_cons_zero, List.set_cons_succ]
      refine wpAnyH_takeL (i := 8) (v := _) rfl (by kernel_rfl) (by kernel_rfl) (by kernel_rfl) (fun _ _ _ h => h) (Or.inl ⟨by rfl, (by intro w' hSw; (try dsimp only at hSw); obtain ⟨g0, g1⟩ := hSw; go_simp; try with_reducible rfl)⟩) (by assumption) ?_
      try simp only [Act.put, List.setIfInBounds_toArray, List.set_cons_zero, List.set_cons_succ]
      refine wpAnyH_takeL (i := 9) (v := _) rfl (by kernel_rfl) (by kernel_rfl) (by kernel_rfl) (fun _ _ _ h => h) (Or.inl ⟨by rfl, (by intro w' hSw; (try dsimp only at hSw); obtain ⟨g0, g1⟩ := hSw; go_simp; try with_reducible rfl)⟩) (by assumption) ?_
      try simp only [Act.put, List.setIfInBounds_toArray, List.set_cons_zero, List.set_cons_succ]
      refine wpAnyH_takeL (i := 10) (v := _) rfl (by kernel_rfl) (by kernel_rfl) (by kernel_rfl) (fun _ _ _ h => h) (Or.inl ⟨by rfl, (by intro w' hSw; (try dsimp only at hSw); obtain ⟨g0, g1⟩ := hSw; go_simp; try with_reducible rfl)⟩) (by assumption) ?_
      try simp only [Act.put, List.setIfInBounds_toArray, List.set_cons_zero, List.set_cons_succ]
      refine wpAnyH_ready (rs := [5]) (by kernel_rfl) (by simp) ?_
      refine AllReadyH.consL (i := 5) rfl (fun K hK => ?_) AllReadyH.nil
      go_simp
      (refine (KPL.out _).mono ?_; rintro e wA ⟨rfl, f9⟩; have FA := Lib.hid (Fd.out.trans f9 (by simp [Ext])); clear f9)
      refine hK.out _ _ (KEEP.out _ FA.out) (fun hHeld => ?_)
      clear hK K
      try simp only [Act.put, List.setIfInBounds_toArray, List.set_cons_zero, List.set_cons_succ]
      refine wpAnyH_ready (rs := [11]) (by kernel_rfl) (by simp) ?_
      refine AllReadyH.consL (i := 11) rfl (fun K hK => ?_) AllReadyH.nil
      go_simp
      (refine (KRP.out _).mono ?_; rintro e wB ⟨rfl, f9⟩; have FBB := Lib.hid (FA.out.trans f9 (by simp [Ext])); clear f9)
      refine hK.out _ _ (KEEP.out _ FBB.out) (fun hHeld => ?_)
      clear hK K
      try simp only [Act.put, List.setIfInBounds_toArray, List.set_cons_zero, List.set_cons_succ]
      refine wpAnyH_takeL (i := 12) (v := _) rfl (by kernel_rfl) (by kernel_rfl) (by kernel_rfl) (fun _ _ _ h => h) (Or.inl ⟨by rfl, (by intro w' hSw; (try dsimp only at hSw); obtain ⟨g0, g1⟩ := hSw; go_simp; try with_reducible rfl)⟩) (by assumption) ?_
      try simp only [Act.put, List.setIfInBounds_toArray, List.set_cons_zero, List.set_cons_succ]
      refine wpAnyH_takeL (i := 13) (v := _) rfl (by kernel_rfl) (by kernel_rfl) (by kernel_rfl) (fun _ _ _ h => h) (Or.inl ⟨by rfl, (by intro w' hSw; (try dsimp only at hSw); obtain ⟨g0, g1⟩ := hSw; go_simp; try with_reducible rfl)⟩) (by assumption) ?_
      try simp only [Act.put, List.setIfInBounds_toArray, List.set_cons_zero, List.set_cons_succ]
      refine wpAnyH_takeL (i := 14) (v := .agg C.toArray) rfl (by kernel_rfl) (by kernel_rfl) (by kernel_rfl) (fun _ _ _ h => h) (yieldsIf_load_mid (by rfl) 31 (Operand.tmp 7) rfl b7 0 rfl C _ (fun w' hw' => hw'.1) hu rfl hCl) (by assumption) ?_
      try simp only [Act.put, List.setIfInBounds_toArray, List.set_cons_zero, List.set_cons_succ]
      refine wpAnyH_takeL (i := 15) (v := _) rfl (by kernel_rfl) (by kernel_rfl) (by kernel_rfl) (fun _ _ _ h => h) (Or.inl ⟨by rfl, (by intro w' hSw; (try dsimp only at hSw); obtain ⟨g0, g1⟩ := hSw; go_simp; try with_reducible rfl)⟩) (by assumption) ?_
      try simp only [Act.put, List.setIfInBounds_toArray, List.set_cons_zero, List.set_cons_succ]
      refine wpAnyH_takeL (i := 16) (v := _) rfl (by kernel_rfl) (by kernel_rfl) (by kernel_rfl) (fun _ _ _ h => h) (Or.inl ⟨by rfl, (by intro w' hSw; (try dsimp only at hSw); obtain ⟨g0, g1⟩ := hSw; go_simp; try with_reducible rfl)⟩) (by assumption) ?_
      try simp only [Act.put, List.setIfInBounds_toArray, List.set_cons_zero, List.set_cons_succ]
      refine wpAnyH_takeL (i := 17) (v := _) rfl (by kernel_rfl) (by kernel_rfl) (by kernel_rfl) (fun _ _ _ h => h) (Or.inl ⟨by rfl, (by intro w' hSw; (try dsimp only at hSw); obtain ⟨g0, g1⟩ := hSw; go_simp; try with_reducible rfl)⟩) (by assumption) ?_
      try simp only [Act.put, List.setIfInBounds_toArray, List.set_cons_zero, List.set_cons_succ]
      refine wpAnyH_takeL (i := 18) (v := _) rfl (by kernel_rfl) (by kernel_rfl) (by kernel_rfl) (fun _ _ _ h => h) (Or.inl ⟨by rfl, (by intro w' hSw; (try dsimp only at hSw); obtain ⟨g0, g1⟩ := hSw; go_simp; try with_reducible rfl)⟩) (by assumption) ?_
      try simp only [Act.put, List.setIfInBounds_toArray, List.set_cons_zero, List.set_cons_succ]
      refine wpAnyH_takeL (i := 20) (v := .agg C.toArray) rfl (by kernel_rfl) (by kernel_rfl) (by kernel_rfl) (fun _ _ _ h => h) (yieldsIf_load_mid (by rfl) 31 (Operand.tmp 7) rfl b7 0 rfl C _ (fun w' hw' => hw'.1) hu rfl hCl) (by assumption) ?_
      try simp only [Act.put, List.setIfInBounds_toArray, List.set_cons_zero, List.set_cons_succ]
      refine wpAnyH_takeL (i := 21) (v := _) rfl (by kernel_rfl) (by kernel_rfl) (by kernel_rfl) (fun _ _ _ h => h) (Or.inl ⟨by rfl, (by intro w' hSw; (try dsimp only at hSw); obtain ⟨g0, g1⟩ := hSw; go_simp; try with_reducible rfl)⟩) (by assumption) ?_
      try simp only [Act.put, List.setIfInBounds_toArray, List.set_cons_zero, List.set_cons_succ]
      refine wpAnyH_takeL (i := 22) (v := _) rfl (by kernel_rfl) (by kernel_rfl) (by kernel_rfl) (fun _ _ _ h => h) (Or.inl ⟨by rfl, (by intro w' hSw; (try dsimp only at hSw); obtain ⟨g0, g1⟩ := hSw; go_simp; try with_reducible rfl)⟩) (by assumption) ?_
      try simp only [Act.put, List.setIfInBounds_toArray, List.set_cons_zero, List.set_cons_succ]
      refine wpAnyH_takeL (i := 23) (v := _) rfl (by kernel_rfl) (by kernel_rfl) (by kernel_rfl) (fun _ _ _ h => h) (Or.inl ⟨by rfl, (by intro w' hSw; (try dsimp only at hSw); obtain ⟨g0, g1⟩ := hSw; go_simp; try with_reducible rfl)⟩) (by assumption) ?_
      try simp only [Act.put, List.setIfInBounds_toArray, List.set_cons_zero, List.set_cons_succ]
      refine wpAnyH_takeL (i := 24) (v := _) rfl (by kernel_rfl) (by kernel_rfl) (by kernel_rfl) (fun _ _ _ h => h) (Or.inl ⟨by rfl, (by intro w' hSw; (try dsimp only at hSw); obtain ⟨g0, g1⟩ := hSw; go_simp; try with_reducible rfl)⟩) (by assumption) ?_
      try simp only [Act.put, List.setIfInBounds_toArray, List.set_cons_zero, List.set_cons_succ]
      refine wpAnyH_ready (rs := [19]) (by kernel_rfl) (by simp) ?_
      refine AllReadyH.consL (i := 19) rfl (fun K hK => ?_) AllReadyH.nil
      go_simp
      (refine (KBD.out _).mono ?_; rintro e wC ⟨rfl, f9⟩; have FC := Lib.hid (FBB.out.trans f9 (by simp [Ext])); clear f9)
      refine hK.out _ _ (KEEP.out _ FC.out) (fun hHeld => ?_)
      clear hK K
      try simp only [Act.put, List.setIfInBounds_toArray, List.set_cons_zero, List.set_cons_succ]
      refine wpAnyH_ready (rs := [25]) (by kernel_rfl) (by simp) ?_
      refine AllReadyH.consL (i := 25) rfl (fun K hK => ?_) AllReadyH.nil
      go_simp
      (refine (KRB.out _).mono ?_; rintro e wD ⟨rfl, f9⟩; have FD := Lib.hid (FC.out.trans f9 (by simp [Ext])); clear f9)
      refine hK.out _ _ (KEEP.out _ FD.out) (fun hHeld => ?_)
      clear hK K
      try simp only [Act.put, List.setIfInBounds_toArray, List.set_cons_zero, List.set_cons_succ]
      refine wpAnyH_takeL (i := 26) (v := _) rfl (by kernel_rfl) (by kernel_rfl) (by kernel_rfl) (fun _ _ _ h => h) (Or.inl ⟨by rfl, (by intro w' hSw; (try dsimp only at hSw); obtain ⟨g0, g1⟩ := hSw; go_simp; try with_reducible rfl)⟩) (by assumption) ?_
      try simp only [Act.put, List.setIfInBounds_toArray, List.set_cons_zero, List.set_cons_succ]
      refine wpAnyH_takeL (i := 27) (v := _) rfl (by kernel_rfl) (by kernel_rfl) (by kernel_rfl) (fun _ _ _ h => h) (Or.inl ⟨by rfl, (by intro w' hSw; (try dsimp only at hSw); obtain ⟨g0, g1⟩ := hSw; go_simp; try with_reducible rfl)⟩) (by assumption) ?_
      try simp only [Act.put, List.setIfInBounds_toArray, List.set_cons_zero, List.set_cons_succ]
      refine wpAnyH_done (by kernel_rfl) ?_ _
      go_wp2_with fail
      go_roundw
      case rel => exact ⟨k + 1, by omega, by go_num, FD.out⟩
      case measure => simp [intOf]; omega
    · have cr : wr.drew.rangeAt b7 0 C := range_blk (c := C.toArray) (hf.blk BB.out (by simp))
      obtain ⟨x, hx⟩ : ∃ x, x = szOf s := ⟨_, rfl⟩
      have KSZ := Lib.hid (fun (u : World) => (by rw [hx]; exact HSZ.out u : Calls Try.prog 21 #[.agg C.toArray] u fun e w' => e = .returned (.int .i64 x) ∧ Fr [] u w'))
      have KRS := Lib.hid (fun (u : World) => (by rw [hx]; exact HRS.out u : Calls Try.prog 22 #[.agg C.toArray] u fun e w' => e = .returned (.int .i64 x) ∧ Fr [] u w'))
      have hxx : (x == x) = true := by simp
      have Fd := Lib.hid (HF.out.trans (Fr.refl [] wr).drew (by simp [Ext]))
      have KEEP := Lib.hid (fun (u : World) (hu : Fr [] wb u) => (range_blk (c := C.toArray) (hu.blk BB.out (by simp)) : u.rangeAt b7 0 C))
      clear hf hx
      go_wp2_with fail
      refine wp_region_held_drew (S := fun w' => w'.rangeAt b7 0 C) (by kernel_rfl) cr (fun hHeld => ?_)
      refine wpAnyH_takeL (i := 0) (v := .agg C.toArray) rfl (by kernel_rfl) (by kernel_rfl) (by kernel_rfl) (fun _ _ _ h => h) (yieldsIf_load_mid (by rfl) 31 (Operand.tmp 7) rfl b7 0 rfl C _ (fun w' hw' => hw') hu rfl hCl) (by assumption) ?_
      try simp only [Act.put, List.setIfInBounds_toArray, List.set_cons_zero, List.set_cons_succ]
      refine wpAnyH_takeL (i := 2) (v := .agg C.toArray) rfl (by kernel_rfl) (by kernel_rfl) (by kernel_rfl) (fun _ _ _ h => h) (yieldsIf_load_mid (by rfl) 31 (Operand.tmp 7) rfl b7 0 rfl C _ (fun w' hw' => hw') hu rfl hCl) (by assumption) ?_
      try simp only [Act.put, List.setIfInBounds_toArray, List.set_cons_zero, List.set_cons_succ]
      refine wpAnyH_ready (rs := [1]) (by kernel_rfl) (by simp) ?_
      refine AllReadyH.consL (i := 1) rfl (fun K hK => ?_) AllReadyH.nil
      go_simp
      (refine (KSZ.out _).mono ?_; rintro e wA ⟨rfl, f9⟩; have FA := Lib.hid (Fd.out.trans f9 (by simp [Ext])); clear f9)
      refine hK.out _ _ (KEEP.out _ FA.out) (fun hHeld => ?_)
      clear hK K
      try simp only [Act.put, List.setIfInBounds_toArray, List.set_cons_zero, List.set_cons_succ]
      refine wpAnyH_ready (rs := [3]) (by kernel_rfl) (by simp) ?_
      refine AllReadyH.consL (i := 3) rfl (fun K hK => ?_) AllReadyH.nil
      go_simp
      (refine (KRS.out _).mono ?_; rintro e wB ⟨rfl, f9⟩; have FBB := Lib.hid (FA.out.trans f9 (by simp [Ext])); clear f9)
      refine hK.out _ _ (KEEP.out _ FBB.out) (fun hHeld => ?_)
      clear hK K
      try simp only [Act.put, List.setIfInBounds_toArray, List.set_cons_zero, List.set_cons_succ]
      refine wpAnyH_takeL (i := 4) (v := _) rfl (by kernel_rfl) (by kernel_rfl) (by kernel_rfl) (fun _ _ _ h => h) (Or.inl ⟨by rfl, (by intro w' hSw; (try dsimp only at hSw); go_simp; try with_reducible rfl)⟩) (by assumption) ?_
      try simp only [Act.put, List.setIfInBounds_toArray, List.set_cons_zero, List.set_cons_succ]
      refine wpAnyH_takeL (i := 5) (v := _) rfl (by kernel_rfl) (by kernel_rfl) (by kernel_rfl) (fun _ _ _ h => h) (Or.inl ⟨by rfl, (by intro w' hSw; (try dsimp only at hSw); go_simp; try with_reducible rfl)⟩) (by assumption) ?_
      try simp only [Act.put, List.setIfInBounds_toArray, List.set_cons_zero, List.set_cons_succ]
      refine wpAnyH_ready (rs := [6]) (by kernel_rfl) (by simp) ?_
      refine AllReadyH.consL (i := 6) rfl (fun K hK => ?_) AllReadyH.nil
      go_simp
      (refine (lives_any _).mono ?_; rintro e wC ⟨rfl, f9⟩; have FC := Lib.hid (FBB.out.trans f9 (by simp [Ext])); clear f9)
      refine hK.out _ _ (KEEP.out _ FC.out) (fun hHeld => ?_)
      clear hK K
      try simp only [Act.put, List.setIfInBounds_toArray, List.set_cons_zero, List.set_cons_succ]
      refine wpAnyH_takeL (i := 7) (v := _) rfl (by kernel_rfl) (by kernel_rfl) (by kernel_rfl) (fun _ _ _ h => h) (Or.inl ⟨by rfl, (by intro w' hSw; (try dsimp only at hSw); go_simp; try with_reducible rfl)⟩) (by assumption) ?_
      try simp only [Act.put, List.setIfInBounds_toArray, List.set_cons_zero, List.set_cons_succ]
      refine wpAnyH_takeL (i := 8) (v := _) rfl (by kernel_rfl) (by kernel_rfl) (by kernel_rfl) (fun _ _ _ h => h) (Or.inl ⟨by rfl, (by intro w' hSw; (try dsimp only at hSw); go_simp; try with_reducible rfl)⟩) (by assumption) ?_
      try simp only [Act.put, List.setIfInBounds_toArray, List.set_cons_zero, List.set_cons_succ]
      refine wpAnyH_done (by kernel_rfl) ?_ _
      go_wp2_with fail
      go_ret
      exact ⟨rfl, FB.out.trans FC.out (by simp [Ext])⟩
end Go.Proofs.Ytlfomhknfpmhbaa
