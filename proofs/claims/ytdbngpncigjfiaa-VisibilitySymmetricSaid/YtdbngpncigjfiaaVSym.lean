/- VisibilitySymmetric returns true (written by genlaw27.py). -/
import Derived.Test.YtdbngpncigjfiaaLaw27
namespace Go.Proofs.Ytdbngpncigjfiaa
open Go.RowKit

theorem drHas_symm (a b : Int) (d : Int × Int) : drHas a b d = drHas b a d := by unfold drHas; rw [Bool.or_comm]
theorem connB_symm (doors : List (Int × Int)) (a b : Int) : connB doors a b = connB doors b a := by
  unfold connB
  rw [show drHas a b = drHas b a from funext (drHas_symm a b)]
  congr 1
  rw [Bool.eq_iff_iff, beq_iff_eq, beq_iff_eq]
  exact eq_comm
theorem connB_self (doors : List (Int × Int)) (a : Int) : connB doors a a = true := by unfold connB; simp
theorem accL_mem {p : Nat → Bool} {n : Nat} {x : Int} : x ∈ accL p n ↔ ∃ j : Nat, j < n ∧ p j = true ∧ x = (j : Int) := by
  unfold accL
  simp only [List.mem_map, List.mem_filter, List.mem_range]
  constructor
  · rintro ⟨j, ⟨h1, h2⟩, h3⟩; exact ⟨j, h1, h2, h3.symm⟩
  · rintro ⟨j, h1, h2, h3⟩; exact ⟨j, ⟨h1, h2⟩, h3.symm⟩
theorem accL_sorted (p : Nat → Bool) (n : Nat) : (accL p n).Pairwise (· < ·) := by
  unfold accL
  rw [List.pairwise_map]
  refine List.Pairwise.imp (R := (· < ·)) (fun {a b} h => by omega) ?_
  exact List.Pairwise.filter _ List.pairwise_lt_range
theorem roomsVis_in (rooms : List Bx) (doors : List (Int × Int)) (i : Nat) (hi : i < rooms.length) : roomsVis rooms doors (i : Int) = accL (fun k => connB doors (i : Int) (k : Int)) rooms.length := by
  unfold roomsVis; rw [if_neg (by omega)]
theorem rooms_self {rooms : List Bx} {doors : List (Int × Int)} {i : Nat} (hi : i < rooms.length) : (i : Int) ∈ roomsVis rooms doors (i : Int) := by
  rw [roomsVis_in _ _ _ hi, accL_mem]; exact ⟨i, hi, connB_self _ _, rfl⟩
theorem rooms_back {rooms : List Bx} {doors : List (Int × Int)} {i : Nat} (hi : i < rooms.length) {x : Int} (hx : x ∈ roomsVis rooms doors (i : Int)) : (i : Int) ∈ roomsVis rooms doors x := by
  rw [roomsVis_in _ _ _ hi, accL_mem] at hx
  obtain ⟨j, hj, hc, rfl⟩ := hx
  rw [roomsVis_in _ _ _ hj, accL_mem]
  exact ⟨i, hi, by rw [connB_symm]; exact hc, rfl⟩
theorem rooms_sorted {rooms : List Bx} {doors : List (Int × Int)} {i : Nat} (hi : i < rooms.length) {a b : Nat} (hab : a < b) (hb : b < (roomsVis rooms doors (i : Int)).length) : (roomsVis rooms doors (i : Int))[a] < (roomsVis rooms doors (i : Int))[b] := by
  have h : (roomsVis rooms doors (i : Int)).Pairwise (· < ·) := by rw [roomsVis_in _ _ _ hi]; exact accL_sorted _ _
  exact List.pairwise_iff_getElem.1 h a b (by omega) hb hab
theorem roomsSee_symm (rooms : List Bx) (doors : List (Int × Int)) (a b : Int) : roomsSee rooms doors a b = roomsSee rooms doors b a := by
  unfold roomsSee
  rw [connB_symm, Bool.and_comm (decide (0 ≤ a))]
theorem farB_symm (s : St) (rooms : List Bx) (doors : List (Int × Int)) (a b c d : Int) : farB s rooms doors a b c d = farB s rooms doors c d a b := by
  unfold farB
  rw [roomsSee_symm, show (c - a) * (c - a) = (a - c) * (a - c) by rw [← Int.neg_sub c a, Int.neg_mul_neg], show (d - b) * (d - b) = (b - d) * (b - d) by rw [← Int.neg_sub d b, Int.neg_mul_neg]]
theorem sees_symm (s : St) (rooms : List Bx) (doors : List (Int × Int)) (cells : List Int) (pl : Nat) (hpl : s.players = (pl : Int)) (hn : pl ≤ s.nb) (p q : Nat) (hp : p < pl) (hq : q < pl) : seesB s rooms doors cells (p : Int) (q : Int) = seesB s rooms doors cells (q : Int) (p : Int) := by
  by_cases e : p = q
  · subst e; rfl
  · unfold seesB
    rw [if_neg (show ¬ ((p : Int) < 0 ∨ s.players ≤ (p : Int) ∨ (q : Int) < 0 ∨ (s.nb : Int) ≤ (q : Int)) by omega), if_neg (show ¬ ((q : Int) < 0 ∨ s.players ≤ (q : Int) ∨ (p : Int) < 0 ∨ (s.nb : Int) ≤ (p : Int)) by omega),
      if_neg (show ¬ ((q : Int) = (p : Int)) by omega), if_neg (show ¬ ((p : Int) = (q : Int)) by omega), farB_symm]

set_option maxRecDepth 100000 in
set_option maxHeartbeats 16000000 in
theorem vsym_walk (w : World) (lo : Option Addr) (lc : Nat) (l : List Int) (hl : Srci w lo lc l) (mo : Option Addr) (mc : Nat) (m : List Int) (hm : Srci w mo mc m) (ao : Option Addr) (ac : Nat) (a : List Int) (hat : Srci w ao ac a) :
    Calls Try.prog 5 #[.slice lo l.length lc, .slice mo m.length mc, .slice ao a.length ac] w fun e w' => e = .returned (.bool true) ∧ Fr [] w w' := by
  have HSU := Lib.hid (set27_any w lo lc l hl.rd hl.bnd mo mc m hm.rd hm.bnd)
  have HAT := Lib.hid hat
  clear hl hm hat
  go_enter Try.func5, Try.ntmps5
  go_wp2_with fail
  refine HSU.out.mono ?_
  rintro e w1 ⟨s, bodies, rooms, doors, rfl, hs⟩
  have HS := Lib.hid hs
  have F1 := Lib.hid hs.fr
  have hr5 := hs.r5
  obtain ⟨C, hC⟩ := cAt s
  have HCS := Lib.hid hC.size
  have HV := Lib.hid hC.val
  have HC := Lib.hid hC
  have hCl : (Try.prog.info? 31).map (·.size) = some C.toList.length := by rw [Array.length_toList, hC.size]; exact infoSetup
  have HO := Lib.hid (by have h := hC.val; unfold St.val at h; injection h with h; rw [← h]; simp [Value.oneCell'] : C.all (·.oneCell') = true)
  obtain ⟨b1, hb1⟩ : ∃ b1, b1 = w1.heap.size := ⟨_, rfl⟩
  have HB1 := Lib.hid hb1
  rw [HV.out]
  have HCL0 := Lib.hid hCl
  clear hs hb1 hC HSU hCl
  go_upto_region 2 with (refine wpList_storeB rfl 31 (Operand.tmp 7) (Operand.tmp 16) rfl w1.heap.size 16 C rfl rfl _ 31 (by exact alloc_new _ _) rfl HCS.out infoSetup HO.out ?_; intro w2 hb2 hf2; have F2 := Lib.hid (((Fr.refl [] w1).alloc _).trans hf2 (fun k hk => .inr (by simp at hk; omega))); have B2 := Lib.hid (by rw [HB1.out]; exact hb2 : w2.heap[b1]? = some (.cells C 31 (0, 0))); clear hb2 hf2)
  rw [← HB1.out]
  obtain ⟨pl, hpl⟩ : ∃ pl : Nat, s.players = (pl : Int) := ⟨s.players.toNat, by have := HS.out.pl; omega⟩
  have hpl3 : 1 ≤ pl ∧ pl ≤ 3 := by have := HS.out.pl; omega
  have hpn : pl ≤ bodies.length := by have := HS.out.pn; omega
  have hb5 := HS.out.b5
  have HPL := Lib.hid hpl
  obtain ⟨nb, hnb⟩ : ∃ nb, nb = bodies.length := ⟨_, rfl⟩
  have HNB := Lib.hid hnb
  have HSN := Lib.hid (HS.out.nb.trans hnb.symm)
  obtain ⟨n, hn⟩ : ∃ n, n = 48 + 4 * pl + 8 * bodies.length := ⟨_, rfl⟩
  have HN := Lib.hid hn
  have HCE := Lib.hid (fun u (hu : Fr [] w1 u) => (by
    rw [← HV.out]
    exact cells27_any u s bodies HS.out.ok pl hpl hpl3.2 (HS.out.bd hu) hb5 HS.out.good ao ac a ((HAT.out.old F1.out).old hu).rd HAT.out.bnd n hn : Calls Try.prog 18 #[.agg C, .slice ao a.length ac] u (Cells27To u pl bodies.length n)))
  rw [← hnb] at hpn hb5
  clear hpl hn hnb
  go_wp2_with (refine wpList_loadB rfl 31 (Operand.tmp 7) rfl b1 16 rfl C 31 (0, 0) B2.out _ Try.underlying31 rfl HCS.out infoSetup ?_)
  refine (HCE.out w2 F2.out).mono ?_
  rintro e w5 ⟨bc, cells, rfl, hcl, hrow, hbc, f5, hsm, hpo⟩
  have HCL := Lib.hid hcl
  have HROW := Lib.hid hrow
  have F5 := Lib.hid (F2.out.trans f5 (by simp [Ext]))
  have B5 := Lib.hid (f5.blk B2.out (by simp))
  have HSM := Lib.hid hsm
  have HPO := Lib.hid hpo
  have hb1c : b1 < bc := by have := lt_of_blk B2.out; omega
  have VP := Lib.hid (fun u (hu : Fr [] w5 u) => HS.out.vpre (F5.out.trans hu (by simp [Ext])) HPL.out HN.out (hu.blk HROW.out (by simp)) HCL.out HPO.out)
  have KEEP := Lib.hid (fun u (hu : Fr [] w5 u) => (hu.blk B5.out (by simp) : u.heap[b1]? = some (.cells C 31 (0, 0))))
  clear hcl hrow hsm hpo f5 HCE hbc
  have QSees := Lib.hid (fun u (hu : Fr [] w5 u) (k i : Int) => (by have h := sees_any (VP.out u hu) k i; rw [HV.out, HCL.out] at h; exact h : Calls Try.prog 21 #[.agg C, .slice (some ⟨bc, 0, none⟩) n n, .int .i64 k, .int .i64 i] u (fun e w' => e = .returned (.bool (seesB s rooms doors cells k i)) ∧ Fr [] u w')))
  have QRooms := Lib.hid (fun u (hu : Fr [] w5 u) (k : Int) => (by have h := rooms_any u s rooms doors (VP.out u hu).map (VP.out u hu).few k; rw [HV.out] at h; exact h : Calls Try.prog 15 #[.agg C, .int .i64 k] u (IntsTo u (roomsVis rooms doors k))))
  have QHas := Lib.hid (fun (u : World) (ao : Option Addr) (ac : Nat) (L : List Int) (x : Int) (hs : Seg u 3 1 ao L.length ac (ints L)) (hx : x ∈ L) => (by have h := hasn_any u ao ac L x hs.rd; rw [decide_eq_true hx] at h; exact h : Calls Try.prog 23 #[.slice ao L.length ac, .int .i64 x] u fun e w' => e = .returned (.bool true) ∧ u = w'))
  have K0 := Lib.hid (fun u (hu : Fr [] w5 u) => (by have h := cell_blk (KEEP.out u hu) 0; rw [h, HC.out.c0, HPL.out] : u.cell? ⟨b1, 0, none⟩ = some (.int .i64 (pl : Int))))
  have K6 := Lib.hid (fun u (hu : Fr [] w5 u) => (by have h := cell_blk (KEEP.out u hu) 6; rw [h, HC.out.c6, HS.out.map.rn] : u.cell? ⟨b1, 6, none⟩ = some (.slice s.ro rooms.length s.rc)))
  have HSY := Lib.hid (fun (p q : Nat) (hp : p < pl) (hq : q < pl) => sees_symm s rooms doors cells pl HPL.out (by rw [HSN.out]; exact hpn) p q hp hq)
  go_wp2_with fail
  go_loopw [9] (fun iv wr => ∃ i : Nat, i ≤ rooms.length ∧ iv = .int .i64 (i : Int) ∧ Fr [] w5 wr) (fun iv _ => rooms.length - (intOf iv).toNat)
  case atStart => exact ⟨0, by omega, rfl, Fr.refl _ _⟩
  case round =>
    obtain ⟨i, hi, rfl, hf⟩ := hrel
    have HF := Lib.hid hf
    have c6 := K6.out wr hf
    clear hf
    by_cases hil : i < rooms.length
    · have hili : (i : Int) < (rooms.length : Int) := by omega
      have HBR := Lib.hid (KEEP.out wr HF.out)
      go_wp2_with (refine wpList_loadB rfl 31 (Operand.tmp 7) rfl b1 16 rfl C 31 (0, 0) HBR.out _ Try.underlying31 rfl HCS.out infoSetup ?_)
      refine (QRooms.out wr HF.out (i : Int)).mono ?_
      rintro e wA ⟨oA, cA, rfl, hsA, fA, -⟩
      obtain ⟨L, hL⟩ : ∃ L, L = roomsVis rooms doors (i : Int) := ⟨_, rfl⟩
      have HSELF := Lib.hid (by rw [hL]; exact rooms_self hil : (i : Int) ∈ L)
      have HBACK := Lib.hid (fun x (hx : x ∈ L) => (by rw [hL] at hx; exact rooms_back hil hx : (i : Int) ∈ roomsVis rooms doors x))
      have HSORT := Lib.hid (fun a b (hab : a < b) (hb : b < L.length) => (by subst hL; exact rooms_sorted hil hab hb : L[a] < L[b]))
      rw [← hL] at hsA ⊢
      have HA := Lib.hid (HF.out.trans fA (by simp [Ext]))
      have SA := Lib.hid hsA
      have hLl : L.length ≤ 9223372036854775807 := by have := hsA.rd.2.1; unfold maxLen at this; omega
      clear fA hsA hL c6
      go_wp2_with fail
      refine (QHas.out _ _ _ _ _ SA.out HSELF.out).mono ?_
      rintro e wB ⟨rfl, hwB⟩
      rw [← hwB]
      clear hwB
      go_wp2_with fail
      obtain ⟨wo, rfl⟩ : ∃ wo : World, wo = wr := ⟨_, rfl⟩
      go_loopw [11] (fun iv wr => ∃ k : Nat, k ≤ L.length ∧ iv = .int .i64 (k : Int) ∧ Fr [] wA wr) (fun iv _ => L.length - (intOf iv).toNat)
      case atStart => exact ⟨0, by omega, rfl, Fr.refl _ _⟩
      case round =>
        obtain ⟨k, hk, rfl, hf⟩ := hrel
        have HG := Lib.hid hf
        clear hf
        by_cases hkl : k < L.length
        · have hkli : (k : Int) < (L.length : Int) := by omega
          obtain ⟨g, off, cur, rfl, hg, -, -, -⟩ := SA.out.at (by have := SA.out.2.2.1; omega)
          have KC := Lib.hid (fun (u : World) (hu : Fr [] wA u) (j : Nat) (hj : j < L.length) => by
            obtain ⟨g', off', cur', e', hg', -, hc, -⟩ := (SA.out.fr hu (by simp)).at (by have := SA.out.2.2.1; omega)
            cases e'
            rw [hc j (by omega), ints_get, List.getElem?_eq_getElem hj]; rfl : ∀ u, Fr [] wA u → ∀ j (hj : j < L.length), u.cell? ⟨g, off + j, none⟩ = some (.int .i64 L[j]))
          obtain ⟨x, hx⟩ : ∃ x, x = L[k] := ⟨_, rfl⟩
          have HIN := Lib.hid (HBACK.out x (by rw [hx]; exact List.getElem_mem hkl))
          have HX := Lib.hid hx
          have HDk := Lib.hid (HG.out.drew)
          have KP := Lib.hid (fun (u : World) (hu : Fr [] wA u) => (⟨KEEP.out u (HA.out.trans hu (by simp [Ext])), by rw [HX.out]; exact KC.out u hu k hkl⟩ : u.heap[b1]? = some (.cells C 31 (0, 0)) ∧ u.cell? ⟨g, off + k, none⟩ = some (.int .i64 x)))
          have QRooms := Lib.hid (fun (u : World) (hu : Fr [] wA u) => QRooms.out u (HA.out.trans hu (by simp [Ext])))
          clear hx hg
          by_cases hk0 : k = 0
          · have hkd : decide ((0 : Int) < (k : Int)) = false := decide_eq_false (by omega)
            have hkn : decide (0 < k) = false := decide_eq_false (by omega)
            clear hk0
            go_upto_region 12 with fail
            refine wp_region_held_drew (S := fun u => u.heap[b1]? = some (.cells C 31 (0, 0)) ∧ u.cell? ⟨g, off + k, none⟩ = some (.int .i64 x)) (by kernel_rfl) (KP.out _ HDk.out) (fun hHeld => ?_)
            refine wpAnyH_takeL (i := 0) (v := _) rfl (by kernel_rfl) (by kernel_rfl) (by kernel_rfl) (fun _ _ _ h => h) (Or.inl ⟨by rfl, (by intro w' hSw; (try dsimp only at hSw); obtain ⟨-, g1⟩ := hSw; go_simp; try with_reducible rfl)⟩) (by assumption) ?_
            try simp only [Act.put, List.setIfInBounds_toArray, List.set_cons_zero, List.set_cons_succ]
            refine wpAnyH_takeL (i := 1) (v := _) rfl (by kernel_rfl) (by kernel_rfl) (by kernel_rfl) (fun _ _ _ h => h) (Or.inl ⟨by rfl, (by intro w' hSw; (try dsimp only at hSw); obtain ⟨-, g1⟩ := hSw; go_simp; try with_reducible rfl)⟩) (by assumption) ?_
            try simp only [Act.put, List.setIfInBounds_toArray, List.set_cons_zero, List.set_cons_succ]
            refine wpAnyH_takeL (i := 2) (v := _) rfl (by kernel_rfl) (by kernel_rfl) (by kernel_rfl) (fun _ _ _ h => h) (Or.inl ⟨by rfl, (by intro w' hSw; (try dsimp only at hSw); obtain ⟨-, g1⟩ := hSw; go_simp; try with_reducible rfl)⟩) (by assumption) ?_
            try simp only [Act.put, List.setIfInBounds_toArray, List.set_cons_zero, List.set_cons_succ]
            refine wpAnyH_takeL (i := 3) (v := undef) rfl (by kernel_rfl) (by kernel_rfl) (by kernel_rfl) (fun _ _ _ h => h) (Or.inr ⟨by rfl, rfl⟩) (by assumption) ?_
            try simp only [Act.put, List.setIfInBounds_toArray, List.set_cons_zero, List.set_cons_succ]
            refine wpAnyH_takeL (i := 4) (v := undef) rfl (by kernel_rfl) (by kernel_rfl) (by kernel_rfl) (fun _ _ _ h => h) (Or.inr ⟨by rfl, rfl⟩) (by assumption) ?_
            try simp only [Act.put, List.setIfInBounds_toArray, List.set_cons_zero, List.set_cons_succ]
            refine wpAnyH_takeL (i := 5) (v := undef) rfl (by kernel_rfl) (by kernel_rfl) (by kernel_rfl) (fun _ _ _ h => h) (Or.inr ⟨by rfl, rfl⟩) (by assumption) ?_
            try simp only [Act.put, List.setIfInBounds_toArray, List.set_cons_zero, List.set_cons_succ]
            refine wpAnyH_takeL (i := 6) (v := undef) rfl (by kernel_rfl) (by kernel_rfl) (by kernel_rfl) (fun _ _ _ h => h) (Or.inr ⟨by rfl, rfl⟩) (by assumption) ?_
            try simp only [Act.put, List.setIfInBounds_toArray, List.set_cons_zero, List.set_cons_succ]
            refine wpAnyH_takeL (i := 7) (v := undef) rfl (by kernel_rfl) (by kernel_rfl) (by kernel_rfl) (fun _ _ _ h => h) (Or.inr ⟨by rfl, rfl⟩) (by assumption) ?_
            try simp only [Act.put, List.setIfInBounds_toArray, List.set_cons_zero, List.set_cons_succ]
            refine wpAnyH_takeL (i := 8) (v := undef) rfl (by kernel_rfl) (by kernel_rfl) (by kernel_rfl) (fun _ _ _ h => h) (Or.inr ⟨by rfl, rfl⟩) (by assumption) ?_
            try simp only [Act.put, List.setIfInBounds_toArray, List.set_cons_zero, List.set_cons_succ]
            refine wpAnyH_takeL (i := 9) (v := undef) rfl (by kernel_rfl) (by kernel_rfl) (by kernel_rfl) (fun _ _ _ h => h) (Or.inr ⟨by rfl, rfl⟩) (by assumption) ?_
            try simp only [Act.put, List.setIfInBounds_toArray, List.set_cons_zero, List.set_cons_succ]
            refine wpAnyH_takeL (i := 10) (v := undef) rfl (by kernel_rfl) (by kernel_rfl) (by kernel_rfl) (fun _ _ _ h => h) (Or.inr ⟨by rfl, rfl⟩) (by assumption) ?_
            try simp only [Act.put, List.setIfInBounds_toArray, List.set_cons_zero, List.set_cons_succ]
            refine wpAnyH_takeL (i := 11) (v := undef) rfl (by kernel_rfl) (by kernel_rfl) (by kernel_rfl) (fun _ _ _ h => h) (Or.inr ⟨by rfl, rfl⟩) (by assumption) ?_
            try simp only [Act.put, List.setIfInBounds_toArray, List.set_cons_zero, List.set_cons_succ]
            refine wpAnyH_takeL (i := 12) (v := undef) rfl (by kernel_rfl) (by kernel_rfl) (by kernel_rfl) (fun _ _ _ h => h) (Or.inr ⟨by rfl, rfl⟩) (by assumption) ?_
            try simp only [Act.put, List.setIfInBounds_toArray, List.set_cons_zero, List.set_cons_succ]
            refine wpAnyH_takeL (i := 13) (v := _) rfl (by kernel_rfl) (by kernel_rfl) (by kernel_rfl) (fun _ _ _ h => h) (Or.inl ⟨by rfl, (by intro w' hSw; (try dsimp only at hSw); obtain ⟨-, g1⟩ := hSw; go_simp; try with_reducible rfl)⟩) (by assumption) ?_
            try simp only [Act.put, List.setIfInBounds_toArray, List.set_cons_zero, List.set_cons_succ]
            refine wpAnyH_takeL (i := 14) (v := _) rfl (by kernel_rfl) (by kernel_rfl) (by kernel_rfl) (fun _ _ _ h => h) (Or.inl ⟨by rfl, (by intro w' hSw; (try dsimp only at hSw); obtain ⟨-, g1⟩ := hSw; go_simp; try with_reducible rfl)⟩) (by assumption) ?_
            try simp only [Act.put, List.setIfInBounds_toArray, List.set_cons_zero, List.set_cons_succ]
            refine wpAnyH_takeL (i := 15) (v := (.agg C)) rfl (by kernel_rfl) (by kernel_rfl) (by kernel_rfl) (fun _ _ _ h => h) (yieldsIf_load_mid (by rfl) 31 (Operand.tmp 7) rfl b1 0 rfl C.toList _ (fun w' hw' => range_blk (c := C) hw'.1) Try.underlying31 rfl HCL0.out) (by assumption) ?_
            try simp only [Act.put, List.setIfInBounds_toArray, List.set_cons_zero, List.set_cons_succ]
            refine wpAnyH_takeL (i := 16) (v := _) rfl (by kernel_rfl) (by kernel_rfl) (by kernel_rfl) (fun _ _ _ h => h) (Or.inl ⟨by rfl, (by intro w' hSw; (try dsimp only at hSw); obtain ⟨-, g1⟩ := hSw; go_simp; try with_reducible rfl)⟩) (by assumption) ?_
            try simp only [Act.put, List.setIfInBounds_toArray, List.set_cons_zero, List.set_cons_succ]
            refine wpAnyH_takeL (i := 17) (v := _) rfl (by kernel_rfl) (by kernel_rfl) (by kernel_rfl) (fun _ _ _ h => h) (Or.inl ⟨by rfl, (by intro w' hSw; (try dsimp only at hSw); obtain ⟨-, g1⟩ := hSw; go_simp; try with_reducible rfl)⟩) (by assumption) ?_
            try simp only [Act.put, List.setIfInBounds_toArray, List.set_cons_zero, List.set_cons_succ]
            refine wpAnyH_takeL (i := 18) (v := _) rfl (by kernel_rfl) (by kernel_rfl) (by kernel_rfl) (fun _ _ _ h => h) (Or.inl ⟨by rfl, (by intro w' hSw; (try dsimp only at hSw); obtain ⟨-, g1⟩ := hSw; go_simp; try with_reducible rfl)⟩) (by assumption) ?_
            try simp only [Act.put, List.setIfInBounds_toArray, List.set_cons_zero, List.set_cons_succ]
            refine wpAnyH_takeL (i := 19) (v := _) rfl (by kernel_rfl) (by kernel_rfl) (by kernel_rfl) (fun _ _ _ h => h) (Or.inl ⟨by rfl, (by intro w' hSw; (try dsimp only at hSw); obtain ⟨-, g1⟩ := hSw; go_simp; try with_reducible rfl)⟩) (by assumption) ?_
            try simp only [Act.put, List.setIfInBounds_toArray, List.set_cons_zero, List.set_cons_succ]
            refine wpAnyH_takeL (i := 21) (v := _) rfl (by kernel_rfl) (by kernel_rfl) (by kernel_rfl) (fun _ _ _ h => h) (Or.inl ⟨by rfl, (by intro w' hSw; (try dsimp only at hSw); obtain ⟨-, g1⟩ := hSw; go_simp; try with_reducible rfl)⟩) (by assumption) ?_
            try simp only [Act.put, List.setIfInBounds_toArray, List.set_cons_zero, List.set_cons_succ]
            refine wpAnyH_ready (rs := [20]) (by kernel_rfl) (by simp) ?_
            refine AllReadyH.consL (i := 20) rfl (fun K hK => ?_) AllReadyH.nil
            go_simp
            (refine (QRooms.out _ HDk.out x).mono ?_; rintro e wB ⟨oB, cB, rfl, hsB, fB, -⟩; have HB := Lib.hid (HDk.out.trans fB (by simp [Ext])); have SB := Lib.hid hsB; clear fB hsB)
            refine hK.out _ _ (KP.out _ HB.out) (fun hHeld => ?_)
            clear hK K
            try simp only [Act.put, List.setIfInBounds_toArray, List.set_cons_zero, List.set_cons_succ]
            refine wpAnyH_ready (rs := [22]) (by kernel_rfl) (by simp) ?_
            refine AllReadyH.consL (i := 22) rfl (fun K hK => ?_) AllReadyH.nil
            go_simp
            (refine (QHas.out _ _ _ _ _ SB.out HIN.out).mono ?_; rintro e wE ⟨rfl, hwE⟩; have HE := Lib.hid (hwE ▸ HB.out : Fr [] wA wE); clear hwE)
            refine hK.out _ _ (KP.out _ HE.out) (fun hHeld => ?_)
            clear hK K
            try simp only [Act.put, List.setIfInBounds_toArray, List.set_cons_zero, List.set_cons_succ]
            refine wpAnyH_takeL (i := 23) (v := _) rfl (by kernel_rfl) (by kernel_rfl) (by kernel_rfl) (fun _ _ _ h => h) (Or.inl ⟨by rfl, (by intro w' hSw; (try dsimp only at hSw); obtain ⟨-, g1⟩ := hSw; go_simp; try with_reducible rfl)⟩) (by assumption) ?_
            try simp only [Act.put, List.setIfInBounds_toArray, List.set_cons_zero, List.set_cons_succ]
            refine wpAnyH_takeL (i := 24) (v := _) rfl (by kernel_rfl) (by kernel_rfl) (by kernel_rfl) (fun _ _ _ h => h) (Or.inl ⟨by rfl, (by intro w' hSw; (try dsimp only at hSw); obtain ⟨-, g1⟩ := hSw; go_simp; try with_reducible rfl)⟩) (by assumption) ?_
            try simp only [Act.put, List.setIfInBounds_toArray, List.set_cons_zero, List.set_cons_succ]
            refine wpAnyH_done (by kernel_rfl) ?_ _
            clear hHeld
            go_wp2_with fail
            go_roundw
            case rel => exact ⟨k + 1, by omega, by go_num, HE.out⟩
            case measure => simp [intOf]; omega
          · have hkd : decide ((0 : Int) < (k : Int)) = true := decide_eq_true (by omega)
            have hkn : decide (0 < k) = true := decide_eq_true (by omega)
            obtain ⟨j, hj⟩ : ∃ j : Nat, (k : Int) - 1 = (j : Int) := ⟨k - 1, by omega⟩
            have hjw : IntKind.i64.wrap ((k : Int) - 1) = (j : Int) := by rw [IntWalk.i64_in _ (by omega)]; exact hj
            have hjl : j < L.length := by omega
            have hjli : (j : Int) < (L.length : Int) := by omega
            obtain ⟨y, hy⟩ : ∃ y, y = L[j] := ⟨_, rfl⟩
            have hyx : decide (x ≤ y) = false := decide_eq_false (by have := HSORT.out j k (by omega) hkl; rw [HX.out, hy]; omega)
            have KPb := Lib.hid (fun (u : World) (hu : Fr [] wA u) => (⟨(KP.out u hu).1, (KP.out u hu).2, by rw [hy]; exact KC.out u hu j hjl⟩ : u.heap[b1]? = some (.cells C 31 (0, 0)) ∧ u.cell? ⟨g, off + k, none⟩ = some (.int .i64 x) ∧ u.cell? ⟨g, off + j, none⟩ = some (.int .i64 y)))
            clear hk0 hj hy
            go_upto_region 12 with fail
            refine wp_region_held_drew (S := fun u => u.heap[b1]? = some (.cells C 31 (0, 0)) ∧ u.cell? ⟨g, off + k, none⟩ = some (.int .i64 x) ∧ u.cell? ⟨g, off + j, none⟩ = some (.int .i64 y)) (by kernel_rfl) (KPb.out _ HDk.out) (fun hHeld => ?_)
            refine wpAnyH_takeL (i := 0) (v := _) rfl (by kernel_rfl) (by kernel_rfl) (by kernel_rfl) (fun _ _ _ h => h) (Or.inl ⟨by rfl, (by intro w' hSw; (try dsimp only at hSw); obtain ⟨-, g1, g2⟩ := hSw; go_simp; try with_reducible rfl)⟩) (by assumption) ?_
            try simp only [Act.put, List.setIfInBounds_toArray, List.set_cons_zero, List.set_cons_succ]
            refine wpAnyH_takeL (i := 1) (v := _) rfl (by kernel_rfl) (by kernel_rfl) (by kernel_rfl) (fun _ _ _ h => h) (Or.inl ⟨by rfl, (by intro w' hSw; (try dsimp only at hSw); obtain ⟨-, g1, g2⟩ := hSw; go_simp; try with_reducible rfl)⟩) (by assumption) ?_
            try simp only [Act.put, List.setIfInBounds_toArray, List.set_cons_zero, List.set_cons_succ]
            refine wpAnyH_takeL (i := 2) (v := _) rfl (by kernel_rfl) (by kernel_rfl) (by kernel_rfl) (fun _ _ _ h => h) (Or.inl ⟨by rfl, (by intro w' hSw; (try dsimp only at hSw); obtain ⟨-, g1, g2⟩ := hSw; go_simp; try with_reducible rfl)⟩) (by assumption) ?_
            try simp only [Act.put, List.setIfInBounds_toArray, List.set_cons_zero, List.set_cons_succ]
            refine wpAnyH_takeL (i := 3) (v := _) rfl (by kernel_rfl) (by kernel_rfl) (by kernel_rfl) (fun _ _ _ h => h) (Or.inl ⟨by rfl, (by intro w' hSw; (try dsimp only at hSw); obtain ⟨-, g1, g2⟩ := hSw; go_simp; try with_reducible rfl)⟩) (by assumption) ?_
            try simp only [Act.put, List.setIfInBounds_toArray, List.set_cons_zero, List.set_cons_succ]
            refine wpAnyH_takeL (i := 4) (v := _) rfl (by kernel_rfl) (by kernel_rfl) (by kernel_rfl) (fun _ _ _ h => h) (Or.inl ⟨by rfl, (by intro w' hSw; (try dsimp only at hSw); obtain ⟨-, g1, g2⟩ := hSw; go_simp; try with_reducible rfl)⟩) (by assumption) ?_
            try simp only [Act.put, List.setIfInBounds_toArray, List.set_cons_zero, List.set_cons_succ]
            refine wpAnyH_takeL (i := 5) (v := _) rfl (by kernel_rfl) (by kernel_rfl) (by kernel_rfl) (fun _ _ _ h => h) (Or.inl ⟨by rfl, (by intro w' hSw; (try dsimp only at hSw); obtain ⟨-, g1, g2⟩ := hSw; go_simp; try with_reducible rfl)⟩) (by assumption) ?_
            try simp only [Act.put, List.setIfInBounds_toArray, List.set_cons_zero, List.set_cons_succ]
            refine wpAnyH_takeL (i := 6) (v := _) rfl (by kernel_rfl) (by kernel_rfl) (by kernel_rfl) (fun _ _ _ h => h) (Or.inl ⟨by rfl, (by intro w' hSw; (try dsimp only at hSw); obtain ⟨-, g1, g2⟩ := hSw; go_simp; try with_reducible rfl)⟩) (by assumption) ?_
            try simp only [Act.put, List.setIfInBounds_toArray, List.set_cons_zero, List.set_cons_succ]
            refine wpAnyH_takeL (i := 7) (v := _) rfl (by kernel_rfl) (by kernel_rfl) (by kernel_rfl) (fun _ _ _ h => h) (Or.inl ⟨by rfl, (by intro w' hSw; (try dsimp only at hSw); obtain ⟨-, g1, g2⟩ := hSw; go_simp; try with_reducible rfl)⟩) (by assumption) ?_
            try simp only [Act.put, List.setIfInBounds_toArray, List.set_cons_zero, List.set_cons_succ]
            refine wpAnyH_takeL (i := 8) (v := _) rfl (by kernel_rfl) (by kernel_rfl) (by kernel_rfl) (fun _ _ _ h => h) (Or.inl ⟨by rfl, (by intro w' hSw; (try dsimp only at hSw); obtain ⟨-, g1, g2⟩ := hSw; go_simp; try with_reducible rfl)⟩) (by assumption) ?_
            try simp only [Act.put, List.setIfInBounds_toArray, List.set_cons_zero, List.set_cons_succ]
            refine wpAnyH_takeL (i := 9) (v := _) rfl (by kernel_rfl) (by kernel_rfl) (by kernel_rfl) (fun _ _ _ h => h) (Or.inl ⟨by rfl, (by intro w' hSw; (try dsimp only at hSw); obtain ⟨-, g1, g2⟩ := hSw; go_simp; try with_reducible rfl)⟩) (by assumption) ?_
            try simp only [Act.put, List.setIfInBounds_toArray, List.set_cons_zero, List.set_cons_succ]
            refine wpAnyH_takeL (i := 10) (v := _) rfl (by kernel_rfl) (by kernel_rfl) (by kernel_rfl) (fun _ _ _ h => h) (Or.inl ⟨by rfl, (by intro w' hSw; (try dsimp only at hSw); obtain ⟨-, g1, g2⟩ := hSw; go_simp; try with_reducible rfl)⟩) (by assumption) ?_
            try simp only [Act.put, List.setIfInBounds_toArray, List.set_cons_zero, List.set_cons_succ]
            refine wpAnyH_takeL (i := 11) (v := _) rfl (by kernel_rfl) (by kernel_rfl) (by kernel_rfl) (fun _ _ _ h => h) (Or.inl ⟨by rfl, (by intro w' hSw; (try dsimp only at hSw); obtain ⟨-, g1, g2⟩ := hSw; go_simp; try with_reducible rfl)⟩) (by assumption) ?_
            try simp only [Act.put, List.setIfInBounds_toArray, List.set_cons_zero, List.set_cons_succ]
            refine wpAnyH_takeL (i := 12) (v := _) rfl (by kernel_rfl) (by kernel_rfl) (by kernel_rfl) (fun _ _ _ h => h) (Or.inl ⟨by rfl, (by intro w' hSw; (try dsimp only at hSw); obtain ⟨-, g1, g2⟩ := hSw; go_simp; try with_reducible rfl)⟩) (by assumption) ?_
            try simp only [Act.put, List.setIfInBounds_toArray, List.set_cons_zero, List.set_cons_succ]
            refine wpAnyH_takeL (i := 13) (v := _) rfl (by kernel_rfl) (by kernel_rfl) (by kernel_rfl) (fun _ _ _ h => h) (Or.inl ⟨by rfl, (by intro w' hSw; (try dsimp only at hSw); obtain ⟨-, g1, g2⟩ := hSw; go_simp; try with_reducible rfl)⟩) (by assumption) ?_
            try simp only [Act.put, List.setIfInBounds_toArray, List.set_cons_zero, List.set_cons_succ]
            refine wpAnyH_takeL (i := 14) (v := _) rfl (by kernel_rfl) (by kernel_rfl) (by kernel_rfl) (fun _ _ _ h => h) (Or.inl ⟨by rfl, (by intro w' hSw; (try dsimp only at hSw); obtain ⟨-, g1, g2⟩ := hSw; go_simp; try with_reducible rfl)⟩) (by assumption) ?_
            try simp only [Act.put, List.setIfInBounds_toArray, List.set_cons_zero, List.set_cons_succ]
            refine wpAnyH_takeL (i := 15) (v := (.agg C)) rfl (by kernel_rfl) (by kernel_rfl) (by kernel_rfl) (fun _ _ _ h => h) (yieldsIf_load_mid (by rfl) 31 (Operand.tmp 7) rfl b1 0 rfl C.toList _ (fun w' hw' => range_blk (c := C) hw'.1) Try.underlying31 rfl HCL0.out) (by assumption) ?_
            try simp only [Act.put, List.setIfInBounds_toArray, List.set_cons_zero, List.set_cons_succ]
            refine wpAnyH_takeL (i := 16) (v := _) rfl (by kernel_rfl) (by kernel_rfl) (by kernel_rfl) (fun _ _ _ h => h) (Or.inl ⟨by rfl, (by intro w' hSw; (try dsimp only at hSw); obtain ⟨-, g1, g2⟩ := hSw; go_simp; try with_reducible rfl)⟩) (by assumption) ?_
            try simp only [Act.put, List.setIfInBounds_toArray, List.set_cons_zero, List.set_cons_succ]
            refine wpAnyH_takeL (i := 17) (v := _) rfl (by kernel_rfl) (by kernel_rfl) (by kernel_rfl) (fun _ _ _ h => h) (Or.inl ⟨by rfl, (by intro w' hSw; (try dsimp only at hSw); obtain ⟨-, g1, g2⟩ := hSw; go_simp; try with_reducible rfl)⟩) (by assumption) ?_
            try simp only [Act.put, List.setIfInBounds_toArray, List.set_cons_zero, List.set_cons_succ]
            refine wpAnyH_takeL (i := 18) (v := _) rfl (by kernel_rfl) (by kernel_rfl) (by kernel_rfl) (fun _ _ _ h => h) (Or.inl ⟨by rfl, (by intro w' hSw; (try dsimp only at hSw); obtain ⟨-, g1, g2⟩ := hSw; go_simp; try with_reducible rfl)⟩) (by assumption) ?_
            try simp only [Act.put, List.setIfInBounds_toArray, List.set_cons_zero, List.set_cons_succ]
            refine wpAnyH_takeL (i := 19) (v := _) rfl (by kernel_rfl) (by kernel_rfl) (by kernel_rfl) (fun _ _ _ h => h) (Or.inl ⟨by rfl, (by intro w' hSw; (try dsimp only at hSw); obtain ⟨-, g1, g2⟩ := hSw; go_simp; try with_reducible rfl)⟩) (by assumption) ?_
            try simp only [Act.put, List.setIfInBounds_toArray, List.set_cons_zero, List.set_cons_succ]
            refine wpAnyH_takeL (i := 21) (v := _) rfl (by kernel_rfl) (by kernel_rfl) (by kernel_rfl) (fun _ _ _ h => h) (Or.inl ⟨by rfl, (by intro w' hSw; (try dsimp only at hSw); obtain ⟨-, g1, g2⟩ := hSw; go_simp; try with_reducible rfl)⟩) (by assumption) ?_
            try simp only [Act.put, List.setIfInBounds_toArray, List.set_cons_zero, List.set_cons_succ]
            refine wpAnyH_ready (rs := [20]) (by kernel_rfl) (by simp) ?_
            refine AllReadyH.consL (i := 20) rfl (fun K hK => ?_) AllReadyH.nil
            go_simp
            (refine (QRooms.out _ HDk.out x).mono ?_; rintro e wB ⟨oB, cB, rfl, hsB, fB, -⟩; have HB := Lib.hid (HDk.out.trans fB (by simp [Ext])); have SB := Lib.hid hsB; clear fB hsB)
            refine hK.out _ _ (KPb.out _ HB.out) (fun hHeld => ?_)
            clear hK K
            try simp only [Act.put, List.setIfInBounds_toArray, List.set_cons_zero, List.set_cons_succ]
            refine wpAnyH_ready (rs := [22]) (by kernel_rfl) (by simp) ?_
            refine AllReadyH.consL (i := 22) rfl (fun K hK => ?_) AllReadyH.nil
            go_simp
            (refine (QHas.out _ _ _ _ _ SB.out HIN.out).mono ?_; rintro e wE ⟨rfl, hwE⟩; have HE := Lib.hid (hwE ▸ HB.out : Fr [] wA wE); clear hwE)
            refine hK.out _ _ (KPb.out _ HE.out) (fun hHeld => ?_)
            clear hK K
            try simp only [Act.put, List.setIfInBounds_toArray, List.set_cons_zero, List.set_cons_succ]
            refine wpAnyH_takeL (i := 23) (v := _) rfl (by kernel_rfl) (by kernel_rfl) (by kernel_rfl) (fun _ _ _ h => h) (Or.inl ⟨by rfl, (by intro w' hSw; (try dsimp only at hSw); obtain ⟨-, g1, g2⟩ := hSw; go_simp; try with_reducible rfl)⟩) (by assumption) ?_
            try simp only [Act.put, List.setIfInBounds_toArray, List.set_cons_zero, List.set_cons_succ]
            refine wpAnyH_takeL (i := 24) (v := _) rfl (by kernel_rfl) (by kernel_rfl) (by kernel_rfl) (fun _ _ _ h => h) (Or.inl ⟨by rfl, (by intro w' hSw; (try dsimp only at hSw); obtain ⟨-, g1, g2⟩ := hSw; go_simp; try with_reducible rfl)⟩) (by assumption) ?_
            try simp only [Act.put, List.setIfInBounds_toArray, List.set_cons_zero, List.set_cons_succ]
            refine wpAnyH_done (by kernel_rfl) ?_ _
            clear hHeld
            go_wp2_with fail
            go_roundw
            case rel => exact ⟨k + 1, by omega, by go_num, HE.out⟩
            case measure => simp [intOf]; omega
        · go_wp2_with fail
          go_roundw
          case rel => exact ⟨i + 1, by omega, by go_num, HA.out.trans HG.out (by simp [Ext])⟩
          case measure => simp [intOf]; omega
    · go_wp2_with fail
      obtain ⟨wo, rfl⟩ : ∃ wo : World, wo = wr := ⟨_, rfl⟩
      go_loopw [12] (fun iv wr => ∃ p : Nat, p ≤ pl ∧ iv = .int .i64 (p : Int) ∧ Fr [] w5 wr) (fun iv _ => pl - (intOf iv).toNat)
      case atStart => exact ⟨0, by omega, rfl, HF.out⟩
      case round =>
        obtain ⟨p, hp, rfl, hf⟩ := hrel
        have HF1 := Lib.hid hf
        have c0 := K0.out wr hf
        clear hf
        by_cases hpp : p < pl
        · have hppi : (p : Int) < (pl : Int) := by omega
          go_wp2_with fail
          obtain ⟨wi, rfl⟩ : ∃ wi : World, wi = wr := ⟨_, rfl⟩
          go_loopw [13] (fun iv wr => ∃ q : Nat, q ≤ pl ∧ iv = .int .i64 (q : Int) ∧ Fr [] w5 wr) (fun iv _ => pl - (intOf iv).toNat)
          case atStart => exact ⟨0, by omega, rfl, HF1.out⟩
          case round =>
            clear c0
            obtain ⟨q, hq, rfl, hf⟩ := hrel
            have HF2 := Lib.hid hf
            have c0 := K0.out wr hf
            clear hf
            by_cases hqq : q < pl
            · have hqqi : (q : Int) < (pl : Int) := by omega
              have HDr2 := Lib.hid (HF2.out.drew)
              have QS2 := Lib.hid (fun u (hu : Fr [] w5 u) => (by rw [HSY.out p q hpp hqq]; exact QSees.out u hu (q : Int) (p : Int) : Calls Try.prog 21 #[.agg C, .slice (some ⟨bc, 0, none⟩) n n, .int .i64 (q : Int), .int .i64 (p : Int)] u (fun e w' => e = .returned (.bool (seesB s rooms doors cells (p : Int) (q : Int))) ∧ Fr [] u w')))
              go_upto_region 20 with fail
              refine wp_region_held_drew (S := fun u => u.heap[b1]? = some (.cells C 31 (0, 0))) (by kernel_rfl) (KEEP.out _ HDr2.out) (fun hHeld => ?_)
              refine wpAnyH_takeL (i := 0) (v := (.agg C)) rfl (by kernel_rfl) (by kernel_rfl) (by kernel_rfl) (fun _ _ _ h => h) (yieldsIf_load_mid (by rfl) 31 (Operand.tmp 7) rfl b1 0 rfl C.toList _ (fun w' hw' => range_blk (c := C) hw') Try.underlying31 rfl HCL0.out) (by assumption) ?_
              try simp only [Act.put, List.setIfInBounds_toArray, List.set_cons_zero, List.set_cons_succ]
              refine wpAnyH_takeL (i := 1) (v := _) rfl (by kernel_rfl) (by kernel_rfl) (by kernel_rfl) (fun _ _ _ h => h) (Or.inl ⟨by rfl, (by intro w' hSw; (try dsimp only at hSw); skip; go_simp; try with_reducible rfl)⟩) (by assumption) ?_
              try simp only [Act.put, List.setIfInBounds_toArray, List.set_cons_zero, List.set_cons_succ]
              refine wpAnyH_takeL (i := 2) (v := _) rfl (by kernel_rfl) (by kernel_rfl) (by kernel_rfl) (fun _ _ _ h => h) (Or.inl ⟨by rfl, (by intro w' hSw; (try dsimp only at hSw); skip; go_simp; try with_reducible rfl)⟩) (by assumption) ?_
              try simp only [Act.put, List.setIfInBounds_toArray, List.set_cons_zero, List.set_cons_succ]
              refine wpAnyH_takeL (i := 3) (v := _) rfl (by kernel_rfl) (by kernel_rfl) (by kernel_rfl) (fun _ _ _ h => h) (Or.inl ⟨by rfl, (by intro w' hSw; (try dsimp only at hSw); skip; go_simp; try with_reducible rfl)⟩) (by assumption) ?_
              try simp only [Act.put, List.setIfInBounds_toArray, List.set_cons_zero, List.set_cons_succ]
              refine wpAnyH_takeL (i := 5) (v := (.agg C)) rfl (by kernel_rfl) (by kernel_rfl) (by kernel_rfl) (fun _ _ _ h => h) (yieldsIf_load_mid (by rfl) 31 (Operand.tmp 7) rfl b1 0 rfl C.toList _ (fun w' hw' => range_blk (c := C) hw') Try.underlying31 rfl HCL0.out) (by assumption) ?_
              try simp only [Act.put, List.setIfInBounds_toArray, List.set_cons_zero, List.set_cons_succ]
              refine wpAnyH_takeL (i := 6) (v := _) rfl (by kernel_rfl) (by kernel_rfl) (by kernel_rfl) (fun _ _ _ h => h) (Or.inl ⟨by rfl, (by intro w' hSw; (try dsimp only at hSw); skip; go_simp; try with_reducible rfl)⟩) (by assumption) ?_
              try simp only [Act.put, List.setIfInBounds_toArray, List.set_cons_zero, List.set_cons_succ]
              refine wpAnyH_takeL (i := 7) (v := _) rfl (by kernel_rfl) (by kernel_rfl) (by kernel_rfl) (fun _ _ _ h => h) (Or.inl ⟨by rfl, (by intro w' hSw; (try dsimp only at hSw); skip; go_simp; try with_reducible rfl)⟩) (by assumption) ?_
              try simp only [Act.put, List.setIfInBounds_toArray, List.set_cons_zero, List.set_cons_succ]
              refine wpAnyH_takeL (i := 8) (v := _) rfl (by kernel_rfl) (by kernel_rfl) (by kernel_rfl) (fun _ _ _ h => h) (Or.inl ⟨by rfl, (by intro w' hSw; (try dsimp only at hSw); skip; go_simp; try with_reducible rfl)⟩) (by assumption) ?_
              try simp only [Act.put, List.setIfInBounds_toArray, List.set_cons_zero, List.set_cons_succ]
              refine wpAnyH_ready (rs := [4]) (by kernel_rfl) (by simp) ?_
              refine AllReadyH.consL (i := 4) rfl (fun K hK => ?_) AllReadyH.nil
              go_simp
              (refine (QSees.out _ HDr2.out (p : Int) (q : Int)).mono ?_; rintro e wG ⟨rfl, fG⟩; have HG := Lib.hid (HDr2.out.trans fG (by simp [Ext])); clear fG)
              refine hK.out _ _ (KEEP.out _ HG.out) (fun hHeld => ?_)
              clear hK K
              try simp only [Act.put, List.setIfInBounds_toArray, List.set_cons_zero, List.set_cons_succ]
              refine wpAnyH_ready (rs := [9]) (by kernel_rfl) (by simp) ?_
              refine AllReadyH.consL (i := 9) rfl (fun K hK => ?_) AllReadyH.nil
              go_simp
              (refine (QS2.out _ HG.out).mono ?_; rintro e wH ⟨rfl, fH⟩; have HH := Lib.hid (HG.out.trans fH (by simp [Ext])); clear fH)
              refine hK.out _ _ (KEEP.out _ HH.out) (fun hHeld => ?_)
              clear hK K
              try simp only [Act.put, List.setIfInBounds_toArray, List.set_cons_zero, List.set_cons_succ]
              refine wpAnyH_takeL (i := 10) (v := _) rfl (by kernel_rfl) (by kernel_rfl) (by kernel_rfl) (fun _ _ _ h => h) (Or.inl ⟨by rfl, (by intro w' hSw; (try dsimp only at hSw); skip; go_simp; try with_reducible rfl)⟩) (by assumption) ?_
              try simp only [Act.put, List.setIfInBounds_toArray, List.set_cons_zero, List.set_cons_succ]
              refine wpAnyH_done (by kernel_rfl) ?_ _
              clear hHeld
              go_wp2_with fail
              go_roundw
              case rel => exact ⟨q + 1, by omega, by go_num, HH.out⟩
              case measure => simp [intOf]; omega
            · go_wp2_with fail
              go_roundw
              case rel => exact ⟨p + 1, by omega, by go_num, HF2.out⟩
              case measure => simp [intOf]; omega
        · go_wp2_with fail
          refine (lives_any _).mono ?_
          rintro e w9 ⟨rfl, f9⟩
          have F9 := Lib.hid (((F1.out.trans F5.out (by simp [Ext])).trans HF1.out (by simp [Ext])).trans f9 (by simp [Ext]))
          clear f9
          go_wp2_with fail
          go_ret
          exact ⟨rfl, F9.out⟩
end Go.Proofs.Ytdbngpncigjfiaa
