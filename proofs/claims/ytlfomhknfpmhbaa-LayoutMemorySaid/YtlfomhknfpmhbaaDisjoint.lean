/- LayoutDisjoint returns true. -/
import Derived.Test.YtlfomhknfpmhbaaIndices
import Derived.Test.YtlfomhknfpmhbaaMem3
namespace Go.Proofs.Ytlfomhknfpmhbaa
open Go.RowKit

/-- ones from 48 on -/
def usedL (n c : Nat) : List Int := List.replicate 48 0 ++ (List.replicate c 1 ++ List.replicate (n - 48 - c) 0)
theorem usedL_len (n c : Nat) (h : 48 + c ≤ n) : (usedL n c).length = n := by simp [usedL]; omega
theorem usedL_zero (n : Nat) (h : 48 ≤ n) : usedL n 0 = List.replicate n 0 := by
  unfold usedL
  simp only [List.replicate_zero, List.nil_append, Nat.sub_zero]
  rw [List.replicate_append_replicate]
  congr 1
  omega
theorem usedL_at (n c : Nat) (h : 48 + c < n) : (usedL n c)[48 + c]? = some 0 := by
  unfold usedL
  rw [List.getElem?_append_right (by simp), List.length_replicate, show 48 + c - 48 = c by omega, List.getElem?_append_right (by simp), List.length_replicate, Nat.sub_self, List.getElem?_replicate]
  rw [if_pos (by omega)]
theorem usedL_set (n c : Nat) (h : 48 + c < n) : (usedL n c).set (48 + c) 1 = usedL n (c + 1) := by
  unfold usedL
  rw [List.set_append_right _ _ (by simp), List.length_replicate, show 48 + c - 48 = c by omega, List.set_append_right _ _ (by simp), List.length_replicate, Nat.sub_self, show n - 48 - c = (n - 48 - (c + 1)) + 1 by omega, show List.replicate (n - 48 - (c + 1) + 1) (0 : Int) = 0 :: List.replicate (n - 48 - (c + 1)) 0 from rfl, List.set_cons_zero, List.replicate_succ' (n := c)]
  simp
theorem usedL_end (n i : Nat) (hn : 48 ≤ n) (hi : i < n) : (usedL n (n - 48))[i]? = some (if 48 ≤ i then 1 else 0) := by
  unfold usedL
  by_cases h : 48 ≤ i
  · rw [if_pos h, List.getElem?_append_right (by simpa using h), List.length_replicate, List.getElem?_append_left (by simp; omega), List.getElem?_replicate, if_pos (by omega)]
  · rw [if_neg h, List.getElem?_append_left (by simp; omega), List.getElem?_replicate, if_pos (by omega)]

/-- the counters as far as c; the setup in its block -/
def DisQ (w : World) (bu b3 : Nat) (C : Array Value) (n c : Nat) (wr : World) : Prop :=
  wr.heap[bu]? = some (row (usedL n c)) ∧ wr.heap[b3]? = some (.cells C 31 (0, 0)) ∧ Fr [] w wr

theorem DisQ.fr {w : World} {bu b3 : Nat} {C : Array Value} {n c : Nat} {wr w' : World} (h : DisQ w bu b3 C n c wr) (hf : Fr [] wr w') : DisQ w bu b3 C n c w' :=
  ⟨hf.blk h.1 (by simp), hf.blk h.2.1 (by simp), h.2.2.trans hf (by simp [Ext])⟩
theorem DisQ.step {w : World} {bu b3 : Nat} {C : Array Value} {n c : Nat} {wr : World} (h : DisQ w bu b3 C n c wr) (hne : b3 ≠ bu) (hbu : w.heap.size ≤ bu) (hc : 48 + c < n) :
    DisQ w bu b3 C n (c + 1) (wr.setCell ⟨bu, 48 + c, none⟩ (.int .i64 1)) := by
  refine ⟨?_, (setCell_ne (by simpa using hne)).trans h.2.1, h.2.2.setCell (p := ⟨bu, 48 + c, none⟩) (.inr hbu) _⟩
  have := row_set h.1 (48 + c) 1
  rw [usedL_set n c hc] at this
  exact this
theorem DisQ.at {w : World} {bu b3 : Nat} {C : Array Value} {n c : Nat} {wr : World} (h : DisQ w bu b3 C n c wr) (hc : 48 + c < n) :
    wr.cell? ⟨bu, 48 + c, none⟩ = some (.int .i64 0) ∧ wr.frozen? ⟨bu, 48 + c, none⟩ = false := by
  have hl := usedL_len n c (by omega)
  have h1 := row_cell h.1 (k := 48 + c) (by omega)
  have h2 := usedL_at n c hc
  rw [List.getElem?_eq_getElem (by omega)] at h2
  injection h2 with h2
  rw [h2] at h1
  exact ⟨h1, row_frozen h.1 _⟩

set_option maxRecDepth 100000 in
set_option maxHeartbeats 8000000 in
theorem disjoint_walk (w : World) (lo : Option Addr) (lc : Nat) (l : List Int) (hrd : Rd w 1 lo l.length (ints l)) (hb : ∀ x ∈ l, bounded x) :
    Calls Try.prog 6 #[.slice lo l.length lc] w fun e w' => e = .returned (.bool true) ∧ Fr [] w w' := by
  have HSU := Lib.hid (setup_any w lo lc l hrd hb)
  clear hrd hb
  go_enter Try.func6, Try.ntmps6
  go_wp2_with fail
  refine HSU.out.mono ?_
  rintro e w1 ⟨s, bodies, doors, rfl, hs⟩
  have hok := hs.ok
  have F1 := Lib.hid hs.fr
  obtain ⟨pl, hpl⟩ : ∃ pl : Nat, s.players = (pl : Int) := ⟨s.players.toNat, by have := hs.num.1; omega⟩
  obtain ⟨nb, hnb⟩ : ∃ nb, nb = s.nb := ⟨_, rfl⟩
  have hpl3 : pl ≤ 3 := by have := hs.num.1; omega
  have hnb5 : nb ≤ 5 := by have := hs.nb; have := hs.b5; omega
  obtain ⟨n, hn⟩ : ∃ n : Nat, n = 48 + 4 * pl + 8 * nb := ⟨_, rfl⟩
  obtain ⟨C, hC⟩ : ∃ C : Array Value, C = stCells s := ⟨_, rfl⟩
  have hval : s.val = .agg C := by rw [hC]; rfl
  have HCS := Lib.hid (by rw [hC]; rfl : C.size = 16)
  have HC1 := Lib.hid (by rw [hC]; simp [stCells, Value.oneCell'] : C.all (·.oneCell') = true)
  have HC0 := Lib.hid (by rw [hC, ← hpl]; rfl : C[0]? = some (.int .i64 (pl : Int)))
  obtain ⟨bo, hbo⟩ : ∃ bo, bo = s.bo := ⟨_, rfl⟩
  obtain ⟨bc, hbc⟩ : ∃ bc, bc = s.bc := ⟨_, rfl⟩
  have HCB := Lib.hid (by rw [hC, hnb, hbo, hbc]; rfl : C[1]? = some (.slice bo nb bc))
  have HSZ := Lib.hid (fun (u : World) => (by have h := size_any u s hok; rw [hval, show szOf s = (n : Int) by unfold szOf; rw [hpl, hn, hnb]; omega] at h; exact h : Calls Try.prog 21 #[.agg C] u fun e w' => e = .returned (.int .i64 (n : Int)) ∧ Fr [] u w'))
  have HRZ := Lib.hid (fun (u : World) => (by have h := rsize_any u s hok; rw [hval, show szOf s = (n : Int) by unfold szOf; rw [hpl, hn, hnb]; omega] at h; exact h : Calls Try.prog 22 #[.agg C] u fun e w' => e = .returned (.int .i64 (n : Int)) ∧ Fr [] u w'))
  have HPL := Lib.hid (fun (u : World) (p : Nat) (hp : p < pl) (a : Nat) (ha : a = 48 + 4 * p) => (by have h := player_any u s hok (p : Int); rw [hval, show plOf s (p : Int) = (a : Int) by unfold plOf; rw [if_neg (by rw [hpl]; omega)]; omega] at h; exact h : Calls Try.prog 17 #[.agg C, .int .i64 (p : Int)] u fun e w' => e = .returned (.int .i64 (a : Int)) ∧ Fr [] u w'))
  have HBD := Lib.hid (fun (u : World) (p : Nat) (hp : p < nb) (a : Nat) (ha : a = 48 + 4 * pl + 8 * p) => (by have h := body_any u s hok (p : Int); rw [hval, show bdOf s (p : Int) = (a : Int) by unfold bdOf; rw [if_neg (by rw [← hnb]; omega), hpl]; omega] at h; exact h : Calls Try.prog 19 #[.agg C, .int .i64 (p : Int)] u fun e w' => e = .returned (.int .i64 (a : Int)) ∧ Fr [] u w'))
  rw [hval]
  have hn1 : n ≤ 100 := by omega
  have hn48 : 48 ≤ n := by omega
  have HNE := Lib.hid hn
  have hmk := make_ints n (by omega)
  clear hs hC hval hok hpl hnb hbo hbc hn
  go_wp2_with (first | (refine wpList_loadB rfl 31 (Operand.tmp 3) rfl w1.heap.size 16 rfl C 31 (0, 0) B2.out _ Try.underlying31 rfl HCS.out infoSetup ?_) | (refine wpList_storeB rfl 31 (Operand.tmp 3) (Operand.tmp 14) rfl w1.heap.size 16 C rfl rfl _ 31 (by exact alloc_new _ _) rfl HCS.out infoSetup HC1.out ?_; intro w2 hb2 hf2; have F2 := Lib.hid ((F1.out.alloc _).trans hf2 (fun k hk => .inr (by simp at hk; rw [hk]; exact F1.out.size))); have B2 := Lib.hid hb2; clear hb2 hf2))
  obtain ⟨b3, hb3⟩ : ∃ b3, b3 = w1.heap.size := ⟨_, rfl⟩
  rw [← hb3] at B2 ⊢
  clear hb3 F1
  refine (HSZ.out _).mono ?_
  rintro e w3 ⟨rfl, f3⟩
  have F3 := Lib.hid (F2.out.trans f3 (by simp [Ext]))
  have B3 := Lib.hid (f3.blk B2.out (by simp))
  clear f3 F2 B2
  go_wp2_with (refine wpList_loadB rfl 31 (Operand.tmp 3) rfl b3 16 rfl C 31 (0, 0) B3.out _ Try.underlying31 rfl HCS.out infoSetup ?_)
  refine (HRZ.out _).mono ?_
  rintro e w4 ⟨rfl, f4⟩
  have F4 := Lib.hid (F3.out.trans f4 (by simp [Ext]))
  have B4 := Lib.hid (f4.blk B3.out (by simp))
  clear f4 F3 B3
  have hbu := alloc_new w4 (row (List.replicate n 0))
  obtain ⟨bu, hbue⟩ : ∃ bu, bu = w4.heap.size := ⟨_, rfl⟩
  have hQ : DisQ w bu b3 C n 0 (w4.alloc (row (List.replicate n 0))) := ⟨by rw [usedL_zero n hn48, hbue]; exact hbu, alloc_old B4.out, F4.out.alloc _⟩
  have hne : b3 ≠ bu := by have := lt_of_blk B4.out; omega
  have hbw : w.heap.size ≤ bu := by have := F4.out.size; omega
  have HQ := Lib.hid hQ
  have HBU := Lib.hid hbue
  clear hQ hbu hbue F4 B4
  go_wp2_with fail
  rw [← HBU.out]
  go_loopw [6] (fun iv wr => ∃ p : Nat, p ≤ pl ∧ iv = .int .i64 (p : Int) ∧ DisQ w bu b3 C n (4 * p) wr) (fun iv _ => pl - (intOf iv).toNat)
  case atStart => exact ⟨0, by omega, rfl, HQ.out⟩
  case round =>
    clear HQ
    obtain ⟨p, hp, rfl, hq⟩ := hrel
    have HQ := Lib.hid hq
    have c0 : wr.cell? ⟨b3, 0, none⟩ = some (.int .i64 (pl : Int)) := (cell_blk hq.2.1 0).trans HC0.out
    clear hq
    by_cases hlt : p < pl
    · obtain ⟨a, ha⟩ : ∃ a, a = 48 + 4 * p := ⟨_, rfl⟩
      have HP := Lib.hid (fun u => HPL.out u p hlt a ha)
      have ha48 : 48 ≤ a := by omega
      have han : a + 4 ≤ n := by have := HNE.out; omega
      have HA := Lib.hid ha
      clear ha
      go_wp2_with (refine wpList_loadB rfl 31 (Operand.tmp 3) rfl b3 16 rfl C 31 (0, 0) HQ.out.2.1 _ Try.underlying31 rfl HCS.out infoSetup ?_)
      refine (HP.out _).mono ?_
      rintro e w6 ⟨rfl, f6⟩
      have HQ6 := Lib.hid (HQ.out.fr f6)
      clear f6 HQ c0
      go_wp2_with fail
      go_loopw [8] (fun iv wr => ∃ k : Nat, k ≤ 4 ∧ iv = .int .i64 (k : Int) ∧ DisQ w bu b3 C n (4 * p + k) wr) (fun iv _ => 4 - (intOf iv).toNat)
      case atStart => exact ⟨0, by omega, rfl, HQ6.out⟩
      case round =>
        clear HQ6
        obtain ⟨k, hk, rfl, hq⟩ := hrel
        have HQ := Lib.hid hq
        clear hq
        by_cases hk4 : k < 4
        · have hak : a + k = 48 + (4 * p + k) := by have := HA.out; omega
          obtain ⟨z0, z1⟩ := HQ.out.at (by omega)
          rw [← hak] at z0 z1
          have HS := Lib.hid (hak ▸ HQ.out.step hne hbw (by omega) : DisQ w bu b3 C n (4 * p + k + 1) (wr.setCell ⟨bu, a + k, none⟩ (.int .i64 1)))
          have hakn : (a : Int) + (k : Int) < (n : Int) := by omega
          clear hak
          go_wp2_with fail
          go_roundw
          case rel => exact ⟨k + 1, by omega, by go_num, HS.out⟩
          case measure => simp [intOf]; omega
        · have hke : k = 4 := by omega
          have HQE := Lib.hid (by rw [show 4 * p + k = 4 * (p + 1) by omega] at HQ; exact HQ.out : DisQ w bu b3 C n (4 * (p + 1)) wr)
          clear hke
          go_wp2_with fail
          go_roundw
          case rel => exact ⟨p + 1, by omega, by go_num, HQE.out⟩
          case measure => simp [intOf]; omega
    · have HQP := Lib.hid (by rw [show 4 * p = 4 * pl + 8 * 0 by omega] at HQ; exact HQ.out : DisQ w bu b3 C n (4 * pl + 8 * 0) wr)
      clear HQ
      go_wp2_with fail
      go_loopw [9] (fun iv wr2 => ∃ q : Nat, q ≤ nb ∧ iv = .int .i64 (q : Int) ∧ DisQ w bu b3 C n (4 * pl + 8 * q) wr2) (fun iv _ => nb - (intOf iv).toNat)
      case atStart => exact ⟨0, by omega, rfl, HQP.out⟩
      case round =>
        clear HQP c0
        obtain ⟨q, hq5, rfl, hq⟩ := hrel
        have HQ := Lib.hid hq
        have c1 : wr.cell? ⟨b3, 1, none⟩ = some (.slice bo nb bc) := (cell_blk hq.2.1 1).trans HCB.out
        clear hq
        by_cases hlt2 : q < nb
        · obtain ⟨a, ha⟩ : ∃ a, a = 48 + 4 * pl + 8 * q := ⟨_, rfl⟩
          have HP := Lib.hid (fun u => HBD.out u q hlt2 a ha)
          have ha48 : 48 ≤ a := by omega
          have han : a + 8 ≤ n := by have := HNE.out; omega
          have HA := Lib.hid ha
          clear ha
          go_wp2_with (refine wpList_loadB rfl 31 (Operand.tmp 3) rfl b3 16 rfl C 31 (0, 0) HQ.out.2.1 _ Try.underlying31 rfl HCS.out infoSetup ?_)
          refine (HP.out _).mono ?_
          rintro e w6 ⟨rfl, f6⟩
          have HQ6 := Lib.hid (HQ.out.fr f6)
          clear f6 HQ c1
          go_wp2_with fail
          go_loopw [11] (fun iv wr => ∃ k : Nat, k ≤ 8 ∧ iv = .int .i64 (k : Int) ∧ DisQ w bu b3 C n (4 * pl + 8 * q + k) wr) (fun iv _ => 8 - (intOf iv).toNat)
          case atStart => exact ⟨0, by omega, rfl, HQ6.out⟩
          case round =>
            clear HQ6
            obtain ⟨k, hk, rfl, hq⟩ := hrel
            have HQ := Lib.hid hq
            clear hq
            by_cases hk4 : k < 8
            · have hak : a + k = 48 + (4 * pl + 8 * q + k) := by have := HA.out; omega
              obtain ⟨z0, z1⟩ := HQ.out.at (by omega)
              rw [← hak] at z0 z1
              have HS := Lib.hid (hak ▸ HQ.out.step hne hbw (by omega) : DisQ w bu b3 C n (4 * pl + 8 * q + k + 1) (wr.setCell ⟨bu, a + k, none⟩ (.int .i64 1)))
              have hakn : (a : Int) + (k : Int) < (n : Int) := by omega
              clear hak
              go_wp2_with fail
              go_roundw
              case rel => exact ⟨k + 1, by omega, by go_num, HS.out⟩
              case measure => simp [intOf]; omega
            · have hke : k = 8 := by omega
              have HQE := Lib.hid (by rw [show 4 * pl + 8 * q + k = 4 * pl + 8 * (q + 1) by omega] at HQ; exact HQ.out : DisQ w bu b3 C n (4 * pl + 8 * (q + 1)) wr)
              clear hke
              go_wp2_with fail
              go_roundw
              case rel => exact ⟨q + 1, by omega, by go_num, HQE.out⟩
              case measure => simp [intOf]; omega
        · have HQN := Lib.hid (by rw [show 4 * pl + 8 * q = n - 48 by have := HNE.out; omega] at HQ; exact HQ.out : DisQ w bu b3 C n (n - 48) wr)
          clear HQ
          go_wp2_with fail
          go_loopw [12] (fun iv wr2 => ∃ j : Nat, j ≤ n ∧ iv = .int .i64 (j : Int) ∧ wr2 = wr) (fun iv _ => n - (intOf iv).toNat)
          case atStart => exact ⟨0, by omega, rfl, rfl⟩
          case round =>
            obtain ⟨j, hj, rfl, hwr⟩ := hrel
            rw [hwr]
            clear hwr c1
            by_cases hjn : j < n
            · have hcell := row_cell HQN.out.1 (k := j) (by rw [usedL_len n (n - 48) (by omega)]; exact hjn)
              have he := usedL_end n j hn48 hjn
              rw [List.getElem?_eq_getElem (by rw [usedL_len n (n - 48) (by omega)]; exact hjn)] at he
              injection he with he
              rw [he] at hcell
              clear he
              by_cases h48 : 48 ≤ j
              · rw [if_pos h48] at hcell
                go_wp2_with fail
                go_roundw
                case rel => exact ⟨j + 1, by omega, by go_num, trivial⟩
                case measure => simp [intOf]; omega
              · rw [if_neg h48] at hcell
                go_wp2_with fail
                go_roundw
                case rel => exact ⟨j + 1, by omega, by go_num, trivial⟩
                case measure => simp [intOf]; omega
            · go_wp2_with fail
              refine (lives_any _).mono ?_
              rintro e w9 ⟨rfl, f9⟩
              have F9 := Lib.hid (HQN.out.2.2.trans f9 (by simp [Ext]))
              clear f9
              go_wp2_with fail
              go_ret
              exact ⟨rfl, F9.out⟩
end Go.Proofs.Ytlfomhknfpmhbaa
