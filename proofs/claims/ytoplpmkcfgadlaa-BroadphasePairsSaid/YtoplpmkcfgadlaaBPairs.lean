/- BroadphasePairs returns true: the walk. -/
import Derived.Test.YtoplpmkcfgadlaaBRow
import Derived.Test.YtoplpmkcfgadlaaBroadL
namespace Go.Proofs.Ytoplpmkcfgadlaa
open Go.RowKit

set_option maxRecDepth 100000 in
set_option maxHeartbeats 16000000 in
theorem bpairs_walk (w : World) (ro : Option Addr) (rc : Nat) (rs : List BX) (hrr : Rd w 4 ro rs.length (rs.flatMap BX.cl)) (hrb : ∀ b ∈ rs, b.bnd) (lo : Option Addr) (lc : Nat) (l : List Int) (hr : Rd w 1 lo l.length (ints l)) (hb : ∀ x ∈ l, bounded x) :
    Calls Try.prog 4 #[.slice ro rs.length rc, .slice lo l.length lc] w fun e w' => e = .returned (.bool true) ∧ Fr [] w w' := by
  obtain ⟨ib, hib, hb0, hb1, hb2⟩ := info_parts infoBox
  have hll : rs.length ≤ 9223372036854775807 := by have := hrr.2.1; unfold maxLen at this; omega
  have HBX := Lib.hid (fun u (hu : Fr [] w u) => boxes_any u lo lc l (hr.fr hu (by simp)) hb)
  have HRR := Lib.hid hrr
  have HRB := Lib.hid hrb
  clear hr hb hrr hrb
  go_enter Try.func4, Try.ntmps4
  go_wp2_with fail
  go_loopw [5, 6] (fun pv iv wr => ∃ (bs : List BX) (bo : Option Addr) (bc : Nat), (pv = .slice bo bs.length bc ∧ iv = .int .i64 (bs.length : Int)) ∧ bs.length ≤ 8 ∧ bs.length ≤ rs.length ∧ (∀ b ∈ bs, b.ok) ∧ BoxesAt w bo bc bs wr) (fun _ iv _ => 8 - (intOf iv).toNat)
  case atStart => exact ⟨[], none, 0, ⟨rfl, rfl⟩, by simp, by simp, by intro b hb; simp at hb, Seg.nil _ _ _, by simp [blk], Fr.refl _ _⟩
  case round =>
    obtain ⟨bs, bo, bc, ⟨rfl, rfl⟩, h20, hln, hfi, hs, hn, hf⟩ := hrel
    have HS := Lib.hid hs
    have HN := Lib.hid hn
    have HF := Lib.hid hf
    have HFI := Lib.hid hfi
    clear hs hn hf hfi
    obtain ⟨i, hi⟩ : ∃ i, i = bs.length := ⟨_, rfl⟩
    rw [← hi] at h20 hln HS ⊢
    have HI := Lib.hid hi
    clear hi
    by_cases hc : i < rs.length ∧ i < 8
    · obtain ⟨hil, hi2⟩ := hc
      have hd1 : decide ((i : Int) < (rs.length : Int)) = true := decide_eq_true (by omega)
      have hd2 : decide ((i : Int) < 8) = true := decide_eq_true (by omega)
      have wi : IntKind.i64.wrap ((i : Int) + 1) = (i : Int) + 1 := IntWalk.i64_in _ (by omega)
      obtain ⟨g, off, hro, c0, c1, c2, c3⟩ := (HRR.out.fr HF.out (by simp)).box hil
      have hbd := HRB.out _ (List.getElem_mem hil)
      rw [← getElem!_pos rs i hil] at hbd
      obtain ⟨X, hX⟩ : ∃ X, X = rs[i]! := ⟨_, rfl⟩
      rw [← hX] at c0 c1 c2 c3 hbd
      obtain ⟨X0, X1, X2, X3⟩ := X
      obtain ⟨k0, k1, k2, k3⟩ := hbd
      have HBO := Lib.hid (fun u => box04_any u X0 X1 X2 X3 k0 k1 k2 k3)
      simp only at c0 c1 c2 c3
      have HRO := Lib.hid hro
      clear hX k0 k1 k2 k3
      subst hro
      go_wp2_with fail
      refine (HBO.out _).mono ?_
      rintro e w5 ⟨⟨B0, B1, B2, B3⟩, rfl, hbo, -, f5⟩
      have HB5 := Lib.hid hbo
      have HF5 := Lib.hid f5
      have HS5 := Lib.hid (HS.out.fr f5 (by simp))
      clear hbo f5 c0 c1 c2 c3 HBO
      unfold bxV
      simp only
      go_wp2_with (at_builtin; refine wpList_append_seg rfl _ _ 27 rfl 23 ib _ 4 32 Try.underlying27 hib hb0 hb1 hb2 rfl (by decide) bo i bc (bs.flatMap BX.cl) rfl (HS5.out.alloc _) ⟨w5.heap.size, 0, none⟩ 1 1 [.int .i64 B0, .int .i64 B1, .int .i64 B2, .int .i64 B3] rfl rfl (new_arr w5 #[.int .i64 B0, .int .i64 B1, .int .i64 B2, .int .i64 B3] _) (by simp [Value.oneCell']) (by unfold maxLen; omega) (by omega) ?_; intro o9 c9 w9 hs9 hf9 hx9; have HS9 := Lib.hid hs9; have HF9 := Lib.hid (((Fr.refl (blk bo) w5).alloc _).trans hf9 (Ext.refl _ _)); have HX9 := Lib.hid (fun q (hq : q ∈ blk o9) => (hx9 q hq).imp id (fun h => Nat.le_trans ((Fr.refl ([] : List Nat) w5).alloc _).size h) : ∀ q ∈ blk o9, q ∈ blk bo ∨ w5.heap.size ≤ q); clear hs9 hf9 hx9)
      go_roundw
      case rel =>
        refine ⟨bs ++ [⟨B0, B1, B2, B3⟩], o9, c9, ⟨by rw [List.length_append, ← HI.out]; rfl, by rw [List.length_append, ← HI.out]; go_num⟩, by rw [List.length_append, ← HI.out, List.length_singleton]; omega, by rw [List.length_append, ← HI.out, List.length_singleton]; omega, fun b hb => ?_, by rw [List.length_append, List.flatMap_append, ← HI.out]; exact HS9.out, fun q hq => ?_, (HF.out.trans HF5.out (by simp [Ext])).trans HF9.out (fun q hq => .inr (HN.out q hq))⟩
        · rcases List.mem_append.1 hb with h | h
          · exact HFI.out b h
          · simp at h; rw [h]; exact HB5.out
        · rcases HX9.out q hq with h | h
          · exact HN.out q h
          · have := HF.out.size; have := HF5.out.size; omega
      case measure => simp [intOf]; omega
    · rcases Nat.lt_or_ge i rs.length with hil | hil
      case' inl =>
        have hd2 : ¬ (i : Int) < 8 := by omega
        have hd1 : (i : Int) < (rs.length : Int) := by omega
        clear hc hil
        go_wp2_with fail
        clear hd1 hd2
      case' inr =>
        have hd1 : ¬ (i : Int) < (rs.length : Int) := by omega
        clear hc hil
        go_wp2_with fail
        clear hd1
      all_goals
        refine (HBX.out wr HF.out).mono ?_
        rintro e w1 ⟨ms, mo, mc, rfl, hm20, -, hmf, hms, -, hmfr⟩
        have HM := Lib.hid hms
        have HMO := Lib.hid (fun b hb => (hmf b hb).1 : ∀ b ∈ ms, b.ok)
        have HS1 := Lib.hid (by rw [← HI.out]; exact HS.out.fr hmfr (by simp) : Seg w1 23 4 bo bs.length bc (bs.flatMap BX.cl))
        have HF1 := Lib.hid (HF.out.trans hmfr (by simp [Ext]))
        have hbl : bs.length ≤ 100 := by rw [← HI.out]; omega
        rw [HI.out]
        clear hmf hms hmfr h20 hln
        go_wp2_with (first
          | (go_at_call 13; refine (lives04_any _).mono ?_; rintro e w9 ⟨rfl, f9⟩; have HF9 := Lib.hid (HF8.out.trans f9 (by simp [Ext])); clear f9)
          | (go_at_call 15; refine ((samep_any _ _ _ _ _ (pairsB ms) (pairsB ms) HP7.out HQ7.out).mono ?_); rintro e w8 ⟨he, f8⟩; rw [decide_eq_true rfl] at he; subst he; have HF8 := Lib.hid (HF7.out.trans f8 (by simp [Ext])); clear f8)
          | (go_at_call 17; refine (rpairs_any w6 mo mc ms HM6.out.rd (by omega) HMO.out).mono ?_; rintro e w7 ⟨qo, qc, rfl, hq7, -, f7⟩; have HQ7 := Lib.hid hq7.rd; have HP7 := Lib.hid (HP6.out.fr f7 (by simp)).rd; have HF7 := Lib.hid (HF6.out.trans f7 (by simp [Ext])); clear hq7 f7)
          | (go_at_call 16; refine (pairs_any w5 mo mc ms HM5.out.rd HM5.out.lt (by omega) HMO.out).mono ?_; rintro e w6 ⟨po, pc, rfl, hp6, -, f6⟩; have HP6 := Lib.hid hp6; have HM6 := Lib.hid (HM5.out.fr f6 (by simp)); have HF6 := Lib.hid (HF5.out.trans f6 (by simp [Ext])); clear hp6 f6)
          | (go_at_call 15; refine ((samep_any _ _ _ _ _ (pairsB bs) (pairsB bs) HP4.out HQ4.out).mono ?_); rintro e w5 ⟨he, f5⟩; rw [decide_eq_true rfl] at he; subst he; have HM5 := Lib.hid (HM4.out.fr f5 (by simp)); have HF5 := Lib.hid (HF4.out.trans f5 (by simp [Ext])); clear f5)
          | (go_at_call 17; refine (rpairs_any w3 bo bc bs HS3.out.rd (by omega) HFI.out).mono ?_; rintro e w4 ⟨qo, qc, rfl, hq7, -, f7⟩; have HQ4 := Lib.hid hq7.rd; have HP4 := Lib.hid (HP3.out.fr f7 (by simp)).rd; have HM4 := Lib.hid (HM3.out.fr f7 (by simp)); have HF4 := Lib.hid (HF3.out.trans f7 (by simp [Ext])); clear hq7 f7)
          | (go_at_call 16; refine (pairs_any w1 bo bc bs HS1.out.rd HS1.out.lt hbl HFI.out).mono ?_; rintro e w3 ⟨po, pc, rfl, hp6, -, f6⟩; have HP3 := Lib.hid hp6; have HS3 := Lib.hid (HS1.out.fr f6 (by simp)); have HM3 := Lib.hid (HM.out.fr f6 (by simp)); have HF3 := Lib.hid (HF1.out.trans f6 (by simp [Ext])); clear hp6 f6))
        go_ret
        exact ⟨rfl, HF9.out⟩
end Go.Proofs.Ytoplpmkcfgadlaa
