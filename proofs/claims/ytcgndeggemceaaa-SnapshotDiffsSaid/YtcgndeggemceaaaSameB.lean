/- arenanetref01.SameBytes. -/
import Derived.Test.YtcgndeggemceaaaBts
import Derived.Test.YtcgndeggemceaaaRound
namespace Go.Proofs.Ytcgndeggemceaaa
open Go.RowKit

set_option maxHeartbeats 1000000 in
theorem sameB_any (w : World) (ao bo : Option Addr) (ca cb : Nat) (a b : List Nat) (ha : Rd w 1 ao a.length (bts a)) (hb : Rd w 1 bo b.length (bts b)) :
    Calls Try.prog 11 #[.slice ao a.length ca, .slice bo b.length cb] w fun e w' => e = .returned (.bool (decide (a = b))) ∧ Fr [] w w' := by
  have hla : a.length ≤ 9223372036854775807 := by have := ha.2.1; unfold maxLen at this; omega
  have hlb : b.length ≤ 9223372036854775807 := by have := hb.2.1; unfold maxLen at this; omega
  have HA := Lib.hid ha
  have HB := Lib.hid hb
  clear ha hb
  by_cases hl : a.length = b.length
  · have hne : ((a.length : Int) != (b.length : Int)) = false := by rw [hl]; simp
    have HL := Lib.hid hl
    clear hl
    go_enter Try.func11, Try.ntmps11
    go_wp2_with fail
    go_loopw [5] (fun i wr => ∃ k : Nat, k ≤ a.length ∧ i = .int .i64 k ∧ a.take k = b.take k ∧ Fr [] w wr) (fun i _ => a.length - (intOf i).toNat)
    case atStart => exact ⟨0, Nat.zero_le _, rfl, rfl, Fr.refl _ _⟩
    case round =>
      obtain ⟨k, hk, rfl, ht, hf⟩ := hrel
      have HT := Lib.hid ht
      have HF := Lib.hid hf
      by_cases hkn : k < a.length
      · have hkb : k < b.length := by have := HL.out; omega
        have hcx : ∃ g off g2 off2, ao = some ⟨g, off, none⟩ ∧ bo = some ⟨g2, off2, none⟩ ∧ wr.cell? ⟨g, off + k, none⟩ = some (.int .u8 ((a[k] : Nat) : Int)) ∧ wr.cell? ⟨g2, off2 + k, none⟩ = some (.int .u8 ((b[k] : Nat) : Int)) := by
          obtain ⟨g, off, h1, g1, h2⟩ := HA.out.at (by omega)
          obtain ⟨g2, off2, h3, g3, h4⟩ := HB.out.at (by omega)
          refine ⟨g, off, g2, off2, h1, h3, ?_, ?_⟩
          · rw [World.cell?_of_block (a := ⟨g, off + k, none⟩) (hf.block g g1 (by simp)), h2 k (by omega), bts_get, List.getElem?_eq_getElem hkn]; rfl
          · rw [World.cell?_of_block (a := ⟨g2, off2 + k, none⟩) (hf.block g2 g3 (by simp)), h4 k (by omega), bts_get, List.getElem?_eq_getElem hkb]; rfl
        obtain ⟨g, off, g2, off2, rfl, rfl, c1, c2⟩ := hcx
        obtain ⟨x, hx⟩ : ∃ x, x = a[k] := ⟨_, rfl⟩
        obtain ⟨y, hy⟩ : ∃ y, y = b[k] := ⟨_, rfl⟩
        rw [← hx] at c1
        rw [← hy] at c2
        have HX := Lib.hid hx
        have HY := Lib.hid hy
        have hki : (k : Int) < (a.length : Int) := by omega
        have hkj : (k : Int) < (b.length : Int) := by omega
        clear ht hf hx hy
        by_cases hxy : x = y
        · have hb : ((x : Int) != (y : Int)) = false := by rw [hxy]; simp
          have HXY := Lib.hid hxy
          clear hxy
          go_wp2_with fail
          go_quiet (fail)
          go_wp2_with fail
          go_roundw
          case rel => exact ⟨k + 1, by omega, by go_num, by rw [List.take_succ_eq_append_getElem hkn, List.take_succ_eq_append_getElem hkb, HT.out, ← HX.out, ← HY.out, HXY.out], HF.out.trans ((Fr.refl [] _).drewN _) (by simp [Ext])⟩
          case measure => simp [intOf]; omega
        · have hb : ((x : Int) != (y : Int)) = true := bne_iff_ne.2 (by omega)
          have HXY := Lib.hid hxy
          clear hxy
          go_wp2_with fail
          go_quiet (fail)
          go_wp2_with fail
          go_ret
          exact ⟨ret_bool (by
            symm
            refine decide_eq_false fun h => HXY.out ?_
            rw [HX.out, HY.out]
            simp only [h]), HF.out.trans ((Fr.refl [] _).drewN _) (by simp [Ext])⟩
      · have hke : k = a.length := by omega
        have hab : a = b := by
          have := HT.out
          rw [hke, List.take_of_length_le (Nat.le_refl _), HL.out, List.take_of_length_le (Nat.le_refl _)] at this
          exact this
        have HAB := Lib.hid hab
        clear ht hf hke hab
        go_wp2_with fail
        go_ret
        exact ⟨ret_bool (decide_eq_true HAB.out).symm, HF.out⟩
  · have hne : ((a.length : Int) != (b.length : Int)) = true := bne_iff_ne.2 (by omega)
    have HL := Lib.hid hl
    clear hl
    go_enter Try.func11, Try.ntmps11
    go_wp2_with fail
    go_ret
    exact ⟨ret_bool (decide_eq_false fun h => HL.out (by rw [h])).symm, Fr.refl _ _⟩
end Go.Proofs.Ytcgndeggemceaaa
