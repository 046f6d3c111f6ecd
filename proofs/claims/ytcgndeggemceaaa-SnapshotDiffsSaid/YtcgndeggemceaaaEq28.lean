/- Package snapshot: Equal. -/
import Derived.Test.YtcgndeggemceaaaChg28
import Derived.Test.YtcgndeggemceaaaVal3
import Derived.Test.YtcgndeggemceaaaRound
namespace Go.Proofs.Ytcgndeggemceaaa
open Go.RowKit

theorem ne_cell (u : World) (a b c d : Int) : (binOp .neq 38 (.agg #[.int .i64 a, .int .i64 b]) (.agg #[.int .i64 c, .int .i64 d])).run Try.prog u = .ok (.bool (!((a == c) && (b == d)))) u := by
  have hf : Try.prog.underlying 38 = some (.struct (Try.prog.fieldsOf 38)) := by unfold Program.fieldsOf; rw [Try.underlying38]
  have hp : Try.prog.stoodInHeld 38 = false := by kernel_rfl
  rw [run_neq_struct, run_equalIn_struct u _ _ _ _ hf hp]
  simp only [Program.fieldsOf, Try.underlying38]
  cases h1 : (a == c) <;> cases h2 : (b == d) <;> simp [Op.eqFields, part, run_equalIn_int u _ _ _ _ _ _ Try.underlying3, h1, h2]

/-- what lies at cell i of a list of cells -/
theorem Rd.cel {w : World} {ao : Option Addr} {l : List (Int × Int)} (h : Rd w 2 ao l.length (l.flatMap clV)) {i : Nat} (hi : i < l.length) : ∃ g off, ao = some ⟨g, off, none⟩ ∧ g < w.heap.size ∧
    w.cell? ⟨g, off + i * 2, none⟩ = some (.int .i64 l[i].1) ∧ w.cell? ⟨g, off + i * 2 + 1, none⟩ = some (.int .i64 l[i].2) := by
  obtain ⟨g, off, ha, hg, hc⟩ := h.at (by omega)
  have key : ∀ j, j < 2 → w.cell? ⟨g, off + (i * 2 + j), none⟩ = (clV l[i])[j]? := fun j hj => by
    rw [hc _ (by omega), flat_get clV 2 (fun _ => rfl) l i j hi hj]
  exact ⟨g, off, ha, hg, key 0 (by omega), key 1 (by omega)⟩

set_option maxHeartbeats 2000000 in
theorem equal_any (w : World) (ao bo : Option Addr) (ca cb : Nat) (a b : List (Int × Int)) (ha : Rd w 2 ao a.length (a.flatMap clV)) (hb : Rd w 2 bo b.length (b.flatMap clV)) :
    Calls Try.prog 14 #[.slice ao a.length ca, .slice bo b.length cb] w fun e w' => e = .returned (.bool (decide (a = b))) ∧ Fr [] w w' := by
  have hla : a.length ≤ 9223372036854775807 := by have := ha.2.1; unfold maxLen at this; omega
  have hlb : b.length ≤ 9223372036854775807 := by have := hb.2.1; unfold maxLen at this; omega
  have HA := Lib.hid ha
  have HB := Lib.hid hb
  clear ha hb
  by_cases hl : a.length = b.length
  · have hne : ((a.length : Int) != (b.length : Int)) = false := by rw [hl]; simp
    have HL := Lib.hid hl
    clear hl
    go_enter Try.func14, Try.ntmps14
    go_wp2_with fail
    go_loopw [13] (fun i wr => ∃ k : Nat, k ≤ a.length ∧ i = .int .i64 k ∧ a.take k = b.take k ∧ Fr [] w wr) (fun i _ => a.length - (intOf i).toNat)
    case atStart => exact ⟨0, Nat.zero_le _, rfl, rfl, Fr.refl _ _⟩
    case round =>
      obtain ⟨k, hk, rfl, ht, hf⟩ := hrel
      have HT := Lib.hid ht
      have HF := Lib.hid hf
      by_cases hkn : k < a.length
      · have hkb : k < b.length := by have := HL.out; omega
        obtain ⟨g, off, rfl, g1, c1, c2⟩ := (HA.out.fr hf (by simp)).cel hkn
        obtain ⟨g2, off2, rfl, g3, c3, c4⟩ := (HB.out.fr hf (by simp)).cel hkb
        obtain ⟨x1, hx1⟩ : ∃ x, x = a[k].1 := ⟨_, rfl⟩
        obtain ⟨x2, hx2⟩ : ∃ x, x = a[k].2 := ⟨_, rfl⟩
        obtain ⟨y1, hy1⟩ : ∃ x, x = b[k].1 := ⟨_, rfl⟩
        obtain ⟨y2, hy2⟩ : ∃ x, x = b[k].2 := ⟨_, rfl⟩
        rw [← hx1] at c1
        rw [← hx2] at c2
        rw [← hy1] at c3
        rw [← hy2] at c4
        have HX1 := Lib.hid hx1
        have HX2 := Lib.hid hx2
        have HY1 := Lib.hid hy1
        have HY2 := Lib.hid hy2
        have hki : (k : Int) < (a.length : Int) := by omega
        have hkj : (k : Int) < (b.length : Int) := by omega
        clear ht hf hx1 hx2 hy1 hy2
        by_cases hxy : x1 = y1 ∧ x2 = y2
        · have hb : ∀ u, (binOp .neq 38 (.agg #[.int .i64 x1, .int .i64 x2]) (.agg #[.int .i64 y1, .int .i64 y2])).run Try.prog u = .ok (.bool false) u := fun u => by rw [ne_cell]; simp [hxy.1, hxy.2]
          have HXY := Lib.hid hxy
          clear hxy
          go_wp2_with fail
          go_quiet (fail)
          go_wp2_with fail
          go_roundw
          case rel =>
            have e : a[k] = b[k] := Prod.ext (by rw [← HX1.out, ← HY1.out]; exact HXY.out.1) (by rw [← HX2.out, ← HY2.out]; exact HXY.out.2)
            exact ⟨k + 1, by omega, by go_num, by rw [List.take_succ_eq_append_getElem hkn, List.take_succ_eq_append_getElem hkb, HT.out, e], HF.out.trans ((Fr.refl [] _).drewN _) (by simp [Ext])⟩
          case measure => simp [intOf]; omega
        · have hb : ∀ u, (binOp .neq 38 (.agg #[.int .i64 x1, .int .i64 x2]) (.agg #[.int .i64 y1, .int .i64 y2])).run Try.prog u = .ok (.bool true) u := fun u => by
            rw [ne_cell]
            have : ((x1 == y1) && (x2 == y2)) = false := by
              rw [Bool.eq_false_iff]
              intro h
              simp only [Bool.and_eq_true, beq_iff_eq] at h
              exact hxy h
            rw [this]; rfl
          have HXY := Lib.hid hxy
          clear hxy
          go_wp2_with fail
          go_quiet (fail)
          go_wp2_with fail
          go_ret
          exact ⟨ret_bool (by
            symm
            refine decide_eq_false fun h => HXY.out ?_
            rw [HX1.out, HX2.out, HY1.out, HY2.out]
            simp only [h]
            constructor <;> trivial), HF.out.trans ((Fr.refl [] _).drewN _) (by simp [Ext])⟩
      · have hke : k = a.length := by omega
        have hab : a = b := by
          have := HT.out
          rw [hke, List.take_of_length_le (Nat.le_refl _), HL.out, List.take_of_length_le (Nat.le_refl _)] at this
          exact this
        have HAB := Lib.hid hab
        clear ht hf hke hab
        go_wp2_with fail
        go_ret
        exact ⟨ret_bool (decide_eq_true HAB.out).symm, HF.out⟩
  · have hne : ((a.length : Int) != (b.length : Int)) = true := bne_iff_ne.2 (by omega)
    have HL := Lib.hid hl
    clear hl
    go_enter Try.func14, Try.ntmps14
    go_wp2_with fail
    go_ret
    exact ⟨ret_bool (decide_eq_false fun h => HL.out (by rw [h])).symm, Fr.refl _ _⟩
end Go.Proofs.Ytcgndeggemceaaa
