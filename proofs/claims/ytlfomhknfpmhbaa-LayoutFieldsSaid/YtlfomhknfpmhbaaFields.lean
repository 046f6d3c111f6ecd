/- LayoutFields returns true. -/
import Derived.Laws.Closers25b
import Derived.Deep.RegionHeld3
import Derived.Test.YtlfomhknfpmhbaaLives12
namespace Go.Proofs.Ytlfomhknfpmhbaa
open Go.RowKit

def fieldNames : List ByteArray := [{ data := #[120] }, { data := #[121] }, { data := #[118, 120] }, { data := #[118, 121] }, { data := #[97] }, { data := #[98] }, { data := #[104, 105, 116] }, { data := #[115, 116, 105, 108, 108] }]
def strs (l : List ByteArray) : List Value := l.map Value.string

theorem strl_ne {s k : ByteArray} (h : ¬ k = s) : (k.toList == s.toList) = false := by
  rw [beq_eq_false_iff_ne]
  intro e
  apply h
  rw [ByteArray.toList_eq, ByteArray.toList_eq] at e
  obtain ⟨k⟩ := k
  obtain ⟨s⟩ := s
  have : k = s := Array.ext' e
  rw [this]
theorem strl_eq {s k : ByteArray} (h : k = s) : (k.toList == s.toList) = true := by rw [h]; simp

theorem str_eq {s k : ByteArray} (h : s = k) : (s == k) = true := (MapKept.bytes_beq s k).2 h

theorem fieldOf_at : ∀ (i : Nat) (hi : i < fieldNames.length), fieldOf fieldNames[i] = (i : Int)
  | 0, _ => rfl
  | 1, _ => rfl
  | 2, _ => rfl
  | 3, _ => rfl
  | 4, _ => rfl
  | 5, _ => rfl
  | 6, _ => rfl
  | 7, _ => rfl
  | i + 8, h => by simp [fieldNames] at h; omega

theorem fieldOf_none {s : ByteArray} (h : ∀ (i : Nat) (hi : i < fieldNames.length), ¬ fieldNames[i] = s) : fieldOf s = -1 := by
  have h0 := h 0 (by decide)
  have h1 := h 1 (by decide)
  have h2 := h 2 (by decide)
  have h3 := h 3 (by decide)
  have h4 := h 4 (by decide)
  have h5 := h 5 (by decide)
  have h6 := h 6 (by decide)
  have h7 := h 7 (by decide)
  simp only [fieldNames, List.getElem_cons_zero, List.getElem_cons_succ] at h0 h1 h2 h3 h4 h5 h6 h7
  unfold fieldOf
  rw [if_neg (fun e => h0 e.symm), if_neg (fun e => h1 e.symm), if_neg (fun e => h2 e.symm), if_neg (fun e => h3 e.symm), if_neg (fun e => h4 e.symm), if_neg (fun e => h5 e.symm), if_neg (fun e => h6 e.symm), if_neg (fun e => h7 e.symm)]

theorem names_rd {w : World} {b : Nat} (h : w.heap[b]? = some (.cells (strs fieldNames).toArray 9 (0, 0))) : ∀ (i : Nat) (hi : i < fieldNames.length), w.cell? ⟨b, i, none⟩ = some (.string fieldNames[i]) := by
  intro i hi
  rw [cell_blk h]
  simp [strs, hi]

set_option maxRecDepth 100000 in
set_option maxHeartbeats 4000000 in
theorem rfield_any (w : World) (s : ByteArray) : Calls Try.prog 24 #[.string s] w fun e w' => e = .returned (.int .i64 (fieldOf s)) ∧ Fr [] w w' := by
  have hlen : fieldNames.length = 8 := rfl
  have HL := Lib.hid hlen
  obtain ⟨b, hb⟩ : ∃ b, b = w.heap.size := ⟨_, rfl⟩
  obtain ⟨wb, hwb⟩ : ∃ wb, wb = w.alloc (.cells (strs fieldNames).toArray 9) := ⟨_, rfl⟩
  have HBB := Lib.hid (by rw [hwb, hb]; exact alloc_new w _ : wb.heap[b]? = some (.cells (strs fieldNames).toArray 9 (0, 0)))
  have HWB := Lib.hid (by rw [hwb]; exact (Fr.refl [] w).alloc _ : Fr [] w wb)
  have HBE := Lib.hid hb
  have HWE := Lib.hid hwb
  clear hlen hb hwb
  go_enter Try.func24, Try.ntmps24
  go_wp2_with fail
  rw [← HBE.out]
  go_loopw [4] (fun iv wr => ∃ i : Nat, i ≤ 8 ∧ iv = .int .i64 (i : Int) ∧ (∀ (j : Nat) (hj : j < fieldNames.length), j < i → ¬ fieldNames[j] = s) ∧ Fr [] wb wr) (fun iv _ => 8 - (intOf iv).toNat)
  case atStart => exact ⟨0, by omega, rfl, by intro j _ hj; omega, by rw [HWE.out]; exact Fr.refl _ _⟩
  case round =>
    obtain ⟨i, hi, rfl, hn, hf⟩ := hrel
    have HN := Lib.hid hn
    have HF := Lib.hid hf
    by_cases hil : i < 8
    · have hil' : i < fieldNames.length := by rw [HL.out]; exact hil
      obtain ⟨k, hk⟩ : ∃ k, k = fieldNames[i] := ⟨_, rfl⟩
      have ci : wr.cell? ⟨b, i, none⟩ = some (.string k) := by rw [hk]; exact names_rd (hf.blk HBB.out (by simp)) i hil'
      have HK := Lib.hid hk
      have HIL := Lib.hid hil'
      have hii : (i : Int) < 8 := by omega
      clear hn hf
      clear hk
      by_cases he : k = s
      · have hq := strl_eq he
        have HE := Lib.hid he
        clear he
        go_wp2_with fail
        go_ret
        exact ⟨congrArg (fun x => Ending.returned (.int .i64 x)) (by rw [← HE.out, HK.out, fieldOf_at i HIL.out]), HWB.out.trans HF.out (by simp [Ext])⟩
      · have hq := strl_ne he
        have HE := Lib.hid he
        clear he
        go_wp2_with fail
        go_roundw
        case rel => exact ⟨i + 1, by omega, by go_num, fun j hj hji => by
          rcases Nat.lt_or_ge j i with h | h
          · exact HN.out j hj h
          · have hje : j = i := by omega
            subst hje
            rw [← HK.out]; exact HE.out, HF.out⟩
        case measure => simp [intOf]; omega
    · clear hn hf
      go_wp2_with fail
      go_ret
      exact ⟨congrArg (fun x => Ending.returned (.int .i64 x)) (by rw [fieldOf_none (fun j hj => HN.out j hj (by have := HL.out; omega))]), HWB.out.trans HF.out (by simp [Ext])⟩

set_option maxRecDepth 100000 in
set_option maxHeartbeats 4000000 in
theorem fields_walk (w : World) (s : ByteArray) : Calls Try.prog 5 #[.string s] w fun e w' => e = .returned (.bool true) ∧ Fr [] w w' := by
  have hlen : fieldNames.length = 8 := rfl
  have HL := Lib.hid hlen
  obtain ⟨b, hb⟩ : ∃ b, b = w.heap.size := ⟨_, rfl⟩
  obtain ⟨wb, hwb⟩ : ∃ wb, wb = (w.alloc (.cells (strs fieldNames).toArray 9)).alloc (.cells (ints [0, 1, 2, 3, 4, 5, 6, 7]).toArray 3) := ⟨_, rfl⟩
  have HBB := Lib.hid (by rw [hwb, hb]; exact alloc_old (alloc_new w _) : wb.heap[b]? = some (.cells (strs fieldNames).toArray 9 (0, 0)))
  have HBC := Lib.hid (by rw [hwb, hb]; exact alloc_new2 w _ _ : wb.heap[b + 1]? = some (.cells (ints [0, 1, 2, 3, 4, 5, 6, 7]).toArray 3 (0, 0)))
  have HWB := Lib.hid (by rw [hwb]; exact ((Fr.refl [] w).alloc _).alloc _ : Fr [] w wb)
  have HBE := Lib.hid hb
  have HWE := Lib.hid hwb
  have HFD := Lib.hid field_any
  have HRF := Lib.hid rfield_any
  clear hlen hb hwb
  go_enter Try.func5, Try.ntmps5
  go_wp2_with fail
  rw [← HBE.out]
  go_loopw [5] (fun iv wr => ∃ i : Nat, i ≤ 8 ∧ iv = .int .i64 (i : Int) ∧ Fr [] wb wr) (fun iv _ => 8 - (intOf iv).toNat)
  case atStart => exact ⟨0, by omega, rfl, by rw [HWE.out]; exact Fr.refl _ _⟩
  case round =>
    obtain ⟨i, hi, rfl, hf⟩ := hrel
    have HF := Lib.hid hf
    by_cases hil : i < 8
    · have hil' : i < fieldNames.length := by rw [HL.out]; exact hil
      obtain ⟨k, hk⟩ : ∃ k, k = fieldNames[i] := ⟨_, rfl⟩
      have ci : wr.cell? ⟨b, i, none⟩ = some (.string k) := by rw [hk]; exact names_rd (hf.blk HBB.out (by simp)) i hil'
      have HK := Lib.hid (by have h := HFD.out; exact fun (u : World) => (by rw [show (i : Int) = fieldOf k by rw [hk, fieldOf_at i hil']]; exact h u k : Calls Try.prog 23 #[.string k] u fun e w' => e = .returned (.int .i64 (i : Int)) ∧ Fr [] u w'))
      have hii : (i : Int) < 8 := by omega
      have cj : wr.cell? ⟨b + 1, i, none⟩ = some (.int .i64 (i : Int)) := by
        rw [cell_blk (hf.blk HBC.out (by simp))]
        rcases (show i = 0 ∨ i = 1 ∨ i = 2 ∨ i = 3 ∨ i = 4 ∨ i = 5 ∨ i = 6 ∨ i = 7 by omega) with e | e | e | e | e | e | e | e <;> subst e <;> rfl
      have hb1 : b < wr.heap.size := lt_of_blk (hf.blk HBB.out (by simp))
      have hb2 : b + 1 < wr.heap.size := lt_of_blk (hf.blk HBC.out (by simp))
      have HB1 := Lib.hid hb1
      have HB2 := Lib.hid hb2
      have ci' : wr.drew.cell? ⟨b, i, none⟩ = some (.string k) := ci
      have cj' : wr.drew.cell? ⟨b + 1, i, none⟩ = some (.int .i64 (i : Int)) := cj
      have Fd := Lib.hid (HF.out.trans (Fr.refl [] wr).drew (by simp [Ext]))
      clear hk hf hb1 hb2
      go_wp2_with fail
      go_region_held3 (fun w' => w'.cell? ⟨b, i, none⟩ = some (.string k) ∧ w'.cell? ⟨b + 1, i, none⟩ = some (.int .i64 (i : Int))) (first | exact ⟨ci', cj'⟩ | exact ⟨cA, dA⟩)
        (first
        | (go_at_call 23; refine (HK.out _).mono ?_; rintro e wA ⟨rfl, fA⟩; have cA := (by rw [World.cell?_of_block (a := ⟨b, i, none⟩) (fA.block b HB1.out (by simp))]; exact ci' : wA.cell? ⟨b, i, none⟩ = some (.string k)); have dA := (by rw [World.cell?_of_block (a := ⟨b + 1, i, none⟩) (fA.block (b + 1) HB2.out (by simp))]; exact cj' : wA.cell? ⟨b + 1, i, none⟩ = some (.int .i64 (i : Int))); have FA := Lib.hid (Fd.out.trans fA (by simp [Ext])); clear fA))
      go_wp2_with fail
      go_roundw
      case rel => exact ⟨i + 1, by omega, by go_num, FA.out⟩
      case measure => simp [intOf]; omega
    · clear hf
      go_wp2_with fail
      refine (HFD.out _ _).mono ?_
      rintro e w1 ⟨rfl, f1⟩
      have F1 := Lib.hid ((HWB.out.trans HF.out (by simp [Ext])).trans f1 (by simp [Ext]))
      clear f1
      go_wp2_with fail
      refine (HRF.out _ _).mono ?_
      rintro e w2 ⟨rfl, f2⟩
      have F2 := Lib.hid (F1.out.trans f2 (by simp [Ext]))
      clear f2
      obtain ⟨r, hr⟩ : ∃ r, r = fieldOf s := ⟨_, rfl⟩
      rw [← hr]
      have hq : (r == r) = true := by simp
      clear hr
      go_wp2_with fail
      refine (lives_any _).mono ?_
      rintro e w3 ⟨rfl, f3⟩
      go_wp2_with fail
      go_ret
      exact ⟨rfl, F2.out.trans f3 (by simp [Ext])⟩
end Go.Proofs.Ytlfomhknfpmhbaa
