/- Chapter 12: shape.Validate on a circle; lives. -/
import Derived.Test.YtlfomhknfpmhbaaVal4
import Derived.Test.YtlfomhknfpmhbaaField
import Derived.Test.YtlfomhknfpmhbaaBlk
namespace Go.Proofs.Ytlfomhknfpmhbaa
open Go.RowKit

set_option maxHeartbeats 2000000 in
theorem circle_any (w : World) (rad : Int) (po : Option Addr) (pc : Nat) : Calls Try.prog 25 #[.agg #[.int .i64 rad, .slice po 0 pc]] w fun e w' => e = .returned (.int .i64 (if rad < 1 ∨ 32768 < rad then 10 else 0)) ∧ Fr [] w w' := by
  have HC := Lib.hid (fun (u : World) => (by
    go_enter Try.func45, Try.ntmps45
    go_wp2
    go_ret
    exact ⟨rfl, (Fr.refl [] u).alloc _⟩ : Calls Try.prog 45 #[.agg #[.int .i64 rad, .slice po 0 pc]] u fun e w' => e = .returned (.bool true) ∧ Fr [] u w'))
  by_cases h1 : rad < 1
  · rw [if_pos (.inl h1)]
    go_enter Try.func25, Try.ntmps25
    go_wp2_with fail
    refine (HC.out _).mono ?_
    rintro e w1 ⟨rfl, f1⟩
    have F1 := Lib.hid (((Fr.refl [] w).alloc _).trans f1 (by simp [Ext]))
    have c0 : w1.cell? ⟨w.heap.size, 0, none⟩ = some (.int .i64 rad) := cell_blk (f1.blk (alloc_new w _) (by simp)) 0
    clear f1
    go_wp2_with fail
    go_ret
    exact ⟨rfl, F1.out⟩
  · by_cases h2 : 32768 < rad
    · rw [if_pos (.inr h2)]
      go_enter Try.func25, Try.ntmps25
      go_wp2_with fail
      refine (HC.out _).mono ?_
      rintro e w1 ⟨rfl, f1⟩
      have F1 := Lib.hid (((Fr.refl [] w).alloc _).trans f1 (by simp [Ext]))
      have c0 : w1.cell? ⟨w.heap.size, 0, none⟩ = some (.int .i64 rad) := cell_blk (f1.blk (alloc_new w _) (by simp)) 0
      clear f1
      go_wp2_with fail
      go_ret
      exact ⟨rfl, F1.out⟩
    · rw [if_neg (by omega)]
      go_enter Try.func25, Try.ntmps25
      go_wp2_with fail
      refine (HC.out _).mono ?_
      rintro e w1 ⟨rfl, f1⟩
      have F1 := Lib.hid (((Fr.refl [] w).alloc _).trans f1 (by simp [Ext]))
      have c0 : w1.cell? ⟨w.heap.size, 0, none⟩ = some (.int .i64 rad) := cell_blk (f1.blk (alloc_new w _) (by simp)) 0
      clear f1
      go_wp2_with fail
      go_ret
      exact ⟨rfl, F1.out⟩

theorem infoSetup : (Try.prog.info? 31).map (·.size) = some 16 := by kernel_rfl

def lvD : Bd := ⟨5, none, 0, 0, 0, 0, 0, 0, 0, 0, 0⟩
def lvS (b : Nat) : St := ⟨1, some ⟨b, 0, none⟩, 1, 1, 0, 0, 0, 0, none, 0, 0, none, 0, 0, 0, 0, 0, 0, 0, 0, 1, 0⟩

theorem lv_valid (b : Nat) : validB (lvS b) [lvD] [0] [] [] = 0 := by
  unfold validB numsB n1 n2 n3 n4 n5 n6 n7 n8 properB mapB bodyB d1 d2 d3 d4 d5 inB lvS lvD
  simp
theorem lv_size (b : Nat) : szOf (lvS b) = 60 := by simp [szOf, lvS]
theorem lv_player (b : Nat) : plOf (lvS b) 0 = 48 := by simp [plOf, lvS]
theorem lv_body (b : Nat) : bdOf (lvS b) 0 = 52 := by simp [bdOf, lvS]
theorem lv_field : fieldOf { data := #[118, 120] } = 2 := by rfl
theorem lv_ok (b : Nat) : (lvS b).Ok := ⟨by simp only [lvS]; omega, by simp only [lvS]; omega, by simp only [lvS]; omega, by simp only [lvS]; omega⟩
theorem lv_circle (v : World) : Calls Try.prog 25 #[lvD.shape] v fun e w' => e = .returned (.int .i64 0) ∧ Fr [] v w' := by
  have h := circle_any v 5 none 0
  rw [if_neg (by omega)] at h
  exact h

theorem lv_validate (u : World) (b : Nat) (h : BodiesAt u (lvS b) [lvD]) : Calls Try.prog 13 #[(lvS b).val] u fun e w' => e = .returned (.int .i64 0) ∧ Fr [] u w' := by
  have hh := validate_any u (lvS b) [lvD] [0] [] [] ⟨rfl, rfl, ⟨by simp, by simp, .inl rfl⟩, ⟨by simp, by simp, .inl rfl⟩⟩ h rfl (fun i h1 h2 v _ => by
    have hi : i = 0 := by simp at h1; exact h1
    subst hi
    exact lv_circle v)
  rw [lv_valid] at hh
  exact hh

set_option maxRecDepth 100000 in
set_option maxHeartbeats 4000000 in
theorem lives_any (w : World) : Calls Try.prog 15 #[] w fun e w' => e = .returned (.bool true) ∧ Fr [] w w' := by
  obtain ⟨b, hb⟩ : ∃ b, b = w.heap.size := ⟨_, rfl⟩
  obtain ⟨wb, hwb⟩ : ∃ wb, wb = w.alloc (.cells lvD.cells.toArray 52) := ⟨_, rfl⟩
  have HBA := Lib.hid (by
    have hs : Seg wb 52 9 (some ⟨b, 0, none⟩) 1 1 lvD.cells := by rw [hwb, hb]; exact Seg.one w.heap.size _ _ 9 1 (alloc_new w _) rfl (by unfold maxLen; omega)
    exact ⟨rfl, by rw [show ([lvD].flatMap Bd.cells) = lvD.cells by simp]; exact hs.rd⟩ : BodiesAt wb (lvS b) [lvD])
  have HWB := Lib.hid (by rw [hwb]; exact (Fr.refl [] w).alloc _ : Fr [] w wb)
  have HV := Lib.hid (fun (u : World) (hf : Fr [] wb u) => lv_validate u b (HBA.out.old hf))
  have HS := Lib.hid (fun (u : World) => (by have h := size_any u (lvS b) (lv_ok b); rw [lv_size] at h; exact h : Calls Try.prog 21 #[(lvS b).val] u fun e w' => e = .returned (.int .i64 60) ∧ Fr [] u w'))
  have HP := Lib.hid (fun (u : World) => (by have h := player_any u (lvS b) (lv_ok b) 0; rw [lv_player] at h; exact h : Calls Try.prog 17 #[(lvS b).val, .int .i64 0] u fun e w' => e = .returned (.int .i64 48) ∧ Fr [] u w'))
  have HBD := Lib.hid (fun (u : World) => (by have h := body_any u (lvS b) (lv_ok b) 0; rw [lv_body] at h; exact h : Calls Try.prog 19 #[(lvS b).val, .int .i64 0] u fun e w' => e = .returned (.int .i64 52) ∧ Fr [] u w'))
  have HFD := Lib.hid (fun (u : World) => (by have h := field_any u { data := #[118, 120] }; rw [lv_field] at h; exact h : Calls Try.prog 23 #[.string { data := #[118, 120] }] u fun e w' => e = .returned (.int .i64 2) ∧ Fr [] u w'))
  have HBE := Lib.hid hb
  have HWE := Lib.hid hwb
  unfold St.val lvS at HV HS HP HBD
  simp only [] at HV HS HP HBD
  clear hb hwb
  obtain ⟨C, hC⟩ : ∃ C : Array Value, C = #[.int .i64 1, .slice (some ⟨b, 0, none⟩) 1 1, .int .i64 0, .int .i64 0, .int .i64 0, .int .i64 0, .slice none 0 0, .slice none 0 0, .int .i64 0, .int .i64 0, .int .i64 0, .int .i64 0, .int .i64 0, .int .i64 0, .int .i64 1, .int .i64 0] := ⟨_, rfl⟩
  have HCS := Lib.hid (by rw [hC]; rfl : C.size = 16)
  have HC1 := Lib.hid (by rw [hC]; simp [Value.oneCell'] : C.all (·.oneCell') = true)
  rw [← hC] at HV HS HP HBD
  have HC := Lib.hid hC
  clear hC
  go_enter Try.func15, Try.ntmps15
  go_wp2_with (first | (refine wpList_loadB rfl 31 (Operand.tmp 1) rfl (b + 1) 16 rfl C 31 (0, 0) B0.out _ Try.underlying31 rfl HCS.out infoSetup ?_) | (rw [← HBE.out]; refine wpList_storeB rfl 31 (Operand.tmp 1) (Operand.tmp 5) rfl (b + 1) 16 C rfl (by rw [HC.out]; rfl) _ 31 (by rw [HBE.out]; exact alloc_new2 w _ _) rfl HCS.out infoSetup HC1.out ?_; intro w0 hb0 hf0; have B0 := Lib.hid hb0; have F0 := Lib.hid (((Fr.refl [] w).alloc _).alloc _ |>.trans hf0 (fun k hk => .inr (by simp at hk; rw [hk, HBE.out]; omega))); have G0 := Lib.hid (by rw [HWE.out]; exact ((Fr.refl [] _).alloc _).trans hf0 (fun k hk => .inr (by simp at hk; rw [hk, HBE.out]; simp)) : Fr [] wb w0); clear hb0 hf0))
  refine (HV.out _ G0.out).mono ?_
  rintro e w1 ⟨rfl, f1⟩
  have F1 := Lib.hid (F0.out.trans f1 (by simp [Ext]))
  have B1 := Lib.hid (f1.blk B0.out (by simp))
  clear f1
  go_wp2_with (refine wpList_loadG (by rfl) 31 (Operand.tmp 1) rfl (b + 1) 16 rfl C 31 (0, 0) B1.out _ Try.underlying31 rfl HCS.out infoSetup ?_)
  refine (HS.out _).mono ?_
  rintro e w2 ⟨rfl, f2⟩
  have F2 := Lib.hid (F1.out.trans f2 (by simp [Ext]))
  have B2 := Lib.hid (f2.blk B1.out (by simp))
  clear f2 F1 B1
  go_wp2_with (refine wpList_loadG (by rfl) 31 (Operand.tmp 1) rfl (b + 1) 16 rfl C 31 (0, 0) B2.out _ Try.underlying31 rfl HCS.out infoSetup ?_)
  refine (HP.out _).mono ?_
  rintro e w3 ⟨rfl, f3⟩
  have F3 := Lib.hid (F2.out.trans f3 (by simp [Ext]))
  have B3 := Lib.hid (f3.blk B2.out (by simp))
  clear f3 F2 B2
  go_wp2_with (refine wpList_loadG (by rfl) 31 (Operand.tmp 1) rfl (b + 1) 16 rfl C 31 (0, 0) B3.out _ Try.underlying31 rfl HCS.out infoSetup ?_)
  refine (HBD.out _).mono ?_
  rintro e w4 ⟨rfl, f4⟩
  have F4 := Lib.hid (F3.out.trans f4 (by simp [Ext]))
  have B4 := Lib.hid (f4.blk B3.out (by simp))
  clear f4 F3 B3
  go_wp2_with fail
  refine (HFD.out _).mono ?_
  rintro e w5 ⟨rfl, f5⟩
  have F5 := Lib.hid (F4.out.trans f5 (by simp [Ext]))
  clear f5
  go_wp2_with fail
  go_ret
  exact ⟨rfl, F5.out⟩
end Go.Proofs.Ytlfomhknfpmhbaa
