/- SnapshotDiffs returns true. -/
import Derived.Test.YtcgndeggemceaaaRDif28
namespace Go.Proofs.Ytcgndeggemceaaa
open Go.RowKit

theorem sameB_t (w : World) (ao bo : Option Addr) (ca cb : Nat) (a : List Nat) (ha : Rd w 1 ao a.length (bts a)) (hb : Rd w 1 bo a.length (bts a)) :
    Calls Try.prog 11 #[.slice ao a.length ca, .slice bo a.length cb] w fun e w' => e = .returned (.bool true) ∧ Fr [] w w' :=
  (sameB_any w ao bo ca cb a a ha hb).mono fun _ _ h => ⟨by rw [h.1]; simp, h.2⟩
theorem equal_t (w : World) (ao bo : Option Addr) (ca cb : Nat) (a : List (Int × Int)) (ha : Rd w 2 ao a.length (a.flatMap clV)) (hb : Rd w 2 bo a.length (a.flatMap clV)) :
    Calls Try.prog 14 #[.slice ao a.length ca, .slice bo a.length cb] w fun e w' => e = .returned (.bool true) ∧ Fr [] w w' :=
  (equal_any w ao bo ca cb a a ha hb).mono fun _ _ h => ⟨by rw [h.1]; simp, h.2⟩

set_option maxRecDepth 100000 in
set_option maxHeartbeats 8000000 in
theorem sndiffs_walk (w : World) (lo mo : Option Addr) (lc mc : Nat) (l m : List Int) (hl : Rd w 1 lo l.length (ints l)) (hlb : ∀ x ∈ l, bounded x) (hm : Rd w 1 mo m.length (ints m)) (hmb : ∀ x ∈ m, bounded x) :
    Calls Try.prog 3 #[.slice lo l.length lc, .slice mo m.length mc] w fun e w' => e = .returned (.bool true) ∧ Fr [] w w' := by
  have HC1 := Lib.hid (cells_any w lo lc l hl hlb)
  have HC2 := Lib.hid (fun u (hu : Fr [] w u) => cells_any u mo mc m (hm.fr hu (by simp)) hmb)
  clear hl hlb hm hmb
  go_enter Try.func3, Try.ntmps3
  go_wp2_with fail
  refine HC1.out.mono ?_
  rintro e w1 ⟨A, ao, ac, rfl, va, la, sa, f1, -⟩
  have F1 := Lib.hid f1
  have VA := Lib.hid va
  have SA1 := Lib.hid sa
  have LA := Lib.hid la
  clear va sa f1 la HC1
  go_wp2_with fail
  refine (HC2.out _ F1.out).mono ?_
  rintro e w2 ⟨B, bo, bc, rfl, vb, lb, sb, f2, -⟩
  have F2 := Lib.hid (F1.out.trans f2 (by simp [Ext]))
  have VB := Lib.hid vb
  have LB := Lib.hid lb
  have SA := Lib.hid (fun u (hu : Fr [] w2 u) => (SA1.out.fr f2 (by simp)).fr hu (by simp))
  have SB := Lib.hid (fun u (hu : Fr [] w2 u) => sb.fr hu (by simp))
  clear vb sb f2 lb HC2
  go_wp2_with fail
  refine (diff_seg (SA.out _ (Fr.refl _ _)) (SB.out _ (Fr.refl _ _)) VA.out VB.out (by have := LA.out; omega) (by have := LB.out; omega)).mono ?_
  rintro e w3 ⟨do1, dc1, rfl, sd, f3, -⟩
  have F3 := Lib.hid f3
  have SD := Lib.hid sd
  clear sd f3
  go_wp2_with fail
  refine (rdiff_any w3 ao bo ac bc A B VA.out VB.out LA.out LB.out (SA.out _ F3.out) (SB.out _ F3.out)).mono ?_
  rintro e w4 ⟨do2, dc2, rfl, sd, f4, -⟩
  have F4 := Lib.hid (F3.out.trans f4 (by simp [Ext]))
  have HSB := Lib.hid (sameB_t w4 do1 do2 dc1 dc2 (diffL A B) (SD.out.fr f4 (by simp)).rd sd.rd)
  clear sd f4 SD F3
  go_wp2_with fail
  refine HSB.out.mono ?_
  rintro e w5 ⟨rfl, f5⟩
  have F5 := Lib.hid (F4.out.trans f5 (by simp [Ext]))
  have HE1 := Lib.hid (fun u (hu : Fr [] w2 u) => equal_any u ao bo ac bc A B (SA.out _ hu).rd (SB.out _ hu).rd)
  have HE2 := Lib.hid (fun u (hu : Fr [] w2 u) => requal_any u ao bo ac bc A B (SA.out _ hu).rd (SB.out _ hu).rd)
  have HE3 := Lib.hid (fun u (hu : Fr [] w2 u) => equal_t u ao ao ac ac A (SA.out _ hu).rd (SA.out _ hu).rd)
  obtain ⟨d, hd⟩ : ∃ d, d = decide (A = B) := ⟨_, rfl⟩
  rw [← hd] at HE1 HE2
  clear f5 HSB F4 hd
  go_wp2_with fail
  refine (HE1.out _ F5.out).mono ?_
  rintro e w6 ⟨rfl, f6⟩
  have F6 := Lib.hid (F5.out.trans f6 (by simp [Ext]))
  clear f6
  go_wp2_with fail
  refine (HE2.out _ F6.out).mono ?_
  rintro e w7 ⟨rfl, f7⟩
  have F7 := Lib.hid (F6.out.trans f7 (by simp [Ext]))
  have hdd : (d == d) = true := by simp
  clear f7
  go_wp2_with fail
  refine (HE3.out _ F7.out).mono ?_
  rintro e w8 ⟨rfl, f8⟩
  have F8 := Lib.hid (F7.out.trans f8 (by simp [Ext]))
  clear f8
  go_wp2_with fail
  refine (lives_any _).mono ?_
  rintro e we ⟨rfl, fe⟩
  go_wp2_with fail
  go_ret
  exact ⟨rfl, F2.out.trans (F8.out.trans fe (by simp [Ext])) (by simp [Ext])⟩
end Go.Proofs.Ytcgndeggemceaaa
