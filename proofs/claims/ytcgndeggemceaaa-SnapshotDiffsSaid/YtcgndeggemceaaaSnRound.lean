/- SnapshotRound returns true. -/
import Derived.Test.YtcgndeggemceaaaLives28
import Derived.Test.YtcgndeggemceaaaRow
namespace Go.Proofs.Ytcgndeggemceaaa
open Go.RowKit

theorem BytesB.app {a b : List Nat} (h : BytesB a) (k : BytesB b) : BytesB (a ++ b) := fun x hx => by rcases List.mem_append.1 hx with q | q; exact h x q; exact k x q
theorem encG_bytes : ∀ (l : List Int) (prev : Int), BytesB (encG prev l)
  | [], _ => by intro x hx; simp [encG] at hx
  | k :: l, prev => by rw [encG]; exact (varN_bytes _).app (encG_bytes l k)
theorem encD_bytes : ∀ (l : List (Int × Int × Int)) (prev : Int), BytesB (encD prev l)
  | [], _ => by intro x hx; simp [encD] at hx
  | k :: l, prev => by rw [encD]; exact ((varN_bytes _).app (varN_bytes _)).app (encD_bytes l k.1)
theorem diffL_bytes (a b : List (Int × Int)) : BytesB (diffL a b) := by
  unfold diffL encC
  exact (((varN_bytes _).app (encG_bytes _ _)).app (varN_bytes _)).app (encD_bytes _ _)
theorem diffL_len {a b : List (Int × Int)} (va : IsView a) (vb : IsView b) (la : a.length ≤ 1000) (lb : b.length ≤ 1000) : (diffL a b).length ≤ 20 + 10 * a.length + 20 * b.length := by
  have hgr := gone_rise (a := a) (b := b) va
  have hcr := chg_rise (a := a) (b := b) vb
  have e1 : gG (-1) (goneL a b) = encG (-1) (goneL a b) := gG_enc _ _ (by omega) hgr.2 (fun k hk => hgr.1 k hk)
  have e2 : gD (-1) (withOld a (chgL a b)) = encC a (-1) (chgL a b) := by
    unfold encC
    refine gD_enc _ _ (by omega) ?_ (fun y hy => ?_)
    · have h := hcr.2
      unfold keys at h
      unfold withOld
      rw [List.pairwise_map] at h ⊢
      exact h
    · unfold withOld at hy
      obtain ⟨z, hz, rfl⟩ := List.mem_map.1 hy
      exact hcr.1 z.1 (List.mem_map.2 ⟨z, hz, rfl⟩)
  have gl := gG_len (goneL a b) (-1)
  have cl := gD_len (withOld a (chgL a b)) (-1)
  have el : (withOld a (chgL a b)).length = (chgL a b).length := by unfold withOld; rw [List.length_map]
  rw [e1] at gl
  rw [e2, el] at cl
  have gl2 := gone_len (a := a) (b := b)
  have cl2 := chg_len (a := a) (b := b)
  have v1 := varN_len (show (goneL a b).length < 18446744073709551616 by omega)
  have v2 := varN_len (show (chgL a b).length < 18446744073709551616 by omega)
  unfold diffL
  simp only [List.length_append]
  omega
theorem round_seg {w : World} {ao : Option Addr} {ca : Nat} {a b : List (Int × Int)} (ha : Seg w 38 2 ao a.length ca (a.flatMap clV)) (va : IsView a) (vb : IsView b) (la : a.length ≤ 12) (lb : b.length ≤ 12) {ro : Option Addr} {rc : Nat} (hr : Seg w 5 1 ro (diffL a b).length rc (bts (diffL a b))) :
    Calls Try.prog 17 #[.slice ao a.length ca, .slice ro (diffL a b).length rc] w (ApplyOk w b) :=
  (apply_seg ha hr va (by omega) (diffL_bytes a b) (by have := diffL_len va vb (by omega) (by omega); omega)).mono fun _ _ h => h.ok (apply_diff va vb (by omega) (by omega))

set_option maxRecDepth 100000 in
set_option maxHeartbeats 8000000 in
theorem snround_walk (w : World) (lo mo : Option Addr) (lc mc : Nat) (l m : List Int) (hl : Rd w 1 lo l.length (ints l)) (hlb : ∀ x ∈ l, bounded x) (hm : Rd w 1 mo m.length (ints m)) (hmb : ∀ x ∈ m, bounded x) :
    Calls Try.prog 4 #[.slice lo l.length lc, .slice mo m.length mc] w fun e w' => e = .returned (.bool true) ∧ Fr [] w w' := by
  have HC1 := Lib.hid (cells_any w lo lc l hl hlb)
  have HC2 := Lib.hid (fun u (hu : Fr [] w u) => cells_any u mo mc m (hm.fr hu (by simp)) hmb)
  clear hl hlb hm hmb
  go_enter Try.func4, Try.ntmps4
  go_wp2_with fail
  refine HC1.out.mono ?_
  rintro e w1 ⟨A, ao, ac, rfl, va, la, sa, f1, -⟩
  have F1 := Lib.hid f1
  have VA := Lib.hid va
  have SA1 := Lib.hid sa
  have LA := Lib.hid la
  clear va sa f1 la HC1
  go_wp2_with fail
  refine (HC2.out _ F1.out).mono ?_
  rintro e w2 ⟨B, bo, bc, rfl, vb, lb, sb, f2, -⟩
  have F2 := Lib.hid (F1.out.trans f2 (by simp [Ext]))
  have VB := Lib.hid vb
  have LB := Lib.hid lb
  have SA := Lib.hid (fun u (hu : Fr [] w2 u) => (SA1.out.fr f2 (by simp)).fr hu (by simp))
  have SB := Lib.hid (fun u (hu : Fr [] w2 u) => sb.fr hu (by simp))
  clear vb sb f2 lb HC2
  go_wp2_with fail
  refine (diff_seg (SA.out _ (Fr.refl _ _)) (SB.out _ (Fr.refl _ _)) VA.out VB.out (by have := LA.out; omega) (by have := LB.out; omega)).mono ?_
  rintro e w3 ⟨do1, dc1, rfl, sd, f3, -⟩
  have F3 := Lib.hid f3
  have SD := Lib.hid sd
  clear sd f3
  go_wp2_with fail
  refine (round_seg (SA.out _ F3.out) VA.out VB.out LA.out LB.out SD.out).mono ?_
  rintro e w4 ⟨xo, xc, rfl, sx, f4⟩
  have F4 := Lib.hid (F3.out.trans f4 (by simp [Ext]))
  have SX := Lib.hid (fun u (hu : Fr [] w4 u) => sx.fr hu (by simp))
  clear sx f4 SD F3
  go_wp2_with fail
  refine (diff_seg (Seg.nil _ _ _) (SB.out _ F4.out) view_nil VB.out (by decide) (by have := LB.out; omega)).mono ?_
  rintro e w5 ⟨do2, dc2, rfl, sd, f5, -⟩
  have F45 := Lib.hid f5
  have F5 := Lib.hid (F4.out.trans f5 (by simp [Ext]))
  have SD := Lib.hid sd
  clear sd f5
  go_wp2_with fail
  refine (round_seg (Seg.nil _ _ _) view_nil VB.out (by decide) LB.out SD.out).mono ?_
  rintro e w6 ⟨yo, yc, rfl, sy, f6⟩
  have F46 := Lib.hid (F45.out.trans f6 (by simp [Ext]))
  have F6 := Lib.hid (F5.out.trans f6 (by simp [Ext]))
  have SY := Lib.hid (fun u (hu : Fr [] w6 u) => sy.fr hu (by simp))
  clear sy f6 SD F5 F45
  go_wp2_with fail
  refine (diff_seg (SB.out _ F6.out) (Seg.nil _ _ _) VB.out view_nil (by have := LB.out; omega) (by decide)).mono ?_
  rintro e w7 ⟨do3, dc3, rfl, sd, f7, -⟩
  have F67 := Lib.hid f7
  have F7 := Lib.hid (F6.out.trans f7 (by simp [Ext]))
  have SD := Lib.hid sd
  clear sd f7
  go_wp2_with fail
  refine (round_seg (SB.out _ F7.out) VB.out view_nil LB.out (by decide) SD.out).mono ?_
  rintro e w8 ⟨zo, zc, rfl, sz, f8⟩
  have F68 := Lib.hid (F67.out.trans f8 (by simp [Ext]))
  have F48 := Lib.hid (F46.out.trans F68.out (by simp [Ext]))
  have F8 := Lib.hid (F7.out.trans f8 (by simp [Ext]))
  clear sz f8 SD F7 F67
  go_wp2_with fail
  refine (equal_any w8 xo bo xc bc B B (SX.out _ F48.out).rd (SB.out _ F8.out).rd).mono ?_
  rintro e w9 ⟨rfl, f9⟩
  have F69 := Lib.hid (F68.out.trans f9 (by simp [Ext]))
  have F9 := Lib.hid (F8.out.trans f9 (by simp [Ext]))
  clear f9
  go_wp2_with fail
  refine (equal_any w9 yo bo yc bc B B (SY.out _ F69.out).rd (SB.out _ F9.out).rd).mono ?_
  rintro e wa ⟨rfl, fa⟩
  have FA := Lib.hid (F9.out.trans fa (by simp [Ext]))
  clear fa
  go_wp2_with fail
  refine (diff_seg (SA.out _ FA.out) (SA.out _ FA.out) VA.out VA.out (by have := LA.out; omega) (by have := LA.out; omega)).mono ?_
  rintro e wb ⟨do4, dc4, rfl, sd, fb, -⟩
  rw [diff_self VA.out] at sd ⊢
  have SD := Lib.hid sd
  have FB := Lib.hid (FA.out.trans fb (by simp [Ext]))
  clear sd fb
  go_wp2_with fail
  obtain ⟨w4', hw4⟩ : ∃ u, u = wb.alloc (.cells #[.int .u8 0, .int .u8 0] 5) := ⟨_, rfl⟩
  have hf4 : Fr [] wb w4' := by rw [hw4]; exact (Fr.refl _ _).alloc _
  have hb4 : w4'.heap[wb.heap.size]? = some (.cells #[.int .u8 0, .int .u8 0] 5 (0, 0)) := by rw [hw4]; exact alloc_new _ _
  rw [← hw4]
  have hr4 : Rd w4' 1 (some ⟨wb.heap.size, 0, none⟩) [0, 0].length (bts [0, 0]) := (Seg.one (w := w4') wb.heap.size #[.int .u8 0, .int .u8 0] 5 1 2 hb4 rfl (by unfold maxLen; omega)).rd
  have FC := Lib.hid (FB.out.trans hf4 (by simp [Ext]))
  have HSB := Lib.hid (sameB_any w4' do4 (some ⟨wb.heap.size, 0, none⟩) dc4 2 [0, 0] [0, 0] (SD.out.fr hf4 (by simp)).rd hr4)
  clear hw4 hf4 hb4 hr4 SD FB
  refine HSB.out.mono ?_
  rintro e wd ⟨rfl, fd⟩
  have FD := Lib.hid (FC.out.trans fd (by simp [Ext]))
  clear fd
  go_wp2_with fail
  refine (lives_any _).mono ?_
  rintro e we ⟨rfl, fe⟩
  go_wp2_with fail
  go_ret
  exact ⟨rfl, F2.out.trans (FD.out.trans fe (by simp [Ext])) (by simp [Ext])⟩
end Go.Proofs.Ytcgndeggemceaaa
