/- Chapter 28: the contracts as the laws use them; the section's examples. -/
import Derived.Test.YtcgndeggemceaaaCel28
import Derived.Test.YtcgndeggemceaaaSameB
namespace Go.Proofs.Ytcgndeggemceaaa
open Go.RowKit

theorem diff_seg {w : World} {ao bo : Option Addr} {ca cb : Nat} {a b : List (Int × Int)} (ha : Seg w 38 2 ao a.length ca (a.flatMap clV)) (hb : Seg w 38 2 bo b.length cb (b.flatMap clV)) (va : IsView a) (vb : IsView b) (la : a.length ≤ 1000) (lb : b.length ≤ 1000) :
    Calls Try.prog 12 #[.slice ao a.length ca, .slice bo b.length cb] w (DiffTo w (diffL a b)) :=
  diff_any w ao bo ca cb a b va vb (by omega) (by omega) ha.rd hb.rd ha.lt hb.lt
theorem apply_seg {w : World} {ao ro : Option Addr} {ca rc : Nat} {a : List (Int × Int)} {rest : List Nat} (ha : Seg w 38 2 ao a.length ca (a.flatMap clV)) (hr : Seg w 5 1 ro rest.length rc (bts rest)) (va : IsView a) (la : a.length ≤ 1000) (hb : BytesB rest) (lr : rest.length ≤ 100000000) :
    Calls Try.prog 17 #[.slice ao a.length ca, .slice ro rest.length rc] w (ApplyTo w (applyR a rest)) :=
  apply_any w ao ca a va (by omega) ha.rd ha.lt ro rc rest hr.rd hb hr.2.2.1 hr.2.1 hr.lt (by omega)
def ApplyOk (w : World) (l : List (Int × Int)) (e : Ending) (w' : World) : Prop := ∃ vo vc, e = .returned (.tuple #[.slice vo l.length vc, .int .i64 0]) ∧ Seg w' 38 2 vo l.length vc (l.flatMap clV) ∧ Fr [] w w'
def ApplyBad (w : World) (x : Nat) (e : Ending) (w' : World) : Prop := e = .returned (.tuple #[.slice none 0 0, .int .i64 (x : Int)]) ∧ Fr [] w w'
theorem ApplyTo.ok {w : World} {l : List (Int × Int)} {R : Rdr (List (Int × Int))} {e : Ending} {w' : World} (h : ApplyTo w R e w') (hR : R = .ok l []) : ApplyOk w l e w' := by
  obtain ⟨h1, ⟨x, h2, h3⟩ | ⟨l', vo, vc, h2, h3, h4, h5⟩⟩ := h
  · rw [hR] at h2; cases h2
  · rw [hR] at h2; cases h2
    exact ⟨vo, vc, h3, h4, h1⟩
theorem ApplyTo.bad {w : World} {x : Nat} {R : Rdr (List (Int × Int))} {e : Ending} {w' : World} (h : ApplyTo w R e w') (hR : R = .bad x) : ApplyBad w x e w' := by
  obtain ⟨h1, ⟨x', h2, h3⟩ | ⟨l', vo, vc, h2, h3, h4, h5⟩⟩ := h
  · rw [hR] at h2; cases h2
    exact ⟨h3, h1⟩
  · rw [hR] at h2; cases h2
theorem cells_one (w : World) (b : Nat) (x : Int × Int) (h : w.heap[b]? = some (.cells #[.int .i64 x.1, .int .i64 x.2] 38 (0, 0))) : Seg w 38 2 (some ⟨b, 0, none⟩) [x].length 1 ([x].flatMap clV) := by
  have := Seg.one (w := w) b #[.int .i64 x.1, .int .i64 x.2] 38 2 1 h rfl (by unfold maxLen; omega)
  simpa [clV] using this
theorem view_one {x : Int × Int} (h1 : idxOk x.1) (h2 : bd64 x.2) : IsView [x] := ⟨List.pairwise_singleton _ _, by simpa using h1, by simpa using h2⟩
theorem view_nil : IsView [] := ⟨List.Pairwise.nil, by simp, by simp⟩

theorem ex1 : diffL [] [(3, 5)] = [0, 1, 3, 10] := by
  simp [diffL, goneL, chgL, same, has, encC, withOld, encD, encG, varN_lt, getv]
  have e : zz (wrap64 5) = 10 := by decide +kernel
  rw [e, varN_lt (by omega)]
theorem ex2 : diffL [(3, 5)] [(3, 4)] = [0, 1, 3, 1] := by
  simp [diffL, goneL, chgL, same, has, encC, withOld, encD, encG, varN_lt, getv]
  have e : zz (wrap64 (-1)) = 1 := by decide +kernel
  rw [e, varN_lt (by omega)]
theorem va35 : IsView [(3, 5)] := view_one (by unfold idxOk; decide) (by unfold bd64; decide)
theorem va34 : IsView [(3, 4)] := view_one (by unfold idxOk; decide) (by unfold bd64; decide)
theorem ex3 : applyR [(3, 5)] [0, 1, 3, 1] = .ok [(3, 4)] [] := by
  rw [← ex2]
  exact apply_diff va35 va34 (by decide) (by decide)

set_option maxRecDepth 100000 in
set_option maxHeartbeats 8000000 in
theorem lives_any (w : World) : Calls Try.prog 16 #[] w fun e w' => e = .returned (.bool true) ∧ Fr [] w w' := by
  obtain ⟨s, hs⟩ : ∃ s, s = w.heap.size := ⟨_, rfl⟩
  obtain ⟨W1, hW1⟩ : ∃ W1, W1 = ((w.alloc (.cells #[.int .i64 3, .int .i64 5] 38)).alloc (.cells #[.int .i64 3, .int .i64 4] 38)).alloc (.cells #[.int .u8 0, .int .u8 1, .int .u8 3, .int .u8 1] 5) := ⟨_, rfl⟩
  have hz : W1.heap.size = s + 3 := by rw [hW1, hs]; simp
  have hf : Fr [] w W1 := by rw [hW1]; exact (((Fr.refl _ _).alloc _).alloc _).alloc _
  have h0 : W1.heap[s]? = some (.cells #[.int .i64 3, .int .i64 5] 38 (0, 0)) := by rw [hW1, hs]; exact alloc_old (alloc_old (alloc_new _ _))
  have h1 : W1.heap[s + 1]? = some (.cells #[.int .i64 3, .int .i64 4] 38 (0, 0)) := by
    have := alloc_new (w.alloc (.cells #[.int .i64 3, .int .i64 5] 38)) (.cells #[.int .i64 3, .int .i64 4] 38)
    rw [World.size_alloc] at this
    rw [hW1, hs]; exact alloc_old this
  have h2 : W1.heap[s + 2]? = some (.cells #[.int .u8 0, .int .u8 1, .int .u8 3, .int .u8 1] 5 (0, 0)) := by
    have := alloc_new ((w.alloc (.cells #[.int .i64 3, .int .i64 5] 38)).alloc (.cells #[.int .i64 3, .int .i64 4] 38)) (.cells #[.int .u8 0, .int .u8 1, .int .u8 3, .int .u8 1] 5)
    rw [World.size_alloc, World.size_alloc] at this
    rw [hW1, hs]; exact this
  have SA := Lib.hid (fun u (hu : Fr [] W1 u) => cells_one u s (3, 5) (hu.blk h0 (by simp)))
  have SB := Lib.hid (fun u (hu : Fr [] W1 u) => cells_one u (s + 1) (3, 4) (hu.blk h1 (by simp)))
  have SR := Lib.hid (by
    have := Seg.one (w := W1) (s + 2) #[.int .u8 0, .int .u8 1, .int .u8 3, .int .u8 1] 5 1 4 h2 rfl (by unfold maxLen; omega)
    exact this : Seg W1 5 1 (some ⟨s + 2, 0, none⟩) [0, 1, 3, 1].length 4 (bts [0, 1, 3, 1]))
  have HF := Lib.hid hf
  have HS := Lib.hid hs
  have HW1 := Lib.hid hW1
  have hbt : BytesB [0, 1, 3, 1] := by unfold BytesB; decide
  have HAP := Lib.hid (apply_seg (SA.out _ (Fr.refl _ _)) SR.out va35 (by decide) hbt (by decide))
  clear hs hW1 hz hf h0 h1 h2 hbt
  go_enter Try.func16, Try.ntmps16
  go_wp2_with fail
  rw [← HS.out, ← HW1.out]
  simp only [Nat.add_assoc, Nat.reduceAdd]
  refine HAP.out.mono ?_
  rintro e w2 hap
  obtain ⟨vo, vc, rfl, sv, f2⟩ := hap.ok ex3
  have SV := Lib.hid sv
  have F2 := Lib.hid f2
  clear sv f2 hap
  go_wp2_with fail
  refine (diff_seg (Seg.nil _ _ _) (SA.out _ F2.out) view_nil va35 (by decide) (by decide)).mono ?_
  rintro e w3 ⟨o3, c3, rfl, s3, f3, -⟩
  rw [ex1] at s3 ⊢
  have S3 := Lib.hid s3
  have F3 := Lib.hid (F2.out.trans f3 (by simp [Ext]))
  have SV3 := Lib.hid (SV.out.fr f3 (by simp))
  clear s3 f3
  go_wp2_with fail
  obtain ⟨w4, hw4⟩ : ∃ w4, w4 = w3.alloc (.cells #[.int .u8 0, .int .u8 1, .int .u8 3, .int .u8 10] 5) := ⟨_, rfl⟩
  have hf4 : Fr [] w3 w4 := by rw [hw4]; exact (Fr.refl _ _).alloc _
  have hb4 : w4.heap[w3.heap.size]? = some (.cells #[.int .u8 0, .int .u8 1, .int .u8 3, .int .u8 10] 5 (0, 0)) := by rw [hw4]; exact alloc_new _ _
  rw [← hw4]
  have hr4 : Rd w4 1 (some ⟨w3.heap.size, 0, none⟩) [0, 1, 3, 10].length (bts [0, 1, 3, 10]) := (Seg.one (w := w4) w3.heap.size #[.int .u8 0, .int .u8 1, .int .u8 3, .int .u8 10] 5 1 4 hb4 rfl (by unfold maxLen; omega)).rd
  have F4 := Lib.hid (F3.out.trans hf4 (by simp [Ext]))
  have SV4 := Lib.hid (SV3.out.fr hf4 (by simp))
  have HSB := Lib.hid (sameB_any w4 o3 (some ⟨w3.heap.size, 0, none⟩) c3 4 [0, 1, 3, 10] [0, 1, 3, 10] (S3.out.fr hf4 (by simp)).rd hr4)
  clear hw4 hf4 hb4 hr4 S3 SV3 F3
  refine HSB.out.mono ?_
  rintro e w5 ⟨rfl, f5⟩
  have F5 := Lib.hid (F4.out.trans f5 (by simp [Ext]))
  have SV5 := Lib.hid (SV4.out.fr f5 (by simp))
  clear f5 F4 SV4 HSB
  go_wp2_with fail
  refine (diff_seg (SA.out _ F5.out) (SB.out _ F5.out) va35 va34 (by decide) (by decide)).mono ?_
  rintro e w6 ⟨o6, c6, rfl, s6, f6, -⟩
  rw [ex2] at s6 ⊢
  have S6 := Lib.hid s6
  have F6 := Lib.hid (F5.out.trans f6 (by simp [Ext]))
  have SV6 := Lib.hid (SV5.out.fr f6 (by simp))
  clear s6 f6 F5 SV5
  go_wp2_with fail
  obtain ⟨w7, hw7⟩ : ∃ w7, w7 = w6.alloc (.cells #[.int .u8 0, .int .u8 1, .int .u8 3, .int .u8 1] 5) := ⟨_, rfl⟩
  have hf7 : Fr [] w6 w7 := by rw [hw7]; exact (Fr.refl _ _).alloc _
  have hb7 : w7.heap[w6.heap.size]? = some (.cells #[.int .u8 0, .int .u8 1, .int .u8 3, .int .u8 1] 5 (0, 0)) := by rw [hw7]; exact alloc_new _ _
  rw [← hw7]
  have hr7 : Rd w7 1 (some ⟨w6.heap.size, 0, none⟩) [0, 1, 3, 1].length (bts [0, 1, 3, 1]) := (Seg.one (w := w7) w6.heap.size #[.int .u8 0, .int .u8 1, .int .u8 3, .int .u8 1] 5 1 4 hb7 rfl (by unfold maxLen; omega)).rd
  have F7 := Lib.hid (F6.out.trans hf7 (by simp [Ext]))
  have SV7 := Lib.hid (SV6.out.fr hf7 (by simp))
  have HSB := Lib.hid (sameB_any w7 o6 (some ⟨w6.heap.size, 0, none⟩) c6 4 [0, 1, 3, 1] [0, 1, 3, 1] (S6.out.fr hf7 (by simp)).rd hr7)
  clear hw7 hf7 hb7 hr7 S6 SV6 F6
  refine HSB.out.mono ?_
  rintro e w8 ⟨rfl, f8⟩
  have F8 := Lib.hid (F7.out.trans f8 (by simp [Ext]))
  have HE1 := Lib.hid (equal_any w8 vo (some ⟨s + 1, 0, none⟩) vc 1 [(3, 4)] [(3, 4)] (SV7.out.fr f8 (by simp)).rd (SB.out _ F8.out).rd)
  clear f8 F7 SV7 HSB
  go_wp2_with fail
  refine HE1.out.mono ?_
  rintro e w9 ⟨rfl, f9⟩
  have F9 := Lib.hid (F8.out.trans f9 (by simp [Ext]))
  have HE2 := Lib.hid (equal_any w9 (some ⟨s, 0, none⟩) (some ⟨s + 1, 0, none⟩) 1 1 [(3, 5)] [(3, 4)] (SA.out _ F9.out).rd (SB.out _ F9.out).rd)
  clear f9 F8 HE1
  go_wp2_with fail
  refine HE2.out.mono ?_
  rintro e wa ⟨rfl, fa⟩
  go_wp2_with fail
  go_ret
  exact ⟨rfl, HF.out.trans (F9.out.trans fa (by simp [Ext])) (by simp [Ext])⟩
end Go.Proofs.Ytcgndeggemceaaa
