/- Lives28, State28, Add28, View28 (merged by merge.py). -/
import Derived.Test.YtcgndeggemceaaaZ2813
import Derived.Test.YtcgndeggemceaaaZ287
import Derived.Deep.DeepCutAuto
import Derived.Deep.RegionLaw
/- Chapter 28: the contracts as the laws use them; the section's examples. -/
namespace Go.Proofs.Ytcgndeggemceaaa
open Go.RowKit

theorem diff_seg {w : World} {ao bo : Option Addr} {ca cb : Nat} {a b : List (Int × Int)} (ha : Seg w 38 2 ao a.length ca (a.flatMap clV)) (hb : Seg w 38 2 bo b.length cb (b.flatMap clV)) (va : IsView a) (vb : IsView b) (la : a.length ≤ 1000) (lb : b.length ≤ 1000) :
    Calls Try.prog 12 #[.slice ao a.length ca, .slice bo b.length cb] w (DiffTo w (diffL a b)) :=
  diff_any w ao bo ca cb a b va vb (by omega) (by omega) ha.rd hb.rd ha.lt hb.lt
theorem apply_seg {w : World} {ao ro : Option Addr} {ca rc : Nat} {a : List (Int × Int)} {rest : List Nat} (ha : Seg w 38 2 ao a.length ca (a.flatMap clV)) (hr : Seg w 5 1 ro rest.length rc (bts rest)) (va : IsView a) (la : a.length ≤ 1000) (hb : BytesB rest) (lr : rest.length ≤ 100000000) :
    Calls Try.prog 17 #[.slice ao a.length ca, .slice ro rest.length rc] w (ApplyTo w (applyR a rest)) :=
  apply_any w ao ca a va (by omega) ha.rd ha.lt ro rc rest hr.rd hb hr.2.2.1 hr.2.1 hr.lt (by omega)
def ApplyOk (w : World) (l : List (Int × Int)) (e : Ending) (w' : World) : Prop := ∃ vo vc, e = .returned (.tuple #[.slice vo l.length vc, .int .i64 0]) ∧ Seg w' 38 2 vo l.length vc (l.flatMap clV) ∧ Fr [] w w'
def ApplyBad (w : World) (x : Nat) (e : Ending) (w' : World) : Prop := e = .returned (.tuple #[.slice none 0 0, .int .i64 (x : Int)]) ∧ Fr [] w w'
theorem ApplyTo.ok {w : World} {l : List (Int × Int)} {R : Rdr (List (Int × Int))} {e : Ending} {w' : World} (h : ApplyTo w R e w') (hR : R = .ok l []) : ApplyOk w l e w' := by
  obtain ⟨h1, ⟨x, h2, h3⟩ | ⟨l', vo, vc, h2, h3, h4, h5⟩⟩ := h
  · rw [hR] at h2; cases h2
  · rw [hR] at h2; cases h2
    exact ⟨vo, vc, h3, h4, h1⟩
theorem ApplyTo.bad {w : World} {x : Nat} {R : Rdr (List (Int × Int))} {e : Ending} {w' : World} (h : ApplyTo w R e w') (hR : R = .bad x) : ApplyBad w x e w' := by
  obtain ⟨h1, ⟨x', h2, h3⟩ | ⟨l', vo, vc, h2, h3, h4, h5⟩⟩ := h
  · rw [hR] at h2; cases h2
    exact ⟨h3, h1⟩
  · rw [hR] at h2; cases h2
theorem cells_one (w : World) (b : Nat) (x : Int × Int) (h : w.heap[b]? = some (.cells #[.int .i64 x.1, .int .i64 x.2] 38 (0, 0))) : Seg w 38 2 (some ⟨b, 0, none⟩) [x].length 1 ([x].flatMap clV) := by
  have := Seg.one (w := w) b #[.int .i64 x.1, .int .i64 x.2] 38 2 1 h rfl (by unfold maxLen; omega)
  simpa [clV] using this
theorem view_one {x : Int × Int} (h1 : idxOk x.1) (h2 : bd64 x.2) : IsView [x] := ⟨List.pairwise_singleton _ _, by simpa using h1, by simpa using h2⟩
theorem view_nil : IsView [] := ⟨List.Pairwise.nil, by simp, by simp⟩

theorem ex1 : diffL [] [(3, 5)] = [0, 1, 3, 10] := by
  simp [diffL, goneL, chgL, same, has, encC, withOld, encD, encG, varN_lt, getv]
  have e : zz (wrap64 5) = 10 := by decide +kernel
  rw [e, varN_lt (by omega)]
theorem ex2 : diffL [(3, 5)] [(3, 4)] = [0, 1, 3, 1] := by
  simp [diffL, goneL, chgL, same, has, encC, withOld, encD, encG, varN_lt, getv]
  have e : zz (wrap64 (-1)) = 1 := by decide +kernel
  rw [e, varN_lt (by omega)]
theorem va35 : IsView [(3, 5)] := view_one (by unfold idxOk; decide) (by unfold bd64; decide)
theorem va34 : IsView [(3, 4)] := view_one (by unfold idxOk; decide) (by unfold bd64; decide)
theorem ex3 : applyR [(3, 5)] [0, 1, 3, 1] = .ok [(3, 4)] [] := by
  rw [← ex2]
  exact apply_diff va35 va34 (by decide) (by decide)

set_option maxRecDepth 100000 in
set_option maxHeartbeats 8000000 in
theorem lives_any (w : World) : Calls Try.prog 16 #[] w fun e w' => e = .returned (.bool true) ∧ Fr [] w w' := by
  obtain ⟨s, hs⟩ : ∃ s, s = w.heap.size := ⟨_, rfl⟩
  obtain ⟨W1, hW1⟩ : ∃ W1, W1 = ((w.alloc (.cells #[.int .i64 3, .int .i64 5] 38)).alloc (.cells #[.int .i64 3, .int .i64 4] 38)).alloc (.cells #[.int .u8 0, .int .u8 1, .int .u8 3, .int .u8 1] 5) := ⟨_, rfl⟩
  have hz : W1.heap.size = s + 3 := by rw [hW1, hs]; simp
  have hf : Fr [] w W1 := by rw [hW1]; exact (((Fr.refl _ _).alloc _).alloc _).alloc _
  have h0 : W1.heap[s]? = some (.cells #[.int .i64 3, .int .i64 5] 38 (0, 0)) := by rw [hW1, hs]; exact alloc_old (alloc_old (alloc_new _ _))
  have h1 : W1.heap[s + 1]? = some (.cells #[.int .i64 3, .int .i64 4] 38 (0, 0)) := by
    have := alloc_new (w.alloc (.cells #[.int .i64 3, .int .i64 5] 38)) (.cells #[.int .i64 3, .int .i64 4] 38)
    rw [World.size_alloc] at this
    rw [hW1, hs]; exact alloc_old this
  have h2 : W1.heap[s + 2]? = some (.cells #[.int .u8 0, .int .u8 1, .int .u8 3, .int .u8 1] 5 (0, 0)) := by
    have := alloc_new ((w.alloc (.cells #[.int .i64 3, .int .i64 5] 38)).alloc (.cells #[.int .i64 3, .int .i64 4] 38)) (.cells #[.int .u8 0, .int .u8 1, .int .u8 3, .int .u8 1] 5)
    rw [World.size_alloc, World.size_alloc] at this
    rw [hW1, hs]; exact this
  have SA := Lib.hid (fun u (hu : Fr [] W1 u) => cells_one u s (3, 5) (hu.blk h0 (by simp)))
  have SB := Lib.hid (fun u (hu : Fr [] W1 u) => cells_one u (s + 1) (3, 4) (hu.blk h1 (by simp)))
  have SR := Lib.hid (by
    have := Seg.one (w := W1) (s + 2) #[.int .u8 0, .int .u8 1, .int .u8 3, .int .u8 1] 5 1 4 h2 rfl (by unfold maxLen; omega)
    exact this : Seg W1 5 1 (some ⟨s + 2, 0, none⟩) [0, 1, 3, 1].length 4 (bts [0, 1, 3, 1]))
  have HF := Lib.hid hf
  have HS := Lib.hid hs
  have HW1 := Lib.hid hW1
  have hbt : BytesB [0, 1, 3, 1] := by unfold BytesB; decide
  have HAP := Lib.hid (apply_seg (SA.out _ (Fr.refl _ _)) SR.out va35 (by decide) hbt (by decide))
  clear hs hW1 hz hf h0 h1 h2 hbt
  go_enter Try.func16, Try.ntmps16
  go_wp2_with fail
  rw [← HS.out, ← HW1.out]
  simp only [Nat.add_assoc, Nat.reduceAdd]
  refine HAP.out.mono ?_
  rintro e w2 hap
  obtain ⟨vo, vc, rfl, sv, f2⟩ := hap.ok ex3
  have SV := Lib.hid sv
  have F2 := Lib.hid f2
  clear sv f2 hap
  go_wp2_with fail
  refine (diff_seg (Seg.nil _ _ _) (SA.out _ F2.out) view_nil va35 (by decide) (by decide)).mono ?_
  rintro e w3 ⟨o3, c3, rfl, s3, f3, -⟩
  rw [ex1] at s3 ⊢
  have S3 := Lib.hid s3
  have F3 := Lib.hid (F2.out.trans f3 (by simp [Ext]))
  have SV3 := Lib.hid (SV.out.fr f3 (by simp))
  clear s3 f3
  go_wp2_with fail
  obtain ⟨w4, hw4⟩ : ∃ w4, w4 = w3.alloc (.cells #[.int .u8 0, .int .u8 1, .int .u8 3, .int .u8 10] 5) := ⟨_, rfl⟩
  have hf4 : Fr [] w3 w4 := by rw [hw4]; exact (Fr.refl _ _).alloc _
  have hb4 : w4.heap[w3.heap.size]? = some (.cells #[.int .u8 0, .int .u8 1, .int .u8 3, .int .u8 10] 5 (0, 0)) := by rw [hw4]; exact alloc_new _ _
  rw [← hw4]
  have hr4 : Rd w4 1 (some ⟨w3.heap.size, 0, none⟩) [0, 1, 3, 10].length (bts [0, 1, 3, 10]) := (Seg.one (w := w4) w3.heap.size #[.int .u8 0, .int .u8 1, .int .u8 3, .int .u8 10] 5 1 4 hb4 rfl (by unfold maxLen; omega)).rd
  have F4 := Lib.hid (F3.out.trans hf4 (by simp [Ext]))
  have SV4 := Lib.hid (SV3.out.fr hf4 (by simp))
  have HSB := Lib.hid (sameB_any w4 o3 (some ⟨w3.heap.size, 0, none⟩) c3 4 [0, 1, 3, 10] [0, 1, 3, 10] (S3.out.fr hf4 (by simp)).rd hr4)
  clear hw4 hf4 hb4 hr4 S3 SV3 F3
  refine HSB.out.mono ?_
  rintro e w5 ⟨rfl, f5⟩
  have F5 := Lib.hid (F4.out.trans f5 (by simp [Ext]))
  have SV5 := Lib.hid (SV4.out.fr f5 (by simp))
  clear f5 F4 SV4 HSB
  go_wp2_with fail
  refine (diff_seg (SA.out _ F5.out) (SB.out _ F5.out) va35 va34 (by decide) (by decide)).mono ?_
  rintro e w6 ⟨o6, c6, rfl, s6, f6, -⟩
  rw [ex2] at s6 ⊢
  have S6 := Lib.hid s6
  have F6 := Lib.hid (F5.out.trans f6 (by simp [Ext]))
  have SV6 := Lib.hid (SV5.out.fr f6 (by simp))
  clear s6 f6 F5 SV5
  go_wp2_with fail
  obtain ⟨w7, hw7⟩ : ∃ w7, w7 = w6.alloc (.cells #[.int .u8 0, .int .u8 1, .int .u8 3, .int .u8 1] 5) := ⟨_, rfl⟩
  have hf7 : Fr [] w6 w7 := by rw [hw7]; exact (Fr.refl _ _).alloc _
  have hb7 : w7.heap[w6.heap.size]? = some (.cells #[.int .u8 0, .int .u8 1, .int .u8 3, .int .u8 1] 5 (0, 0)) := by rw [hw7]; exact alloc_new _ _
  rw [← hw7]
  have hr7 : Rd w7 1 (some ⟨w6.heap.size, 0, none⟩) [0, 1, 3, 1].length (bts [0, 1, 3, 1]) := (Seg.one (w := w7) w6.heap.size #[.int .u8 0, .int .u8 1, .int .u8 3, .int .u8 1] 5 1 4 hb7 rfl (by unfold maxLen; omega)).rd
  have F7 := Lib.hid (F6.out.trans hf7 (by simp [Ext]))
  have SV7 := Lib.hid (SV6.out.fr hf7 (by simp))
  have HSB := Lib.hid (sameB_any w7 o6 (some ⟨w6.heap.size, 0, none⟩) c6 4 [0, 1, 3, 1] [0, 1, 3, 1] (S6.out.fr hf7 (by simp)).rd hr7)
  clear hw7 hf7 hb7 hr7 S6 SV6 F6
  refine HSB.out.mono ?_
  rintro e w8 ⟨rfl, f8⟩
  have F8 := Lib.hid (F7.out.trans f8 (by simp [Ext]))
  have HE1 := Lib.hid (equal_any w8 vo (some ⟨s + 1, 0, none⟩) vc 1 [(3, 4)] [(3, 4)] (SV7.out.fr f8 (by simp)).rd (SB.out _ F8.out).rd)
  clear f8 F7 SV7 HSB
  go_wp2_with fail
  refine HE1.out.mono ?_
  rintro e w9 ⟨rfl, f9⟩
  have F9 := Lib.hid (F8.out.trans f9 (by simp [Ext]))
  have HE2 := Lib.hid (equal_any w9 (some ⟨s, 0, none⟩) (some ⟨s + 1, 0, none⟩) 1 1 [(3, 5)] [(3, 4)] (SA.out _ F9.out).rd (SB.out _ F9.out).rd)
  clear f9 F8 HE1
  go_wp2_with fail
  refine HE2.out.mono ?_
  rintro e wa ⟨rfl, fa⟩
  go_wp2_with fail
  go_ret
  exact ⟨rfl, HF.out.trans (F9.out.trans fa (by simp [Ext])) (by simp [Ext])⟩
end Go.Proofs.Ytcgndeggemceaaa
/- arenanetref28.State: the cells of a setup with other values in some of them. -/
namespace Go.Proofs.Ytcgndeggemceaaa
open Go.RowKit

def State28To (w : World) (pl nb n : Nat) (e : Ending) (w' : World) : Prop := ∃ (g off sc : Nat) (cells : List Int), e = .returned (.slice (some ⟨g, off, none⟩) n sc) ∧ cells.length = n ∧ Seg w' 3 1 (some ⟨g, off, none⟩) n sc (ints cells) ∧ w.heap.size ≤ g ∧ Fr [] w w' ∧ (∀ x ∈ cells, small x) ∧ PosOk pl nb cells
theorem PosOk.set {pl nb : Nat} {cells : List Int} (h : PosOk pl nb cells) (hl : cells.length = 48 + 4 * pl + 8 * nb) {k : Nat} {v : Int} (hv : 48 + 4 * pl ≤ k → (k - (48 + 4 * pl)) % 8 < 2 → inC v) : PosOk pl nb (cells.set k v) := by
  intro i hi
  obtain ⟨h1, h2⟩ := h i hi
  constructor
  · by_cases e : k = 48 + 4 * pl + 8 * i
    · subst e
      rw [getD_set_eq (by omega)]
      exact hv (by omega) (by omega)
    · rw [getD_set_ne (by omega)]; exact h1
  · by_cases e : k = 48 + 4 * pl + 8 * i + 1
    · subst e
      rw [getD_set_eq (by omega)]
      exact hv (by omega) (by omega)
    · rw [getD_set_ne (by omega)]; exact h2
theorem ints_set (l : List Int) (k : Nat) (v : Int) : (ints l).set k (.int .i64 v) = ints (l.set k v) := by unfold ints; rw [List.map_set]

set_option maxRecDepth 100000 in
set_option maxHeartbeats 16000000 in
theorem state_any (w : World) (s : St) (bodies : List Bd) (hok : s.Ok) (pl : Nat) (hpl : s.players = (pl : Int)) (hp3 : pl ≤ 3) (hbd : BodiesAt w s bodies) (h5 : bodies.length ≤ 5) (h1 : 1 ≤ bodies.length) (hgood : ∀ d ∈ bodies, goodB d)
    (lo : Option Addr) (lc : Nat) (l : List Int) (hrd : Rd w 1 lo l.length (ints l)) (hb : ∀ x ∈ l, bounded x) (n : Nat) (hn : n = 48 + 4 * pl + 8 * bodies.length) :
    Calls Try.prog 21 #[s.val, .slice lo l.length lc] w (State28To w pl bodies.length n) := by
  obtain ⟨ii, hii, hz0, hz1, hz2⟩ := info_parts infoInt
  have hll : l.length ≤ 9223372036854775807 := by have := hrd.2.1; unfold maxLen at this; omega
  have HRD := Lib.hid (fun u (hu : Fr [] w u) => hrd.fr hu (by simp))
  have HB := Lib.hid hb
  obtain ⟨nb, hnb⟩ : ∃ nb, nb = bodies.length := ⟨_, rfl⟩
  obtain ⟨C, hC⟩ := cAt s
  have HCS := Lib.hid hC.size
  have HRI := Lib.hid (fun (u : World) (hf : Fr [] w u) => (by
    have h := rinitial_any u s bodies hok pl hpl (by omega) (hbd.old hf) (by omega)
    rw [← hn, hC.val] at h; exact h : Calls Try.prog 41 #[.agg C] u fun e w' => ∃ b, e = .returned (.slice (some ⟨b, 0, none⟩) n n) ∧ u.heap.size ≤ b ∧ RowNew u b (initL pl bodies) w'))
  have HBO := Lib.hid (fun (u : World) => (by
    have h := rbody_any u s hok 0
    rw [show bdOf s 0 = ((48 + 4 * pl : Nat) : Int) by unfold bdOf; rw [if_neg (by rw [hbd.nb]; omega), hpl]; omega, hC.val] at h; exact h : Calls Try.prog 42 #[.agg C, .int .i64 0] u fun e w' => e = .returned (.int .i64 ((48 + 4 * pl : Nat) : Int)) ∧ Fr [] u w'))
  have HL0 := Lib.hid (by rw [hn]; exact initL_len pl bodies : (initL pl bodies).length = n)
  have HSM := Lib.hid (init_small (pl := pl) hgood)
  have HPO := Lib.hid (by rw [hnb]; exact init_pos hgood : PosOk pl nb (initL pl bodies))
  have HN := Lib.hid (by rw [hn, hnb] : n = 48 + 4 * pl + 8 * nb)
  have hn1 : n ≤ 100 := by omega
  have hn0 : 1 ≤ n := by omega
  rw [hC.val, ← hnb]
  clear hrd hb hbd hgood hok hpl hC hnb hn h5 h1
  obtain ⟨bx, hbx⟩ : ∃ bx, bx = w.heap.size := ⟨_, rfl⟩
  obtain ⟨wb, hwb⟩ : ∃ wb, wb = w.alloc (.cells C 49) := ⟨_, rfl⟩
  have HBB := Lib.hid (by rw [hwb, hbx]; exact alloc_new w _ : wb.heap[bx]? = some (.cells C 49 (0, 0)))
  have HWB := Lib.hid (by rw [hwb]; exact (Fr.refl [] w).alloc _ : Fr [] w wb)
  have HBX := Lib.hid hbx
  have HWE := Lib.hid hwb
  clear hbx hwb
  go_enter Try.func21, Try.ntmps21
  go_upto_region 1 with (fail)
  rw [← HBX.out, ← HWE.out]
  obtain ⟨we, hwe⟩ : ∃ we, we = wb.alloc (.cells #[] 3) := ⟨_, rfl⟩
  obtain ⟨eb, heb⟩ : ∃ eb, eb = wb.heap.size := ⟨_, rfl⟩
  have HEB := Lib.hid (by
    have := Seg.one (w := we) eb #[] 3 1 0 (by rw [hwe, heb]; exact alloc_new _ _) rfl (by unfold maxLen; omega)
    exact this : Seg we 3 1 (some ⟨eb, 0, none⟩) 0 0 [])
  have HWF := Lib.hid (by rw [hwe]; exact HWB.out.alloc _ : Fr [] w we)
  have HBE := Lib.hid (by rw [hwe]; exact alloc_old HBB.out : we.heap[bx]? = some (.cells C 49 (0, 0)))
  have HEN := Lib.hid (by rw [heb]; exact HWB.out.size : w.heap.size ≤ eb)
  have HWEE := Lib.hid hwe
  have HEBE := Lib.hid heb
  clear hwe heb
  have HBE0 := Lib.hid (alloc_old HBB.out : (wb.alloc (.cells #[] 3)).heap[bx]? = some (.cells C 49 (0, 0)))
  go_wp2_with (refine wpList_loadB rfl 49 (Operand.tmp 2) rfl bx 16 rfl C 49 (0, 0) HBE0.out _ Try.underlying49 rfl HCS.out infoSetup ?_)
  rw [← HEBE.out, ← HWEE.out]
  refine (HRI.out we HWF.out).mono ?_
  rintro e wz ⟨bu, rfl, hbu, hrow, hfz⟩
  have HROW := Lib.hid hrow
  have HFZ := Lib.hid (HWF.out.trans hfz (by simp [Ext]))
  have HBZ := Lib.hid (hfz.blk HBE.out (by simp))
  have HEZ := Lib.hid (HEB.out.fr hfz (by simp))
  have HRR := Lib.hid (by have h := (row_seg hrow (by rw [HL0.out]; unfold maxLen; omega)).rd; rw [HL0.out] at h; exact h : Rd wz 1 (some ⟨bu, 0, none⟩) n (ints (initL pl bodies)))
  have HIO := Lib.hid (fun u (hu : u ∈ ints (initL pl bodies)) => (by obtain ⟨x, -, rfl⟩ := List.mem_map.1 hu; rfl : u.oneCell' = true))
  clear hrow hfz hbu HBE0
  go_upto_region 2 with (at_builtin; refine wpList_append_rd rfl _ _ 22 rfl 3 ii _ 1 8 Try.underlying22 hii hz0 hz1 hz2 rfl (by decide) (some ⟨eb, 0, none⟩) 0 0 [] rfl HEZ.out (some ⟨bu, 0, none⟩) n n (ints (initL pl bodies)) rfl HRR.out HIO.out (by unfold maxLen; omega) (by omega) ?_; intro so sc w2 hs2 hf2 hx2)
  rw [List.nil_append] at hs2
  simp only [Nat.zero_add] at hs2
  obtain ⟨g, off, -, rfl, -, -, -, -⟩ := hs2.at (by have := hs2.2.2.1; omega)
  have hgw : w.heap.size ≤ g := by
    rcases hx2 g (by simp [blk]) with q | q
    · simp [blk] at q; have := HEN.out; omega
    · have := HFZ.out.size; omega
  have hb2 := hf2.blk HBZ.out (by simp [blk]; have := HEN.out; intro e; have := HBX.out; have := lt_of_blk HBB.out; have := HEBE.out; omega)
  have hgx : bx ≠ g := fun e => hs2.ne_type hb2 (by decide) (by simp [blk, e])
  have HS2 := Lib.hid hs2
  have HB2 := Lib.hid hb2
  have HF2 := Lib.hid (HFZ.out.trans hf2 (fun q hq => .inr (by simp [blk] at hq; have := HEN.out; omega)))
  clear hs2 hf2 hx2 hb2
  go_wp2_with (refine wpList_loadB rfl 49 (Operand.tmp 2) rfl bx 16 rfl C 49 (0, 0) HB2.out _ Try.underlying49 rfl HCS.out infoSetup ?_)
  refine (HBO.out w2).mono ?_
  rintro e w3 ⟨rfl, f3⟩
  have HS3 := Lib.hid (HS2.out.fr f3 (by simp))
  have HF3 := Lib.hid (HF2.out.trans f3 (by simp [Ext]))
  obtain ⟨fo, hfo⟩ : ∃ fo : Nat, fo = 48 + 4 * pl := ⟨_, rfl⟩
  have HFO := Lib.hid hfo
  rw [← hfo]
  have hfo1 : fo ≤ 60 := by omega
  clear f3 hfo HS2 HF2 HB2
  go_wp2_with fail
  go_loopw [7] (fun iv wr => ∃ (i : Nat) (cells : List Int), iv = .int .i64 (i : Int) ∧ i ≤ 40 ∧ i % 2 = 0 ∧ i ≤ l.length ∧ cells.length = n ∧ Seg wr 3 1 (some ⟨g, off, none⟩) n sc (ints cells) ∧ Fr [g] w3 wr ∧ (∀ x ∈ cells, small x) ∧ PosOk pl nb cells) (fun iv _ => 42 - (intOf iv).toNat)
  case atStart => exact ⟨0, initL pl bodies, rfl, by omega, rfl, by omega, HL0.out, HS3.out, Fr.refl _ _, HSM.out, HPO.out⟩
  case round =>
    obtain ⟨i, cells, rfl, hi, hi2, hil, hcl, hs, hf, hsm, hpo⟩ := hrel
    have HCL := Lib.hid hcl
    have HSR := Lib.hid hs
    have HF := Lib.hid hf
    have HSMR := Lib.hid hsm
    have HPOR := Lib.hid hpo
    have HFW := Lib.hid (HF3.out.trans hf (fun q hq => .inr (by simp at hq; omega)))
    have w1 : IntKind.i64.wrap ((i : Int) + 1) = (i : Int) + 1 := IntWalk.i64_in _ (by omega)
    have w2' : IntKind.i64.wrap ((i : Int) + 2) = (i : Int) + 2 := IntWalk.i64_in _ (by omega)
    clear hcl hs hf hsm hpo
    by_cases h1 : i + 1 < l.length
    · have hd1 : decide ((i : Int) + 1 < (l.length : Int)) = true := decide_eq_true (by omega)
      by_cases h2 : i < 40
      · have hd2 : decide ((i : Int) < 40) = true := decide_eq_true (by omega)
        obtain ⟨gl, ol, hle, hgl, hc⟩ := (HRD.out _ HFW.out).at (by omega)
        have c0 : wr.cell? ⟨gl, ol + i, none⟩ = some (.int .i64 l[i]) := by rw [hc i (by omega), ints_get, List.getElem?_eq_getElem (by omega)]; rfl
        have c1 : wr.cell? ⟨gl, ol + (i + 1), none⟩ = some (.int .i64 l[i + 1]) := by rw [hc (i + 1) (by omega), ints_get, List.getElem?_eq_getElem h1]; rfl
        obtain ⟨k, hk, -, hA⟩ := around_nat l[i] n (HB.out _ (List.getElem_mem _)) (by omega) (by omega)
        obtain ⟨m, hm, -, hA2⟩ := around_nat l[i + 1] 100000 (HB.out _ (List.getElem_mem _)) (by omega) (by omega)
        obtain ⟨x, hx⟩ : ∃ x, x = l[i] := ⟨_, rfl⟩
        obtain ⟨y, hy⟩ : ∃ y, y = l[i + 1] := ⟨_, rfl⟩
        rw [← hx] at c0 hA
        rw [← hy] at c1 hA2
        have HA := Lib.hid hA
        have HA2 := Lib.hid hA2
        have hi0 : i < l.length := by omega
        have hi38 : i ≤ 38 := by omega
        subst hle
        obtain ⟨gs, os, cur, he, hgs, hfit, hcc, hff⟩ := HSR.out.at (by have := HSR.out.2.2.1; omega)
        cases he
        have ck : wr.cell? ⟨g, off + k, none⟩ = some (.int .i64 (cells[k]'(by rw [HCL.out]; exact hk))) := by rw [hcc k (by omega), ints_get, List.getElem?_eq_getElem (by rw [HCL.out]; exact hk)]; rfl
        have fk := hff (off + k)
        have wm1 : IntKind.i64.wrap ((m : Int) % 41 - 20) = (m : Int) % 41 - 20 := IntWalk.i64_in _ (by omega)
        have wm2 : IntKind.i64.wrap (((m : Int) % 41 - 20) * 600) = ((m : Int) % 41 - 20) * 600 := IntWalk.i64_in _ (by omega)
        clear hc hx hy hA hA2 h2 hgs hfit hcc hff hgl
        go_upto_region 7 with (go_at_call 18; refine (HA.out _).mono ?_; rintro e w' ⟨rfl, rfl⟩)
        go_upto_region 9 with (go_at_call 18; refine (HA2.out _).mono ?_; rintro e w' ⟨rfl, rfl⟩)
        have hvs : small ((m : Int) % 41 - 20) := by unfold small; omega
        have hvs2 : small (((m : Int) % 41 - 20) * 600) := by unfold small; omega
        have hvc2 : inC (((m : Int) % 41 - 20) * 600) := by unfold inC; omega
        cases hkd : decide (fo ≤ k)
        case' true =>
          have hkf : fo ≤ k := of_decide_eq_true hkd
          obtain ⟨q, hq⟩ : ∃ q, q = k - fo := ⟨_, rfl⟩
          have wkf : IntKind.i64.wrap ((k : Int) - (fo : Int)) = (q : Int) := by rw [IntWalk.i64_in _ (by omega)]; omega
          by_cases hq2 : q % 8 < 2
          case' pos =>
            have hqd : decide ((q : Int) % 8 < 2) = true := decide_eq_true (by omega)
            have HVS := Lib.hid hvs2
            have HVC := Lib.hid (fun (_ : fo ≤ k) (_ : (k - fo) % 8 < 2) => hvc2)
            clear hvs hvs2 hvc2 hq
            go_upto_region 11 with fail
            obtain ⟨vv, hvv⟩ : ∃ vv, vv = ((m : Int) % 41 - 20) * 600 := ⟨_, rfl⟩
            rw [← hvv] at HVS HVC ⊢
            clear hvv wm1 wm2
          case' neg =>
            have hqd : decide ((q : Int) % 8 < 2) = false := decide_eq_false (by omega)
            have HVS := Lib.hid hvs
            have HVC := Lib.hid (fun (_ : fo ≤ k) (h : (k - fo) % 8 < 2) => (by omega : inC ((m : Int) % 41 - 20)))
            clear hvs hvs2 hvc2 hq
            go_upto_region 11 with fail
            obtain ⟨vv, hvv⟩ : ∃ vv, vv = (m : Int) % 41 - 20 := ⟨_, rfl⟩
            rw [← hvv] at HVS HVC ⊢
            clear hvv wm1 wm2
        case' false =>
          have hkf : ¬ fo ≤ k := of_decide_eq_false hkd
          have HVS := Lib.hid hvs
          have HVC := Lib.hid (fun (h : fo ≤ k) (_ : (k - fo) % 8 < 2) => (absurd h hkf : inC ((m : Int) % 41 - 20)))
          clear hvs hvs2 hvc2
          go_upto_region 11 with fail
          obtain ⟨vv, hvv⟩ : ∃ vv, vv = (m : Int) % 41 - 20 := ⟨_, rfl⟩
          rw [← hvv] at HVS HVC ⊢
          clear hvv wm1 wm2
        all_goals
          have hcl2 : k < cells.length := by rw [HCL.out]; exact hk
          have HS4 := Lib.hid (by have h := HSR.out.store (i := k) (by omega) (.int .i64 vv); rw [ints_set] at h; exact h : Seg (wr.setCell ⟨g, off + k, none⟩ (.int .i64 vv)) 3 1 (some ⟨g, off, none⟩) n sc (ints (cells.set k vv)))
          have HF4 := Lib.hid (HF.out.setCell (p := ⟨g, off + k, none⟩) (.inl (by simp)) (.int .i64 vv))
          go_wp2_with fail
          go_roundw
          case rel => exact ⟨i + 2, cells.set k vv, by go_num, by omega, by omega, by omega, by rw [List.length_set]; exact HCL.out, HS4.out, HF4.out, small_set HSMR.out k HVS.out, HPOR.out.set (by rw [HCL.out, HN.out]) (by rw [← HFO.out]; exact HVC.out)⟩
          case measure => simp [intOf]; omega
      · have hd2 : decide ((i : Int) < 40) = false := decide_eq_false (by omega)
        clear h2
        go_wp2_with fail
        go_ret
        exact ⟨g, off, sc, cells, rfl, HCL.out, HSR.out, hgw, HFW.out, HSMR.out, HPOR.out⟩
    · have hd1 : decide ((i : Int) + 1 < (l.length : Int)) = false := decide_eq_false (by omega)
      clear h1
      go_wp2_with fail
      go_ret
      exact ⟨g, off, sc, cells, rfl, HCL.out, HSR.out, hgw, HFW.out, HSMR.out, HPOR.out⟩
end Go.Proofs.Ytcgndeggemceaaa
/- Package snapshot: View's closure add. -/
namespace Go.Proofs.Ytcgndeggemceaaa
open Go.RowKit

def cellsAt (cells : List Int) (lo c : Nat) : List (Int × Int) := (List.range c).map fun i => (((lo + i : Nat) : Int), cells.getD (lo + i) 0)
theorem cellsAt_succ (cells : List Int) (lo c : Nat) : cellsAt cells lo (c + 1) = cellsAt cells lo c ++ [(((lo + c : Nat) : Int), cells.getD (lo + c) 0)] := by
  simp [cellsAt, List.range_succ]
theorem cellsAt_len (cells : List Int) (lo c : Nat) : (cellsAt cells lo c).length = c := by simp [cellsAt]
def AddTo (w : World) (t7 : Nat) (vo : Option Addr) (V : List (Int × Int)) (w' : World) : Prop := ∃ vo' vc', w'.heap[t7]? = some (.cells #[.slice vo' V.length vc'] 23 (0, 0)) ∧ Seg w' 38 2 vo' V.length vc' (V.flatMap clV) ∧ t7 ∉ blk vo' ∧
  Fr (t7 :: blk vo) w w' ∧ Ext (t7 :: blk vo) w (t7 :: blk vo')

set_option maxRecDepth 100000 in
set_option maxHeartbeats 16000000 in
theorem add_any (w : World) (t4 t7 : Nat) (co : Option Addr) (cc : Nat) (cells : List Int) (vo : Option Addr) (vc : Nat) (V : List (Int × Int)) (h4 : w.heap[t4]? = some (.cells #[.slice co cells.length cc] 22 (0, 0)))
    (h7 : w.heap[t7]? = some (.cells #[.slice vo V.length vc] 23 (0, 0))) (sv : Seg w 38 2 vo V.length vc (V.flatMap clV)) (hne : t7 ∉ blk vo) (rcc : Rd w 1 co cells.length (ints cells))
    (hco : ∀ k ∈ blk co, k ≠ t7 ∧ k ∉ blk vo) (h47 : t4 ≠ t7) (h4v : t4 ∉ blk vo) (lo c : Nat) (hlc : lo + c ≤ cells.length) (hl : cells.length ≤ 1000) (hV : V.length ≤ 1000) (hcs : ∀ k ∈ blk co, k < w.heap.size) :
    Calls Try.prog 43 #[.int .i64 (lo : Int), .int .i64 (c : Int), .pointer (some ⟨t4, 0, none⟩), .pointer (some ⟨t7, 0, none⟩)] w fun e w' => e = .returned (.tuple #[]) ∧ AddTo w t7 vo (V ++ cellsAt cells lo c) w' := by
  obtain ⟨ic, hic, hcz0, hcz1, hcz2⟩ := info_parts infoCell
  have H4 := Lib.hid h4
  have H7 := Lib.hid h7
  have SV := Lib.hid sv
  have HNE := Lib.hid hne
  have HRC := Lib.hid rcc
  have HCO := Lib.hid hco
  have H4V := Lib.hid h4v
  have HCS := Lib.hid hcs
  have h4l := lt_of_blk h4
  have h7l := lt_of_blk h7
  have w0 : IntKind.i64.wrap ((lo : Int) + (c : Int)) = (lo : Int) + (c : Int) := IntWalk.i64_in _ (by omega)
  clear h4 h7 sv hne rcc hco h4v hcs
  go_enter Try.func43, Try.ntmps43
  go_wp2_with fail
  go_loopw [6] (fun iv wr => ∃ j : Nat, j ≤ c ∧ iv = .int .i64 ((lo + j : Nat) : Int) ∧ AddTo w t7 vo (V ++ cellsAt cells lo j) wr) (fun iv _ => lo + c - (intOf iv).toNat)
  case atStart => exact ⟨0, by omega, rfl, vo, vc, by simpa [cellsAt] using H7.out, by simpa [cellsAt] using SV.out, HNE.out, Fr.refl _ _, Ext.refl _ _⟩
  case round =>
    obtain ⟨j, hj, rfl, vo', vc', q7, qs, qn, qf, qx⟩ := hrel
    obtain ⟨V', hV'⟩ : ∃ V', V' = V ++ cellsAt cells lo j := ⟨_, rfl⟩
    have hVl : V'.length ≤ 2000 := by rw [hV', List.length_append, cellsAt_len]; omega
    rw [← hV'] at q7 qs
    have hmk : ∀ u, Fr (t7 :: blk vo) w u → u.heap[t4]? = some (.cells #[.slice co cells.length cc] 22 (0, 0)) := fun u hu => hu.blk H4.out (by simp; exact ⟨h47, H4V.out⟩)
    have c4 : wr.cell? ⟨t4, 0, none⟩ = some (.slice co cells.length cc) := cell_blk (hmk _ qf) 0
    have c7 : wr.cell? ⟨t7, 0, none⟩ = some (.slice vo' V'.length vc') := cell_blk q7 0
    obtain ⟨i, hi⟩ : ∃ i, i = lo + j := ⟨_, rfl⟩
    rw [← hi]
    have wi : IntKind.i64.wrap ((i : Int) + 1) = (i : Int) + 1 := IntWalk.i64_in _ (by omega)
    have h7r : t7 < wr.heap.size := lt_of_blk q7
    have h4r : t4 < wr.heap.size := lt_of_blk (hmk _ qf)
    have HVE := Lib.hid hV'
    have HQ7 := Lib.hid q7
    have HQS := Lib.hid qs
    have HQN := Lib.hid qn
    have HQF := Lib.hid qf
    have HQX := Lib.hid qx
    have HIE := Lib.hid hi
    clear hV' q7 qs qn qf qx hmk
    by_cases hjc : j < c
    · have hlt : (i : Int) < (lo : Int) + (c : Int) := by omega
      have hil : i < cells.length := by omega
      have hge : (i : Int) ≥ 0 := by omega
      have hil2 : (i : Int) < (cells.length : Int) := by omega
      obtain ⟨g, off, hce, hg, hc⟩ := (HRC.out.fr HQF.out (fun k hk => by have h := HCO.out k hk; simp; exact h)).at (by omega)
      have c0 := hc i (by omega)
      rw [ints_get, List.getElem?_eq_getElem hil] at c0
      simp only [Option.map_some] at c0
      have HX := Lib.hid (by rw [cellsAt_succ, ← List.append_assoc, ← HVE.out, ← HIE.out, List.getD_eq_getElem?_getD, List.getElem?_eq_getElem hil]; rfl : V ++ cellsAt cells lo (j + 1) = V' ++ [((i : Int), cells[i])])
      obtain ⟨x, hx⟩ : ∃ x, x = cells[i] := ⟨_, rfl⟩
      rw [← hx] at c0 HX
      have h7v := HQN.out
      subst hce
      clear hc hx hg hi
      go_upto_region 4 with fail
      go_region_law (refine step_append_seg rfl _ _ 23 rfl 38 ic _ 2 16 Try.underlying23 hic hcz0 hcz1 hcz2 rfl (by decide) vo' V'.length vc' (V'.flatMap clV) rfl (HQS.out.drew.alloc _) ⟨wr.heap.size, 0, none⟩ 1 1 [.int .i64 (i : Int), .int .i64 x] rfl rfl (new_two wr.drew _ _ _) (by simp [Value.oneCell']) (by unfold maxLen; omega) (by omega) ?_; intro ao' cap' w1 hs1 hfr1 hext1; have hd1 := hfr1.blk (alloc_old (w := wr.drew) HQ7.out) h7v; have k7 : w1.cell? ⟨t7, 0, none⟩ = some (.slice vo' V'.length vc') := cell_blk hd1 0; have e7 : w1.frozen? ⟨t7, 0, none⟩ = false := frozen_blk hd1 0; have HS1 := Lib.hid hs1; have HF1 := Lib.hid hfr1; have HX1 := Lib.hid hext1; have HD1 := Lib.hid hd1; clear hs1 hfr1 hext1 hd1)
      all_goals
        go_wp2_with fail
        have hz := lt_of_blk HQ7.out
        have hln : V'.length + 1 = (V' ++ [((i : Int), x)]).length := by simp
        have hn' : t7 ∉ blk ao' := fun hm => by
          rcases HX1.out _ hm with q | q
          · exact HQN.out q
          · simp at q; omega
        have hfr1 : Fr (blk vo') wr w1 := ((Fr.refl _ wr).drew.alloc _).trans HF1.out (Ext.refl _ _)
        have hext : Ext (blk vo') wr (blk ao') := fun k hk => (HX1.out k hk).imp id (fun q => by simp at q; omega)
        have hT : AddTo w t7 vo (V ++ cellsAt cells lo (j + 1)) (w1.setCell ⟨t7, 0, none⟩ (.slice ao' (V'.length + 1) cap')) := by
          rw [HX.out]
          refine ⟨ao', cap', ?_, ?_, hn', ?_, ?_⟩
          · rw [← hln]; exact setCell_blk HD1.out 0 _
          · rw [← hln, List.flatMap_append]
            exact (by simpa [clV] using HS1.out : Seg w1 38 2 ao' (V'.length + 1) cap' (V'.flatMap clV ++ [((i : Int), x)].flatMap clV)).setCell_other (by simpa using hn')
          · refine (HQF.out.trans hfr1 (fun k hk => ?_)).setCell (.inl (by simp)) _
            exact HQX.out k (by simp [hk])
          · intro k hk
            rcases List.mem_cons.1 hk with rfl | hk
            · exact .inl (by simp)
            · rcases hext k hk with q | q
              · exact HQX.out k (by simp [q])
              · have := HQF.out.size; exact .inr (by omega)
        have HT := Lib.hid hT
        clear hT hext hfr1 hn' hln
        refine ⟨⟨j + 1, by omega, by rw [HIE.out]; go_num, HT.out⟩, ?_⟩
        have := HIE.out
        simp [intOf]; omega
    · have hnlt : ¬ (i : Int) < (lo : Int) + (c : Int) := by omega
      have hje : j = c := by omega
      subst hje
      go_wp2_with fail
      go_end0
      exact ⟨rfl, vo', vc', by rw [← HVE.out]; exact HQ7.out, by rw [← HVE.out]; exact HQS.out, HQN.out, HQF.out, HQX.out⟩
end Go.Proofs.Ytcgndeggemceaaa
/- Package snapshot: View. -/
namespace Go.Proofs.Ytcgndeggemceaaa
open Go.RowKit

theorem AddTo.fr {w w1 w2 : World} {t7 : Nat} {vo : Option Addr} {V : List (Int × Int)} (h : AddTo w t7 vo V w1) (hf : Fr [] w1 w2) : AddTo w t7 vo V w2 := by
  obtain ⟨vo', vc', q7, qs, qn, qf, qx⟩ := h
  exact ⟨vo', vc', hf.blk q7 (by simp), qs.fr hf (by simp), qn, qf.trans hf (by simp [Ext]), qx⟩
def viewL (pl : Nat) (cells : List Int) (p : Nat) (seen : List Int) : List (Int × Int) := cellsAt cells 0 1 ++ cellsAt cells (48 + 4 * p) 4 ++ seen.flatMap fun b => cellsAt cells (48 + 4 * pl + 8 * b.toNat) 8
theorem accL_mem {p : Nat → Bool} {n : Nat} {x : Int} : x ∈ accL p n ↔ ∃ k : Nat, k < n ∧ p k = true ∧ x = (k : Int) := by
  unfold accL
  simp only [List.mem_map, List.mem_filter, List.mem_range]
  constructor
  · rintro ⟨k, ⟨h1, h2⟩, rfl⟩; exact ⟨k, h1, h2, rfl⟩
  · rintro ⟨k, h1, h2, rfl⟩; exact ⟨k, ⟨h1, h2⟩, rfl⟩

section
variable {w : World} {s : St} {bodies : List Bd} {rooms : List Bx} {doors : List (Int × Int)} {co : Option Addr} {cc : Nat} {cells : List Int}
/-- one call of add -/
theorem add_step {wz u : World} {t4 t7 : Nat} {vo : Option Addr} (h4 : wz.heap[t4]? = some (.cells #[.slice co cells.length cc] 22 (0, 0))) (rcc : Rd wz 1 co cells.length (ints cells)) (hco : ∀ k ∈ blk co, k < wz.heap.size ∧ k ≠ t7 ∧ k ∉ blk vo) (h47 : t4 ≠ t7) (h4v : t4 ∉ blk vo) (hl : cells.length ≤ 1000)
    {V : List (Int × Int)} (hQ : AddTo wz t7 vo V u) (hV : V.length ≤ 1000) (lo c : Nat) (hlc : lo + c ≤ cells.length) :
    Calls Try.prog 43 #[.int .i64 (lo : Int), .int .i64 (c : Int), .pointer (some ⟨t4, 0, none⟩), .pointer (some ⟨t7, 0, none⟩)] u fun e w' => e = .returned (.tuple #[]) ∧ AddTo wz t7 vo (V ++ cellsAt cells lo c) w' := by
  obtain ⟨vo', vc', q7, qs, qn, qf, qx⟩ := hQ
  have h4l := lt_of_blk h4
  have hx : ∀ k ∈ blk vo', k ∈ blk vo ∨ wz.heap.size ≤ k := fun k hk => by
    rcases qx k (by simp [hk]) with h | h
    · rcases List.mem_cons.1 h with rfl | h
      · exact absurd hk qn
      · exact .inl h
    · exact .inr h
  have hz := qf.size
  refine (add_any u t4 t7 co cc cells vo' vc' V (qf.blk h4 (by simp; exact ⟨h47, h4v⟩)) q7 qs qn (rcc.fr qf (fun k hk => by have := hco k hk; simp; exact ⟨this.2.1, this.2.2⟩)) (fun k hk => ⟨(hco k hk).2.1, fun hm => by rcases hx k hm with h | h; exact (hco k hk).2.2 h; have := (hco k hk).1; omega⟩) h47 (fun hm => by rcases hx _ hm with h | h; exact h4v h; omega) lo c hlc hl hV (fun k hk => by have := (hco k hk).1; omega)).mono fun e w' h => ⟨h.1, ?_⟩
  obtain ⟨vo2, vc2, p7, ps, pn, pf, px⟩ := h.2
  exact ⟨vo2, vc2, p7, ps, pn, qf.trans pf qx, qx.trans px qf.size⟩

set_option maxRecDepth 100000 in
set_option maxHeartbeats 8000000 in
theorem view_any (h : VPre w s bodies rooms doors co cc cells) (pl p : Nat) (hpl : s.players = (pl : Int)) (hp : p < pl) (hl : cells.length ≤ 1000) (hco : ∀ k ∈ blk co, k < w.heap.size) :
    Calls Try.prog 22 #[s.val, .slice co cells.length cc, .int .i64 (p : Int)] w (CelTo w (viewL pl cells p (seenL s rooms doors cells (p : Int)))) := by
  obtain ⟨C, hC⟩ := cAt s
  have hok := h.mp.ok
  have hlen : 48 + 4 * pl + 8 * s.nb ≤ cells.length := by have := h.len; rw [hpl] at this; omega
  have HSEE := Lib.hid (fun u (hu : Fr [] w u) => (by have q := seen_any (h.old hu) (p : Int); rw [hC.val] at q; exact q : Calls Try.prog 24 #[.agg C, .slice co cells.length cc, .int .i64 (p : Int)] u (IntsTo u (seenL s rooms doors cells (p : Int)))))
  have HPLR := Lib.hid (fun (u : World) => (by
    have q := player_any u s hok (p : Int)
    rw [show plOf s (p : Int) = ((48 + 4 * p : Nat) : Int) by unfold plOf; rw [if_neg (by rw [hpl]; omega)]; omega, hC.val] at q; exact q : Calls Try.prog 26 #[.agg C, .int .i64 (p : Int)] u fun e w' => e = .returned (.int .i64 ((48 + 4 * p : Nat) : Int)) ∧ Fr [] u w'))
  have HBDR := Lib.hid (fun (u : World) (b : Int) (h0 : 0 ≤ b) (h1 : b < (s.nb : Int)) => (by
    have q := body_any u s hok b
    rw [show bdOf s b = ((48 + 4 * pl + 8 * b.toNat : Nat) : Int) by unfold bdOf; rw [if_neg (by omega), hpl]; omega, hC.val] at q; exact q : Calls Try.prog 27 #[.agg C, .int .i64 b] u fun e w' => e = .returned (.int .i64 ((48 + 4 * pl + 8 * b.toNat : Nat) : Int)) ∧ Fr [] u w'))
  have HCS := Lib.hid hC.size
  have HRC := Lib.hid h.mp.rd
  obtain ⟨L, hL⟩ : ∃ L, L = seenL s rooms doors cells (p : Int) := ⟨_, rfl⟩
  have HLM := Lib.hid (fun x (hx : x ∈ L) => (by
    rw [hL] at hx
    obtain ⟨k, hk, -, rfl⟩ := accL_mem.1 hx
    omega : 0 ≤ x ∧ x < (s.nb : Int)))
  have hLl : L.length ≤ s.nb := by rw [hL]; exact accL_len _ _
  have hnb : s.nb ≤ 200 := by omega
  rw [← hL] at HSEE ⊢
  rw [hC.val]
  obtain ⟨bx, hbx⟩ : ∃ bx, bx = w.heap.size := ⟨_, rfl⟩
  obtain ⟨LO, hLO⟩ : ∃ LO : List Obj, LO = [.cells C 49, .cells #[.slice co cells.length cc] 22, .cells #[.slice none 0 0] 23] := ⟨_, rfl⟩
  obtain ⟨wz, hwz⟩ : ∃ wz, wz = LO.foldl World.alloc w := ⟨_, rfl⟩
  have hll : LO.length = 3 := by rw [hLO]; rfl
  have hzz : wz.heap.size = bx + 3 := by rw [hwz, allocs_size, hll, hbx]
  have hfz : Fr [] w wz := by rw [hwz]; exact allocs_fr _ _
  have hget : ∀ (i : Nat) (o : Obj), LO[i]? = some o → wz.heap[bx + i]? = some o := fun i o ho => by
    obtain ⟨h1, h2⟩ := List.getElem?_eq_some_iff.1 ho
    rw [hwz, hbx, allocs_get _ _ _ h1, h2]
  have hB : wz.heap[bx]? = some (.cells C 49 (0, 0)) := hget 0 _ (by rw [hLO]; rfl)
  have h4 : wz.heap[bx + 1]? = some (.cells #[.slice co cells.length cc] 22 (0, 0)) := hget 1 _ (by rw [hLO]; rfl)
  have h7 : wz.heap[bx + 2]? = some (.cells #[.slice none 0 0] 23 (0, 0)) := hget 2 _ (by rw [hLO]; rfl)
  have eW : ((w.alloc (.cells C 49)).alloc (.cells #[.slice co cells.length cc] 22)).alloc (.cells #[.slice none 0 0] 23) = wz := by rw [hwz, hLO]; rfl
  have HADD := Lib.hid (fun (u : World) (V : List (Int × Int)) (hQ : AddTo wz (bx + 2) none V u) (hV : V.length ≤ 1000) (lo c : Nat) (hlc : lo + c ≤ cells.length) =>
    add_step (t4 := bx + 1) (t7 := bx + 2) h4 (HRC.out.fr hfz (by simp)) (fun k hk => by have := hco k hk; exact ⟨by omega, by omega, by simp [blk]⟩) (by omega) (by simp [blk]) hl hQ hV lo c hlc)
  have HQ0 := Lib.hid (⟨none, 0, h7, Seg.nil _ _ _, by simp [blk], Fr.refl _ _, Ext.refl _ _⟩ : AddTo wz (bx + 2) none [] wz)
  have HKB := Lib.hid (fun (u : World) (V : List (Int × Int)) (hQ : AddTo wz (bx + 2) none V u) => (by
    obtain ⟨_, _, _, _, _, qf, _⟩ := hQ
    exact ⟨qf.blk hB (by simp [blk]), qf.blk h4 (by simp [blk])⟩ : u.heap[bx]? = some (.cells C 49 (0, 0)) ∧ u.heap[bx + 1]? = some (.cells #[.slice co cells.length cc] 22 (0, 0))))
  have HFZ := Lib.hid hfz
  have HZZ := Lib.hid hzz
  have HBX := Lib.hid hbx
  have HEW := Lib.hid eW
  have HFU := Lib.hid (fun (u : World) (V : List (Int × Int)) (hQ : AddTo wz (bx + 2) none V u) => (by
    obtain ⟨_, _, _, _, _, qf, _⟩ := hQ
    exact hfz.trans qf (fun k hk => .inr (by simp [blk] at hk; omega)) : Fr [] w u))
  have HH4 := Lib.hid h4
  have HCOW := Lib.hid hco
  clear h hC hok hL hbx hLO hwz hll hzz hfz hget hB h4 h7 eW hco
  go_enter Try.func22, Try.ntmps22
  go_wp2_with fail
  rw [HEW.out, ← HBX.out]
  simp only [Nat.add_assoc, Nat.reduceAdd]
  have q01 : Calls Try.prog 43 #[.int .i64 0, .int .i64 1, .pointer (some ⟨bx + 1, 0, none⟩), .pointer (some ⟨bx + 2, 0, none⟩)] wz fun e w' => e = .returned (.tuple #[]) ∧ AddTo wz (bx + 2) none ([] ++ cellsAt cells 0 1) w' := HADD.out wz [] HQ0.out (by simp) 0 1 (by omega)
  refine q01.mono ?_
  rintro e w1 ⟨rfl, hq1⟩
  have HQ1 := Lib.hid hq1
  have HB1 := Lib.hid (HKB.out _ _ hq1).1
  clear hq1 q01
  go_wp2_with (refine wpList_loadB rfl 49 (Operand.tmp 3) rfl bx 16 rfl C 49 (0, 0) HB1.out _ Try.underlying49 rfl HCS.out infoSetup ?_)
  refine (HPLR.out w1).mono ?_
  rintro e w2 ⟨rfl, f2⟩
  have HQ2 := Lib.hid (HQ1.out.fr f2)
  clear f2 HQ1 HB1
  obtain ⟨a, ha⟩ : ∃ a, a = 48 + 4 * p := ⟨_, rfl⟩
  have HAE := Lib.hid ha
  have hal : a + 4 ≤ cells.length := by omega
  have hage : (a : Int) ≥ 0 := by omega
  rw [← ha]
  have q4 : Calls Try.prog 43 #[.int .i64 (a : Int), .int .i64 4, .pointer (some ⟨bx + 1, 0, none⟩), .pointer (some ⟨bx + 2, 0, none⟩)] w2 fun e w' => e = .returned (.tuple #[]) ∧ AddTo wz (bx + 2) none ([] ++ cellsAt cells 0 1 ++ cellsAt cells a 4) w' := HADD.out w2 _ HQ2.out (by simp [cellsAt_len]) a 4 hal
  clear ha
  have Q4 := Lib.hid q4
  clear q4
  go_wp2_with fail
  refine Q4.out.mono ?_
  rintro e w3 ⟨rfl, hq3⟩
  obtain ⟨V0, hV0⟩ : ∃ V0, V0 = [] ++ cellsAt cells 0 1 ++ cellsAt cells a 4 := ⟨_, rfl⟩
  rw [← hV0] at hq3
  have hV0l : V0.length = 5 := by rw [hV0]; simp [cellsAt_len]
  have HV0 := Lib.hid hV0
  have HQ3 := Lib.hid hq3
  have HB3 := Lib.hid (HKB.out _ _ hq3).1
  have c3 : w3.cell? ⟨bx + 1, 0, none⟩ = some (.slice co cells.length cc) := cell_blk (HKB.out _ _ hq3).2 0
  have HF3 := Lib.hid (HFU.out _ _ hq3)
  clear hq3 hV0 HQ2 Q4
  go_wp2_with (refine wpList_loadB rfl 49 (Operand.tmp 3) rfl bx 16 rfl C 49 (0, 0) HB3.out _ Try.underlying49 rfl HCS.out infoSetup ?_)
  refine (HSEE.out w3 HF3.out).mono ?_
  rintro e w4 ⟨lo, lc, rfl, hs4, f4, hsn⟩
  obtain ⟨vo4, vc4, q7, qs, qn, qf, qx⟩ := HQ3.out
  have hv4 := qs.lt
  have hgrow := f4.size
  have h3z := qf.size
  have hvz : ∀ k ∈ blk vo4, wz.heap.size ≤ k := fun k hk => by
    rcases qx k (by simp [hk]) with h | h
    · simp [blk] at h; exact absurd (h ▸ hk) qn
    · exact h
  have hB4 := f4.blk (HKB.out _ _ HQ3.out).1 (by simp)
  have h44 := f4.blk (HKB.out _ _ HQ3.out).2 (by simp)
  have HQ4 := Lib.hid (⟨vo4, vc4, f4.blk q7 (by simp), qs.fr f4 (by simp), qn, Fr.refl _ _, Ext.refl _ _⟩ : AddTo w4 (bx + 2) vo4 V0 w4)
  have HAD4 := Lib.hid (fun (u : World) (V : List (Int × Int)) (hQ : AddTo w4 (bx + 2) vo4 V u) (hV : V.length ≤ 1000) (lo c : Nat) (hlc : lo + c ≤ cells.length) =>
    add_step (t4 := bx + 1) (t7 := bx + 2) h44 (HRC.out.fr (HF3.out.trans f4 (by simp [Ext])) (by simp)) (fun k hk => by have h1 := HCOW.out k hk; have h2 := HF3.out.size; have h3 := HBX.out; exact ⟨by omega, by omega, fun hm => by have := hvz k hm; have := HZZ.out; omega⟩) (by omega) (fun hm => by have := hvz _ hm; have := HZZ.out; omega) hl hQ hV lo c hlc)
  have HKB4 := Lib.hid (fun (u : World) (V : List (Int × Int)) (hQ : AddTo w4 (bx + 2) vo4 V u) => (by
    obtain ⟨_, _, _, _, _, pf, _⟩ := hQ
    exact pf.blk hB4 (by simp; exact fun hm => by have := hvz _ hm; have := HZZ.out; omega) : u.heap[bx]? = some (.cells C 49 (0, 0))))
  have HSL4 := Lib.hid (fun (u : World) (V : List (Int × Int)) (hQ : AddTo w4 (bx + 2) vo4 V u) => (by
    obtain ⟨_, _, _, _, _, pf, _⟩ := hQ
    exact (hs4.fr pf (fun k hk => by have h1 := hsn k hk; have h2 := HZZ.out; simp; exact ⟨by omega, fun hm => by have := hv4 k hm; omega⟩)).rd : Rd u 1 lo L.length (ints L)))
  have HFIN := Lib.hid (fun (u : World) (V : List (Int × Int)) (hQ : AddTo w4 (bx + 2) vo4 V u) => (by
    obtain ⟨vo5, vc5, p7, ps, pn, pf, px⟩ := hQ
    refine ⟨vo5, vc5, cell_blk p7 0, ps, (HF3.out.trans f4 (by simp [Ext])).trans pf (fun k hk => .inr ?_), fun k hk => ?_⟩
    · rcases List.mem_cons.1 hk with rfl | hk
      · have := HBX.out; omega
      · have := hvz k hk; have := HZZ.out; have := HBX.out; omega
    · rcases px k (by simp [hk]) with h | h
      · rcases List.mem_cons.1 h with rfl | h
        · exact absurd hk pn
        · have := hvz k h; have := HZZ.out; have := HBX.out; omega
      · have := HZZ.out; have := HBX.out; omega : ∃ vo5 vc5, u.cell? ⟨bx + 2, 0, none⟩ = some (.slice vo5 V.length vc5) ∧ Seg u 38 2 vo5 V.length vc5 (V.flatMap clV) ∧ Fr [] w u ∧ ∀ k ∈ blk vo5, w.heap.size ≤ k))
  have hll9 : L.length ≤ 9223372036854775807 := by omega
  clear hs4 hsn f4 HQ3 HB3 c3 q7 qs qn qf qx hv4 hgrow h3z hvz hB4 h44
  go_wp2_with fail
  go_loopw [28] (fun iv wr => ∃ j : Nat, j ≤ L.length ∧ iv = .int .i64 (j : Int) ∧ AddTo w4 (bx + 2) vo4 (V0 ++ (L.take j).flatMap fun b => cellsAt cells (48 + 4 * pl + 8 * b.toNat) 8) wr) (fun iv _ => L.length - (intOf iv).toNat)
  case atStart => exact ⟨0, by omega, rfl, by rw [List.take_zero, List.flatMap_nil, List.append_nil]; exact HQ4.out⟩
  case round =>
    obtain ⟨j, hj, rfl, hq⟩ := hrel
    obtain ⟨V, hV⟩ : ∃ V, V = V0 ++ (L.take j).flatMap fun b => cellsAt cells (48 + 4 * pl + 8 * b.toNat) 8 := ⟨_, rfl⟩
    rw [← hV] at hq
    have HVE := Lib.hid hV
    have HQ := Lib.hid hq
    have HBR := Lib.hid (HKB4.out _ _ hq)
    have hVl : V.length ≤ 1000 := by
      have : ∀ (l : List Int), (l.flatMap fun b => cellsAt cells (48 + 4 * pl + 8 * b.toNat) 8).length = 8 * l.length := by
        intro l
        induction l with
        | nil => rfl
        | cons x l ih => rw [List.flatMap_cons, List.length_append, ih, cellsAt_len, List.length_cons]; omega
      rw [hV, List.length_append, this, List.length_take]
      omega
    clear hV hq
    by_cases hjl : j < L.length
    · have hlt : (j : Int) < (L.length : Int) := by omega
      have wj : IntKind.i64.wrap ((j : Int) + 1) = (j : Int) + 1 := IntWalk.i64_in _ (by omega)
      obtain ⟨g, off, hle, hg, hc⟩ := (HSL4.out _ _ HQ.out).at (by omega)
      have c0 := hc j (by omega)
      rw [ints_get, List.getElem?_eq_getElem hjl] at c0
      simp only [Option.map_some] at c0
      have hxm := HLM.out _ (List.getElem_mem hjl)
      have htk : L.take (j + 1) = L.take j ++ [L[j]] := by rw [List.take_succ_eq_append_getElem hjl]
      obtain ⟨x, hx⟩ : ∃ x, x = L[j] := ⟨_, rfl⟩
      rw [← hx] at c0 hxm htk
      have HBD := Lib.hid (HBDR.out wr x hxm.1 hxm.2)
      have HX := Lib.hid (by rw [htk, List.flatMap_append, ← List.append_assoc, ← HVE.out]; simp : V0 ++ (L.take (j + 1)).flatMap (fun b => cellsAt cells (48 + 4 * pl + 8 * b.toNat) 8) = V ++ cellsAt cells (48 + 4 * pl + 8 * x.toNat) 8)
      have hbl : 48 + 4 * pl + 8 * x.toNat + 8 ≤ cells.length := by omega
      obtain ⟨bb, hbb⟩ : ∃ bb, bb = 48 + 4 * pl + 8 * x.toNat := ⟨_, rfl⟩
      rw [← hbb] at HBD HX hbl
      subst hle
      clear hc hx htk hxm hbb hg
      go_wp2_with (refine wpList_loadB rfl 49 (Operand.tmp 3) rfl bx 16 rfl C 49 (0, 0) HBR.out _ Try.underlying49 rfl HCS.out infoSetup ?_)
      refine HBD.out.mono ?_
      rintro e w5 ⟨rfl, f5⟩
      have Q8 : Hid (Calls Try.prog 43 #[.int .i64 (bb : Int), .int .i64 8, .pointer (some ⟨bx + 1, 0, none⟩), .pointer (some ⟨bx + 2, 0, none⟩)] w5 fun e w' => e = .returned (.tuple #[]) ∧ AddTo w4 (bx + 2) vo4 (V ++ cellsAt cells bb 8) w') := Lib.hid (HAD4.out w5 _ (HQ.out.fr f5) hVl bb 8 hbl)
      clear f5 HBD HBR
      go_wp2_with fail
      refine Q8.out.mono ?_
      rintro e w6 ⟨rfl, hq6⟩
      have HQ6 := Lib.hid hq6
      clear hq6
      go_wp2_with fail
      go_roundw
      case rel => exact ⟨j + 1, by omega, by go_num, by rw [HX.out]; exact HQ6.out⟩
      case measure => simp [intOf]; omega
    · have hnl : ¬ (j : Int) < (L.length : Int) := by omega
      obtain ⟨vo5, vc5, c5, qs5, qf5, qn5⟩ := HFIN.out _ _ HQ.out
      have HS5 := Lib.hid qs5
      have HF5 := Lib.hid qf5
      have HN5 := Lib.hid qn5
      have hVV : V = viewL pl cells p L := by
        rw [HVE.out, List.take_of_length_le (by omega), HV0.out, HAE.out]
        rfl
      have HVV := Lib.hid hVV
      clear qs5 qf5 qn5 hVV hjl
      go_wp2_with fail
      go_ret
      exact ⟨vo5, vc5, by rw [← HVV.out]; rfl, by rw [← HVV.out]; exact HS5.out, HF5.out, HN5.out⟩
end
end Go.Proofs.Ytcgndeggemceaaa
