/- LayoutShapes returns true. -/
import Derived.Test.YtlfomhknfpmhbaaGenV12
namespace Go.Proofs.Ytlfomhknfpmhbaa
open Go.RowKit

theorem infoVec : (Try.prog.info? 29).map (fun i => (i.zero, i.size, i.bytes)) = some (some (.agg #[.int .i64 0, .int .i64 0]), 2, 16) := by kernel_rfl

/-- the points copied so far -/
def FewI (w : World) (l : List (Int × Int)) (sv iv : Value) (wr : World) : Prop := ∃ (m : Nat) (fo : Option Addr) (fc : Nat), m ≤ 8 ∧ m ≤ l.length ∧ sv = .slice fo m fc ∧ iv = .int .i64 (m : Int) ∧
  Seg wr 29 2 fo m fc (vecs (l.take m)) ∧ Fr [] w wr ∧ ∀ k ∈ blk fo, w.heap.size ≤ k

set_option maxRecDepth 100000 in
set_option maxHeartbeats 8000000 in
theorem shapes_walk (w : World) (lo : Option Addr) (lc : Nat) (l : List Int) (i rad : Int) (po : Option Addr) (pc : Nat) (poly : List (Int × Int)) (hrd : Rd w 1 lo l.length (ints l)) (hb : ∀ x ∈ l, bounded x) (hi : bounded i) (hp : Rd w 2 po poly.length (vecs poly)) :
    Calls Try.prog 7 #[.slice lo l.length lc, .int .i64 i, .int .i64 rad, .slice po poly.length pc] w fun e w' => e = .returned (.bool true) ∧ Fr [] w w' := by
  have HSU := Lib.hid (setup_any w lo lc l hrd hb)
  have HP := Lib.hid hp
  have HI := Lib.hid hi
  obtain ⟨iv, hiv, hz0, hz1, hz2⟩ := info_parts infoVec
  have hpl : poly.length ≤ 9223372036854775807 := by have := hp.2.1; unfold maxLen at this; omega
  clear hrd hb hp hi
  go_enter Try.func7, Try.ntmps7
  go_wp2_with fail
  refine HSU.out.mono ?_
  rintro e w1 ⟨s, bodies, doors, rfl, hs⟩
  have HS := Lib.hid hs
  have F1 := Lib.hid hs.fr
  obtain ⟨nb, hnb⟩ : ∃ nb, nb = s.nb := ⟨_, rfl⟩
  have hnb1 : 1 ≤ nb := by have := hs.num.1; have := hs.pn; have := hs.nb; omega
  have hnb5 : nb ≤ 5 := by have := hs.nb; have := hs.b5; omega
  have hnbl : nb = bodies.length := by rw [hnb]; exact hs.nb
  obtain ⟨k, hk, -, hA⟩ := around_nat i nb HI.out hnb1 (by omega)
  have HA := Lib.hid hA
  obtain ⟨C, hC⟩ : ∃ C : Array Value, C = stCells s := ⟨_, rfl⟩
  have hval : s.val = .agg C := by rw [hC]; rfl
  obtain ⟨g, off, cur, hbo, hg, -, -, hfz⟩ := hs.seg.at (by have := hs.seg.2.2.1; omega)
  obtain ⟨bc, hbc⟩ : ∃ bc, bc = s.bc := ⟨_, rfl⟩
  have HCS := Lib.hid (by rw [hC]; rfl : C.size = 16)
  have HC1 := Lib.hid (by rw [hC]; simp [stCells, Value.oneCell'] : C.all (·.oneCell') = true)
  have HCB := Lib.hid (by rw [hC, hnb, hbc, ← hbo]; rfl : C[1]? = some (.slice (some ⟨g, off, none⟩) nb bc))
  have hg1 : g < w1.heap.size := lt_of_blk hg
  have hgw : w.heap.size ≤ g := hs.fresh g (by rw [hbo]; simp [blk])
  have HBO := Lib.hid hbo
  have HVAL := Lib.hid hval
  have HNB := Lib.hid hnb
  rw [hval]
  clear hs hnb hA hC hval hbo hbc
  go_wp2_with (refine wpList_storeB rfl 31 (Operand.tmp 9) (Operand.tmp 15) rfl w1.heap.size 16 C rfl rfl _ 31 (by exact alloc_new _ _) rfl HCS.out infoSetup HC1.out ?_; intro w2 hb2 hf2; have F2 := Lib.hid ((F1.out.alloc _).trans hf2 (fun k hk => .inr (by simp at hk; rw [hk]; exact F1.out.size))); have G2 := Lib.hid (((Fr.refl [] w1).alloc _).trans hf2 (fun k hk => .inr (by simp at hk; omega))); have B2 := Lib.hid hb2; clear hb2 hf2)
  obtain ⟨b3, hb3⟩ : ∃ b3, b3 = w1.heap.size := ⟨_, rfl⟩
  rw [← hb3] at B2 ⊢
  have HB3 := Lib.hid hb3
  clear hb3 F1
  go_loopw [10, 11] (fun sv iv wr => FewI w2 poly sv iv wr) (fun _ iv _ => poly.length - (intOf iv).toNat)
  case atStart => exact ⟨0, none, 0, by omega, by omega, rfl, rfl, by simpa [vecs] using Seg.nil w2 _ _, Fr.refl _ _, by simp [blk]⟩
  case round =>
    obtain ⟨m, fo, fc, hm8, hml, rfl, rfl, hseg, hf, hn⟩ := hrel
    have HSG := Lib.hid hseg
    have HF := Lib.hid hf
    have HN := Lib.hid hn
    clear hseg hf hn
    by_cases hlt : m < poly.length
    case' pos =>
      have hlt' : (m : Int) < (poly.length : Int) := by omega
      by_cases h8 : m < 8
      case' pos =>
        obtain ⟨pg, poff, e, hpg, p0, p1⟩ := (HP.out.fr (F2.out.trans HF.out (by simp [Ext])) (by simp)).vec hlt
        subst e
        obtain ⟨y, hy⟩ : ∃ y, y = vx poly m := ⟨_, rfl⟩
        rw [← hy] at p0 p1
        obtain ⟨y1, y2⟩ := y
        simp only at p0 p1
        have HY : Hid (vecs (poly.take (m + 1)) = vecs (poly.take m) ++ drCells (y1, y2)) := Lib.hid (by
          rw [hy]
          unfold vecs vx
          rw [List.take_succ_eq_append_getElem hlt, List.flatMap_append, List.getD_eq_getElem?_getD, List.getElem?_eq_getElem hlt]
          simp)
        have HSA := Lib.hid fun (o : Obj) => HSG.out.alloc o
        clear hy
        go_wp2_with (at_builtin; refine wpList_append_seg rfl _ _ 46 rfl 29 iv _ 2 16 Try.underlying46 hiv hz0 hz1 hz2 rfl (by decide) fo m fc (vecs (poly.take m)) rfl (HSA.out _) ⟨_, 0, none⟩ 1 1 (drCells (y1, y2)) rfl rfl (fun j u hu => by rw [Addr.add_mid, Nat.zero_add, World.cell?_alloc_new]; simpa [drCells] using hu) (by simp [drCells, Value.oneCell']) (by unfold maxLen; omega) (by omega) ?_; intro fo' fc' w5 hs5 hf5 hx5; have HF5 := Lib.hid (((Fr.refl (blk fo) wr).alloc _).trans hf5 (Ext.refl _ _)); have HX5 := Lib.hid hx5; have HS5 := Lib.hid hs5; clear hs5 hf5 hx5)
        go_roundw
        case rel =>
          refine ⟨m + 1, fo', fc', by omega, by omega, rfl, by go_num, by rw [HY.out]; exact HS5.out, HF.out.trans HF5.out (fun q hq => .inr (HN.out q hq)), fun q hq => ?_⟩
          rcases HX5.out q hq with h | h
          · exact HN.out q h
          · have := HF.out.size; simp at h; omega
        case measure => simp [intOf]; omega
      case' neg =>
        have h8' : ¬ (m : Int) < 8 := by omega
    case' neg =>
      have hlt' : ¬ (m : Int) < (poly.length : Int) := by omega
    all_goals
      skip
      obtain ⟨few, hfew⟩ : ∃ few, few = poly.take m := ⟨_, rfl⟩
      have hfl : few.length = m := by rw [hfew, List.length_take]; omega
      rw [← hfew] at HSG
      have HFL := Lib.hid hfl
      have hB3 := HF.out.blk B2.out (by simp)
      have hF1r := G2.out.trans HF.out (by simp [Ext])
      have hgr := hF1r.blk hg (by simp)
      have hkl : k < bodies.length := by omega
      obtain ⟨d, hd⟩ : ∃ d, d = bodies[k] := ⟨_, rfl⟩
      obtain ⟨g', off', e, -, k0, k1, -⟩ := (HS.out.seg.fr hF1r (by simp)).rd.body hkl hd
      rw [HBO.out] at e
      cases e
      have c1 : wr.cell? ⟨b3, 1, none⟩ = some (.slice (some ⟨g, off, none⟩) nb bc) := (cell_blk hB3 1).trans HCB.out
      have f0 : wr.frozen? ⟨g, off + k * 9, none⟩ = false := frozen_blk hgr _
      have f1 : wr.frozen? ⟨g, off + k * 9 + 1, none⟩ = false := frozen_blk hgr _
      have hkn : (k : Int) < (nb : Int) := by omega
      have HB3r := Lib.hid hB3
      have HF1r := Lib.hid hF1r
      have HGR := Lib.hid hgr
      have HD := Lib.hid hd
      have HNBL := Lib.hid hnbl
      have HG := Lib.hid hg
      have HGW := Lib.hid hgw
      have HG1 := Lib.hid hg1
      clear hfew hfl hB3 hF1r hgr hd hfz hnbl hiv hz0 hz1 hz2 hpl hg hg1 hgw hnb1 hnb5
      go_wp2_with fail
      refine (HA.out _).mono ?_
      rintro e w' ⟨rfl, hw'⟩
      subst hw'
      go_upto_region 8 with fail
      go_upto_region 9 with fail
      obtain ⟨W5, hW5⟩ : ∃ W5, W5 = (wr.setCell ⟨g, off + k * 9, none⟩ (.int .i64 rad)).setCell ⟨g, off + k * 9 + 1, none⟩ (.slice fo m fc) := ⟨_, rfl⟩
      have hFr : Fr [g] wr W5 := by rw [hW5]; exact ((Fr.refl [g] wr).setCell (.inl (by simp)) _).setCell (.inl (by simp)) _
      have hF15 : Fr [g] w1 W5 := (HF1r.out.mono (by simp)).trans hFr (Ext.refl _ _)
      have hsg5 : Seg W5 52 9 s.bo bodies.length s.bc ((shaped bodies k d rad fo m fc).flatMap Bd.cells) := by
        have h1 := HS.out.seg.fr HF1r.out (by simp)
        rw [HBO.out] at h1 ⊢
        have h2 := h1.store (i := k * 9) (by omega) (.int .i64 rad)
        have h3 := h2.store (i := k * 9 + 1) (by omega) (.slice fo m fc)
        rw [shaped_cells bodies k hkl d HD.out rad fo m fc, hW5]
        rw [← Nat.add_assoc] at h3
        exact h3
      have hdk : { d with rad := rad, po := fo, pn := m, pc := fc } = (shaped bodies k d rad fo m fc)[k]'(by rw [shaped_len]; exact hkl) := (List.getElem_set_self _).symm
      have hrd5 : Rd W5 9 s.bo (shaped bodies k d rad fo m fc).length ((shaped bodies k d rad fo m fc).flatMap Bd.cells) := by rw [shaped_len]; exact hsg5.rd
      obtain ⟨g', off', e, -, q0, q1, -⟩ := hrd5.body (by rw [shaped_len]; exact hkl) hdk
      rw [HBO.out] at e
      cases e
      simp only at q0 q1
      have hgb : b3 ≠ g := by have := HG1.out; have := HB3.out; omega
      have hB5 : W5.heap[b3]? = some (.cells C 31 (0, 0)) := hFr.blk HB3r.out (by simpa using hgb)
      have c5 : W5.cell? ⟨b3, 1, none⟩ = some (.slice (some ⟨g, off, none⟩) nb bc) := (cell_blk hB5 1).trans HCB.out
      have hfew5 : Rd W5 2 fo few.length (vecs few) := by
        rw [HFL.out]
        exact (HSG.out.fr hFr (fun q hq hm => by simp at hm; have h1 := HN.out q hq; have h2 := HG1.out; have h3 := G2.out.size; omega)).rd
      obtain ⟨polys, hsk, hgood⟩ := HS.out.sk
      have hv := HS.out.shapedV hsk.pl hgood hkl HD.out (rad := rad) (fo := fo) (m := m) (fc := fc) (few := few)
      have hsk5 := HS.out.shaped hsk hkl HBO.out HG.out hF15 hsg5.rd HFL.out (by omega) hfew5
      obtain ⟨v, hvv⟩ : ∃ v, v = shV rad few := ⟨_, rfl⟩
      have hv01 : v = 0 ∨ v = 10 := by rw [hvv]; unfold shV; cases shB rad few <;> simp
      have HLV := Lib.hid (fun (u : World) (hu : Fr [] W5 u) => (by have h := (hsk5.old hu).valid; rw [hv, ← hvv, HVAL.out] at h; exact h : Calls Try.prog 13 #[.agg C] u fun e w' => e = .returned (.int .i64 v) ∧ Fr [] u w'))
      have HSV := Lib.hid (by have h := shape_any W5 rad fo fc few (by rw [HFL.out]; omega) hfew5; rw [HFL.out, ← hvv] at h; exact h : Calls Try.prog 25 #[.agg #[.int .i64 rad, .slice fo m fc]] W5 fun e w' => e = .returned (.int .i64 v) ∧ Fr [] W5 w')
      have HF5 := Lib.hid ((F2.out.trans HF.out (by simp [Ext])).trans hFr (fun q hq => .inr (by simp at hq; rw [hq]; exact HGW.out)))
      have HB5 := Lib.hid hB5
      rw [← hW5]
      clear hW5 hFr hF15 hsg5 hdk hrd5 hgb hB5 hfew5 hsk hgood hv hsk5 hvv c1 k0 k1 f0 f1
      go_wp2_with fail
      refine HSV.out.mono ?_
      rintro e w6 ⟨rfl, f6⟩
      have HF6 := Lib.hid (HF5.out.trans f6 (by simp [Ext]))
      have HX6 := Lib.hid f6
      have B6 := Lib.hid (f6.blk HB5.out (by simp))
      clear f6 c5 q0 q1
      rcases hv01 with hv0 | hv0
      all_goals
        subst hv0
        go_wp2_with (refine wpList_loadB rfl 31 (Operand.tmp 9) rfl b3 16 rfl C 31 (0, 0) B6.out _ Try.underlying31 rfl HCS.out infoSetup ?_)
        refine (HLV.out _ HX6.out).mono ?_
        rintro e w7 ⟨rfl, f7⟩
        have HF7 := Lib.hid (HF6.out.trans f7 (by simp [Ext]))
        have HX7 := Lib.hid (HX6.out.trans f7 (by simp [Ext]))
        have B7 := Lib.hid (f7.blk B6.out (by simp))
        clear f7
        go_wp2_with (refine wpList_loadG (by rfl) 31 (Operand.tmp 9) rfl b3 16 rfl C 31 (0, 0) B7.out _ Try.underlying31 rfl HCS.out infoSetup ?_)
        refine (HLV.out _ HX7.out).mono ?_
        rintro e w8 ⟨rfl, f8⟩
        have HF8 := Lib.hid (HF7.out.trans f8 (by simp [Ext]))
        clear f8
        go_wp2_with fail
        refine (lives_any _).mono ?_
        rintro e w9 ⟨rfl, f9⟩
        have HF9 := Lib.hid (HF8.out.trans f9 (by simp [Ext]))
        clear f9
        go_wp2_with fail
        go_ret
        exact ⟨rfl, HF9.out⟩
end Go.Proofs.Ytlfomhknfpmhbaa
