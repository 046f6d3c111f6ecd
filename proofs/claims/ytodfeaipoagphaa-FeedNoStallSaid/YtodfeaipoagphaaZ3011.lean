/- FeedSend, Dec, Get, WalkD, ReadLen (merged by merge.py). -/
import Derived.Test.YtodfeaipoagphaaZ309
import Derived.Test.YtodfeaipoagphaaZ3010
/- Package feed: Send. -/
namespace Go.Proofs.Ytodfeaipoagphaa
open Go.RowKit

theorem ref_eq {s : FS} (hg : s.Good) {m : Int} (h0 : 0 ≤ m) (h1 : m = 0 ∨ ∃ e ∈ s.L, e.acked = true ∧ e.tick + 1 = m) (h2 : ∀ e ∈ s.L, e.acked = true → e.tick + 1 ≤ m) : m = (s.ref : Int) := by
  unfold FS.ref
  cases h3 : lastA s.L with
  | none =>
    rcases h1 with h | ⟨e, he, ha, _⟩
    · rw [h]; rfl
    · rw [lastA_none h3 e he] at ha; cases ha
  | some e =>
    obtain ⟨h4, h5⟩ := lastA_some h3
    have h6 := h2 e h4 h5
    have h7 := (hg.tick e h4).1
    show m = ((e.tick + 1).toNat : Int)
    rcases h1 with h | ⟨e', he', ha', hm⟩
    · omega
    · have := lastA_max hg.rise h3 e' he' ha'; omega

theorem fieldV (bo : Option Addr) (n bc : Nat) (ba : Bool) (u : World) : (Instr.field 61 (.agg #[.slice bo n bc, .bool ba]) 0).run Try.prog u = .ok (.slice bo n bc) u := by kernel_rfl
/-- an element of the map from its parts -/
structure EntQ where
  a : Option Addr
  n : Nat
  c : Nat
  k : Bool
def entV (q : EntQ) : Value := .agg #[.slice q.a q.n q.c, .bool q.k]
def SendTo (p : Nat) (s : FS) (t : Nat) (v : List (Int × Int)) (F : List Nat) (w : World) (e : Ending) (w' : World) : Prop :=
  ∃ po pc F', e = .returned (.tuple #[.slice po (enc (s.bytes t v)).length pc, .int .i64 0]) ∧ Seg w' 5 1 po (enc (s.bytes t v)).length pc (bts (enc (s.bytes t v))) ∧ IsSt 58 p (s.put t v) w' F' ∧ Fr F w w' ∧ Ext F w F' ∧ ∀ k ∈ blk po, w.heap.size ≤ k ∧ k ∉ F'

set_option maxRecDepth 100000 in
set_option maxHeartbeats 8000000 in
theorem send_any (w : World) (p : Nat) (s : FS) {F : List Nat} (h : IsSt 58 p s w F) (hg : s.Good) (t : Nat) (h0 : s.next ≤ (t : Int)) (h1 : t < 1000000) (vo : Option Addr) (vc : Nat) (v : List (Int × Int)) (hv : Seg w 48 2 vo v.length vc (v.flatMap clV)) (hiv : IsView v) (hl : v.length ≤ 12) :
    Calls Try.prog 12 #[.pointer (some ⟨p, 0, none⟩), .int .i64 (t : Int), .slice vo v.length vc] w (SendTo p s t v F w) := by
  obtain ⟨ib, hib, hb0, hb1, hb2⟩ := info_parts infoByte
  have HIS := Lib.hid h
  obtain ⟨b, cs, hc, hF⟩ := h
  have HF := Lib.hid hF
  have HC := Lib.hid hc
  have HG := Lib.hid hg
  have HVS := Lib.hid (fun u (hu : Fr [] w u) => hv.fr hu (by simp))
  have HIV := Lib.hid hiv
  have c1 : w.cell? ⟨p, 1, none⟩ = some (.int .i64 s.next) := cell_blk hc.p 1
  have c2 : w.cell? ⟨p, 2, none⟩ = some (.map (some b)) := cell_blk hc.p 2
  have HK2 := Lib.hid (fun u (hu : Fr [] w u) => (cell_blk (hu.blk HC.out.p (by simp)) 2 : u.cell? ⟨p, 2, none⟩ = some (.map (some b))))
  have hlt : ¬ (t : Int) < s.next := by omega
  have HMK := Lib.hid (fun e (he : e ∈ cs.map FC.kv) => (by
    obtain ⟨c, -, rfl⟩ := List.mem_map.1 he
    exact ⟨⟨c.vo, c.e.view.length, c.vc, c.e.acked⟩, rfl⟩ : ∃ y, e.2 = entV y))
  obtain ⟨r, hr⟩ : ∃ r, r = w.heap.size := ⟨_, rfl⟩
  have HR := Lib.hid hr
  have hn1 := hg.n1
  have hn0 := hg.n0
  clear hc hF hg hv hiv hr
  go_enter Try.func12, Try.ntmps12
  go_wp2_with (first | (at_range; refine wpList_range_V rfl _ 53 rfl 61 undT rfl HC.out.map ?_; rw [← HR.out]; intro w5 hrg5 hf5; have HRG := Lib.hid hrg5; have HF5 := Lib.hid hf5; clear hrg5 hf5))
  try go_frame
  clear c1 c2 hlt
  go_loopw [8] (fun sv wr => ∃ (m : Int) (M : List (Int × Value)), sv = .int .i64 m ∧ IsR wr b r (cs.map FC.kv) M ∧ Fr [] w wr ∧ 0 ≤ m ∧ m ≤ 1000000 ∧ (m = 0 ∨ ∃ c ∈ cs, c.e.acked = true ∧ c.e.tick + 1 = m) ∧ ∀ c ∈ cs, c.e.acked = true → c.kv ∈ M ∨ c.e.tick + 1 ≤ m) (fun _ wr => wr.rangeLeft b r)
  case atStart => exact ⟨0, _, rfl, HRG.out, HF5.out, by omega, by omega, .inl rfl, fun c hc _ => .inl (List.mem_map_of_mem hc)⟩
  case round =>
    obtain ⟨m, M, rfl, hir, hfr, hm0, hm1, hin, hmx⟩ := hrel
    have HIR := Lib.hid hir
    have HFR := Lib.hid hfr
    have HIN := Lib.hid hin
    have HMX := Lib.hid hmx
    clear hir hfr hin hmx
    go_wp2_with (at_next; refine wpList_next_Vm entV HMK.out rfl _ rfl rfl HIR.out ?_ ?_)
    · intro hM
      have hmr : m = (s.ref : Int) := by
        refine ref_eq HG.out hm0 ?_ fun e he ha => ?_
        · rcases HIN.out with h | ⟨c, hc, h2, h3⟩
          · exact .inl h
          · exact .inr ⟨c.e, by rw [HC.out.L]; exact List.mem_map_of_mem hc, h2, h3⟩
        · obtain ⟨c, hc, rfl⟩ := HC.out.kv he
          rcases HMX.out c hc ha with q | q
          · rw [hM] at q; simp at q
          · exact q
      obtain ⟨m, rfl⟩ : ∃ n : Nat, m = (n : Int) := ⟨s.ref, hmr⟩
      have hmr2 : m = s.ref := by omega
      have HMR := Lib.hid hmr2
      have HREF := Lib.hid HG.out.ref
      clear hM hmr hmr2
      go_upto_if 38 with fail
      go_cut [11] (fun sv wc => ∃ (bo : Option Addr) (bc : Nat), sv = .slice bo s.base.length bc ∧ Seg w 48 2 bo s.base.length bc (s.base.flatMap clV) ∧ wc = wr)
      case first =>
        by_cases hm : m = 0
        · have HBA := Lib.hid (HREF.out.2.1 (by rw [← HMR.out]; exact hm))
          clear HMR
          subst hm
          go_wp2_with fail
          go_meet
          rw [HBA.out]
          exact ⟨none, 0, rfl, Seg.nil _ _ _, rfl⟩
        · obtain ⟨e0, he0, hea, het, hev⟩ := HREF.out.2.2 (by rw [← HMR.out]; omega)
          obtain ⟨c, hcm, hce⟩ := HC.out.kv he0
          have hfi : MV.fits ((m : Int) - 1) := by unfold MV.fits; omega
          have hlk : (Instr.lookup 53 (.map (some b)) (.int .i64 ((m : Int) - 1)) false).run Try.prog wr = .ok (.agg #[.slice c.vo c.e.view.length c.vc, .bool c.e.acked]) wr :=
            HIR.out.isV.look1 undT (zeroEnt wr) hfi (v := c.val) (by
              rw [show (m : Int) - 1 = c.e.tick by rw [hce]; have := HMR.out; omega]
              exact List.mem_map_of_mem hcm)
          have hsg := HC.out.segs c hcm
          have w1 : IntKind.i64.wrap ((m : Int) - 1) = (m : Int) - 1 := IntWalk.i64_in _ (by omega)
          have hk2 := HK2.out wr HFR.out
          have hm0 : 0 < m := by omega
          rw [hce, ← hev] at hlk hsg
          obtain ⟨bo, hbo⟩ : ∃ x, x = c.vo := ⟨_, rfl⟩
          obtain ⟨bc, hbc⟩ : ∃ x, x = c.vc := ⟨_, rfl⟩
          obtain ⟨ba, hba⟩ : ∃ x, x = e0.acked := ⟨_, rfl⟩
          rw [← hbo, ← hbc] at hsg
          rw [← hbo, ← hbc, ← hba] at hlk
          have hfd := fieldV bo s.base.length bc ba
          have HSG := Lib.hid hsg
          clear hm he0 hea het hev hcm hce hfi hsg hbo hbc hba HMR
          go_wp2_with fail
          go_meet
          exact ⟨bo, bc, rfl, HSG.out, rfl⟩
      case rest =>
        obtain ⟨bo, bc, rfl, hbs, rfl⟩ := hcut
        have HBS := Lib.hid hbs
        obtain ⟨D, hD⟩ : ∃ D, D = diffL s.base v := ⟨_, rfl⟩
        obtain ⟨P, hP⟩ : ∃ P, P = s.bytes t v := ⟨_, rfl⟩
        have hbl := bytes_len HG.out h1 HIV.out hl
        rw [← hP] at hbl
        obtain ⟨X, hX⟩ : ∃ X, X = varN t ++ varN m := ⟨_, rfl⟩
        have hPe : P = X ++ D := by rw [hP, hD, hX, HMR.out]; rfl
        have hPb := Lib.hid hbl.2
        have hPl := hbl.1
        have hDl : X.length + D.length = P.length := by rw [hPe, List.length_append]
        have hXl : X.length ≤ 400 := by omega
        have hDl2 : D.length ≤ 400 := by omega
        have hvt : (varN t).length ≤ 400 := by have h := hXl; rw [hX, List.length_append] at h; omega
        have HXE := Lib.hid hX
        have HDF := Lib.hid (fun u (hu : Fr [] w u) => (by rw [hD]; exact diff_seg (HBS.out.fr hu (by simp)) (HVS.out u hu) HG.out.base.1 HIV.out (by have := HG.out.base.2; omega) (by omega) : Calls Try.prog 22 #[.slice bo s.base.length bc, .slice vo v.length vc] u (DiffTo u D)))
        have HPB : Hid (P = X ++ D) := Lib.hid hPe
        have HPE := Lib.hid hP
        have HDL := Lib.hid hDl
        clear hbs hD hP hX hbl hPe hDl HREF HIN HMX hm0
        go_wp2_with fail
        refine (fappend_any _ none 0 [] t (Seg.nil _ _ _) (by omega) (by simp)).mono ?_
        rintro e wa ⟨ao, ac, rfl, hsa, fa, xa⟩
        rw [List.nil_append] at hsa ⊢
        have HSA := Lib.hid hsa
        have HFA := Lib.hid (HFR.out.trans fa (by simp [Ext, blk]))
        have HXA := Lib.hid (fun k hk => (by rcases xa k hk with h | h; (simp [blk] at h); (have := HFR.out.size; omega) : w.heap.size ≤ k))
        clear hsa fa xa
        go_wp2_with fail
        refine (fappend_any wa ao ac (varN t) m HSA.out (by omega) (by omega)).mono ?_
        rintro e wb ⟨ao2, ac2, rfl, hsb, fb, xb⟩
        rw [← HXE.out] at hsb ⊢
        have HSB := Lib.hid hsb
        have HFB := Lib.hid (HFA.out.trans fb (fun k hk => .inr (HXA.out k hk)))
        have HXB := Lib.hid (fun k hk => (by rcases xb k hk with h | h; (exact HXA.out k h); (have := HFA.out.size; omega) : w.heap.size ≤ k))
        clear hsb fb xb HSA HXA
        go_wp2_with fail
        refine (HDF.out wb HFB.out).mono ?_
        rintro e wc ⟨do1, dc1, rfl, hsd, fd, -⟩
        have HSD := Lib.hid hsd.rd
        have HSB2 := Lib.hid (HSB.out.fr fd (by simp))
        have HFD := Lib.hid (HFB.out.trans fd (by simp [Ext]))
        clear hsd fd HSB
        go_upto_region 15 with (at_builtin; refine wpList_append_rd rfl _ _ 33 rfl 5 ib _ 1 1 Try.underlying33 hib hb0 hb1 hb2 rfl (by decide) ao2 X.length ac2 (bts X) rfl HSB2.out do1 D.length dc1 (bts D) rfl HSD.out (bts_one _) (by unfold maxLen; omega) (by omega) ?_; intro o2 k2 w2 hs2 hf2 hx2)
        rw [HDL.out] at hs2 ⊢
        have HS2 := Lib.hid (by rw [HPB.out, bts_append, ← HPB.out]; exact hs2 : Seg w2 5 1 o2 P.length k2 (bts P))
        have HF2 := Lib.hid (HFD.out.trans hf2 (fun k hk => .inr (HXB.out k hk)))
        have HX2 := Lib.hid (fun k hk => (by rcases hx2 k hk with h | h; (exact HXB.out k h); (have := HFD.out.size; omega) : w.heap.size ≤ k))
        have hpl2 : ¬ (4000 : Int) < (P.length : Int) := by omega
        clear hs2 hf2 hx2 HSB2 HSD
        go_wp2_with fail
        refine (put30_any (by decide) ((isSt_frm _ _ _).fr HIS.out HF2.out (by simp)) HG.out (t : Int) h0 (by omega) vo vc v (HVS.out w2 HF2.out) hl).mono ?_
        rintro e w3 ⟨rfl, F', hst, f3, x3⟩
        have HST := Lib.hid hst
        have HF3 := Lib.hid ((HF2.out.mono (T := F) (by simp)).trans f3 (Ext.refl _ _))
        have HX3 := Lib.hid (Ext.trans (Ext.refl F w) x3 HF2.out.size)
        have HS3 := Lib.hid (HS2.out.fr f3 (fun k hk hm => by have h1 := HX2.out k hk; have h2 := (isSt_frm _ _ _).lt HIS.out k hm; omega))
        clear hst f3 x3
        go_wp2_with fail
        refine (encode_any w3 o2 k2 P HS3.out.rd hPb.out (by omega)).mono ?_
        rintro e w4 ⟨po, pc, rfl, hs4, f4, n4⟩
        have HS4 := Lib.hid hs4
        have HF4 := Lib.hid f4
        have HN4 := Lib.hid n4
        clear hs4 f4 n4
        go_wp2_with fail
        go_ret2
        rw [HPE.out] at HS4
        exact ⟨po, pc, F', by rw [HPE.out]; rfl, HS4.out, (isSt_frm _ _ _).fr HST.out HF4.out (by simp), HF3.out.trans HF4.out (by simp [Ext]), HX3.out, fun k hk => ⟨by have h1 := HN4.out k hk; have h2 := HF3.out.size; omega, fun hm => by have h1 := HN4.out k hk; have h2 := (isSt_frm _ _ _).lt HST.out k hm; omega⟩⟩
    · intro x y w6 hxM hfx hir6 hlt6 hf6 hen6
      obtain ⟨c, hcm, hckv⟩ := List.mem_map.1 (HIR.out.sub _ hxM)
      have hcx : c.e.tick = x := congrArg Prod.fst hckv
      have hca : c.e.acked = y.k := by
        have h1 : c.val = entV y := congrArg Prod.snd hckv
        unfold FC.val entV at h1
        simp at h1
        exact h1.2
      have hxb : 0 ≤ x ∧ x < 1000000 := by
        have := HG.out.tick c.e (by rw [HC.out.L]; exact List.mem_map_of_mem hcm)
        omega
      have hen : (Instr.entry (.pointer (some ⟨r, 0, none⟩))).run Try.prog w6 = .ok (.tuple #[.int .i64 x, .agg #[.slice y.a y.n y.c, .bool y.k]]) w6 := hen6
      obtain ⟨ya, hya⟩ : ∃ z, z = y.a := ⟨_, rfl⟩
      obtain ⟨yn, hyn⟩ : ∃ z, z = y.n := ⟨_, rfl⟩
      obtain ⟨yc, hyc⟩ : ∃ z, z = y.c := ⟨_, rfl⟩
      obtain ⟨yb, hyb⟩ : ∃ z, z = y.k := ⟨_, rfl⟩
      rw [← hya, ← hyn, ← hyc, ← hyb] at hen
      rw [← hyb] at hca
      have HIR6 := Lib.hid hir6
      have HF6 := Lib.hid (HFR.out.trans hf6 (fun k hk => .inr (by simp at hk; have := HR.out; omega)) : Fr [] w w6)
      have HIR7 := Lib.hid (fun (o : Obj) => (hir6.fr ((Fr.refl [] w6).alloc o) (by simp) (by simp)))
      have HLT := Lib.hid hlt6
      have w1 : IntKind.i64.wrap (x + 1) = x + 1 := IntWalk.i64_in _ (by omega)
      have HMX6 := Lib.hid (fun (m' : Int) (h1 : m ≤ m') (h2 : yb = true → x + 1 ≤ m') c2 (hc2 : c2 ∈ cs) (ha2 : c2.e.acked = true) => (by
        rcases HMX.out c2 hc2 ha2 with q | q
        · by_cases h : c2.e.tick = x
          · right
            have h3 : c2.kv = (x, entV y) := by
              have h4 := HC.out.uniq hc2 hcm (by rw [h, hcx])
              rw [h4]; exact hckv
            have h5 : c2 = c := HC.out.uniq hc2 hcm (by rw [h, hcx])
            rw [h5, hca] at ha2
            have := h2 ha2
            omega
          · left
            exact List.mem_filter.2 ⟨q, by show (c2.e.tick != x) = true; simpa using h⟩
        · right; omega : c2.kv ∈ M.filter (fun e => e.1 != x) ∨ c2.e.tick + 1 ≤ m'))
      have HCM := Lib.hid (⟨c, hcm, hca, hcx⟩ : ∃ c ∈ cs, c.e.acked = yb ∧ c.e.tick = x)
      clear hxM hir6 hlt6 hf6 hen6 hcm hckv hcx hca hya hyn hyc hyb
      cases yb with
      | false =>
        go_wp2_with fail
        go_roundw
        case rel => exact ⟨m, _, rfl, (HIR7.out _).1, HF6.out.alloc _, hm0, hm1, HIN.out, HMX6.out m (Int.le_refl _) (fun h => by cases h)⟩
        case measure => rw [(HIR7.out _).2]; exact HLT.out
      | true =>
        by_cases hxm2 : m < x + 1
        · have g1 : max m (x + 1) = x + 1 := by omega
          go_wp2_with fail
          go_roundw
          case rel => exact ⟨x + 1, _, by first | rfl | rw [if_pos hxm2], (HIR7.out _).1, HF6.out.alloc _, by omega, by omega, .inr (by obtain ⟨c, h1, h2, h3⟩ := HCM.out; exact ⟨c, h1, h2, by rw [h3]⟩), HMX6.out (x + 1) (by omega) (fun _ => Int.le_refl _)⟩
          case measure => rw [(HIR7.out _).2]; exact HLT.out
        · have g1 : max m (x + 1) = m := by omega
          go_wp2_with fail
          go_roundw
          case rel => exact ⟨m, _, by first | rfl | rw [if_neg hxm2], (HIR7.out _).1, HF6.out.alloc _, hm0, hm1, HIN.out, HMX6.out m (Int.le_refl _) (fun _ => by omega)⟩
          case measure => rw [(HIR7.out _).2]; exact HLT.out
end Go.Proofs.Ytodfeaipoagphaa
/- Package rangecoder: the decoder; next, get. -/
namespace Go.Proofs.Ytodfeaipoagphaa
open Go.RowKit

/-! ### how the code moves on, round by round -/
inductive Dn : Nat → Ds → Ds → Prop
  | done {s : Ds} : ¬ s.m.same → Dn 0 s s
  | more {k : Nat} {s s' : Ds} : s.m.same → Dn k { s.next with m := s.m.shf } s' → Dn (k + 1) s s'

theorem dnorm_dn : ∀ (k : Nat) {s : Ds}, s.m.Ok → 16777216 < (s.m.hi - s.m.lo + 1) * 256 ^ k → ∃ j, Dn j s (dnorm k s)
  | 0, s, h, hw => ⟨0, .done (norm_done 0 h hw)⟩
  | k + 1, s, h, hw => by
    by_cases hs : s.m.same
    · have e : dnorm (k + 1) s = dnorm k { s.next with m := s.m.shf } := by rw [dnorm, if_pos hs]
      rw [e]
      obtain ⟨a, b, c, d⟩ := Md.shf_eq h hs
      have hl := h.le
      obtain ⟨j, hj⟩ := dnorm_dn k (s := { s.next with m := s.m.shf }) (h.shf hs) (by
        have e2 : s.m.shf.hi - s.m.shf.lo + 1 = (s.m.hi - s.m.lo + 1) * 256 := by omega
        simp only
        rw [e2, Nat.mul_assoc, ← Nat.pow_succ']
        exact hw)
      exact ⟨j + 1, .more hs hj⟩
    · have e : dnorm (k + 1) s = s := by rw [dnorm, if_neg hs]
      rw [e]; exact ⟨0, .done hs⟩
theorem dstep_dn {s : Ds} (h : s.m.Rdy) {c : Nat} (hc : c < 256) : ∃ j, Dn j { s with m := s.m.nar c (s.bit c) } (s.step c) := dnorm_dn 5 (h.ok.nar h.lt hc _) (by
  have := (h.ok.nar h.lt hc (s.bit c)).le
  simp only; omega)
theorem Dn.no {k : Nat} {s s' : Ds} (h : Dn k s s') (hs : ¬ s.m.same) : s = s' := by
  cases h with
  | done _ => rfl
  | more h1 _ => exact absurd h1 hs
theorem Dn.yes {k : Nat} {s s' : Ds} (h : Dn k s s') (hs : s.m.same) : ∃ j, k = j + 1 ∧ Dn j { s.next with m := s.m.shf } s' := by
  cases h with
  | done h1 => exact absurd hs h1
  | more _ h2 => exact ⟨_, rfl, h2⟩

/-! ### the decoder in the heap -/
structure IsDecAt (w : World) (p : Nat) (s : Ds) (ra : Option Addr) (rc : Nat) : Prop where
  head : MdAt w p 82 s.m [.slice ra s.rest.length rc, .int .u32 (s.code : Int)]
  rest : Rd w 1 ra s.rest.length (bts s.rest)
  cap : s.rest.length ≤ rc
  capm : rc ≤ maxLen
  pr : ∀ k ∈ blk ra, k < p
  code : s.code < 4294967296
  bytes : Bytes s.rest
def IsDec29 (w : World) (p : Nat) (s : Ds) : Prop := ∃ ra rc, IsDecAt w p s ra rc
def DecTo29 (w : World) (p : Nat) (s : Ds) (w' : World) : Prop := IsDec29 w' p s ∧ Fr [p] w w'

section
variable {w : World} {p : Nat} {s : Ds}

theorem IsDec29.fr {w' : World} {S : List Nat} (h : IsDec29 w p s) (hf : Fr S w w') (hp : p ∉ S) (hS : ∀ k ∈ S, p < k) : IsDec29 w' p s := by
  obtain ⟨ra, rc, h⟩ := h
  refine ⟨ra, rc, h.head.fr hf hp, ?_, h.cap, h.capm, h.pr, h.code, h.bytes⟩
  obtain ⟨e1, e2, e3⟩ := h.rest
  refine ⟨e1, e2, ?_⟩
  rcases e3 with e3 | ⟨g, off, ha, hg, hc⟩
  · exact .inl e3
  · exact .inr ⟨g, off, ha, Nat.lt_of_lt_of_le hg hf.size, fun j hj => by rw [← hc j hj]; exact World.cell?_of_block (a := ⟨g, off + j, none⟩) (hf.block g hg (fun hm => by have := hS g hm; have := h.pr g (by simp [ha, blk]); omega))⟩
theorem DecTo29.trans {w1 w2 : World} {s2 : Ds} (h1 : Fr [p] w w1) (h : DecTo29 w1 p s2 w2) : DecTo29 w p s2 w2 := ⟨h.1, h1.trans h.2 (Ext.refl _ _)⟩
theorem IsDec29.to (h : IsDec29 w p s) : DecTo29 w p s w := ⟨h, Fr.refl _ _⟩
theorem IsDec29.toFr {w' : World} (h : IsDec29 w p s) (hf : Fr [] w w') : DecTo29 w p s w' := ⟨h.fr hf (by simp) (by simp), hf.mono (by simp)⟩
theorem IsDecAt.mdTo {ra : Option Addr} {rc : Nat} {m' : Md} {w' : World} (h : IsDecAt w p s ra rc) (ht : MdTo w p 82 m' [.slice ra s.rest.length rc, .int .u32 (s.code : Int)] w') : DecTo29 w p { s with m := m' } w' :=
  ⟨⟨ra, rc, ht.1, h.rest.fr ht.2 (fun k hk hm => by simp at hm; subst hm; exact Nat.lt_irrefl _ (h.pr _ hk)), h.cap, h.capm, h.pr, h.code, h.bytes⟩, ht.2⟩

theorem dec_narrow (h : IsDec29 w p s) (hm : s.m.Rdy) (c : Nat) (hc : c < 256) (b : Bool) {x : Int} (hx : x = if b then 1 else 0) :
    Calls Try.prog 53 #[.pointer (some ⟨p, 0, none⟩), .int .i64 c, .int .i64 x] w fun e w' => e = .returned (.tuple #[]) ∧ DecTo29 w p { s with m := s.m.nar c b } w' := by
  obtain ⟨ra, rc, h⟩ := h
  exact (narrow_any h.head hm c hc b hx).mono fun e w' ⟨h1, h2⟩ => ⟨h1, h.mdTo h2⟩

/-- shift as the loop of get meets it -/
def DShift (w : World) (p : Nat) (S : Ds) (k : Nat) (e : Ending) (w' : World) : Prop :=
  ∃ (v : Value) (ok : Bool), e = .returned (.tuple #[v, .bool ok]) ∧
    if ok then ∃ (j : Nat) (sc : Ds), k = j + 1 ∧ DecTo29 w p sc w' ∧ Dn j sc.next S ∧ sc.m.Ok else DecTo29 w p S w'
theorem dec_shift (h : IsDec29 w p s) (hm : s.m.Ok) {k : Nat} {S : Ds} (hn : Dn k s S) :
    Calls Try.prog 54 #[.pointer (some ⟨p, 0, none⟩)] w (DShift w p S k) := by
  by_cases hs : s.m.same
  · obtain ⟨j, rfl, hn'⟩ := hn.yes hs
    obtain ⟨ra, rc, h⟩ := h
    exact (shift_yes h.head hm hs).mono fun e w' ⟨h1, h2⟩ => ⟨_, true, h1, ⟨j, _, rfl, h.mdTo h2, hn', hm.shf hs⟩⟩
  · obtain rfl := hn.no hs
    have h' := h
    obtain ⟨ra, rc, h⟩ := h
    exact (shift_no h.head hm hs).mono fun e w' ⟨h1, h2⟩ => ⟨_, false, h1, h'.toFr h2⟩

theorem next_nil {m : Md} {code : Nat} {ra : Option Addr} {rc : Nat} (h : IsDecAt w p { m := m, code := code, rest := [] } ra rc) :
    DecTo29 w p ({ m := m, code := code, rest := [] } : Ds).next (w.setCell ⟨p, 259, none⟩ (.int .u32 ((code : Int) * 256 % 4294967296))) := by
  have e : (code : Int) * 256 % 4294967296 = ((code * 256 % 4294967296 : Nat) : Int) := by omega
  rw [e]
  have h1 := h.head.setX 1 (.int .u32 ((code * 256 % 4294967296 : Nat) : Int))
  have hn : ({ m := m, code := code, rest := [] } : Ds).next = { m := m, code := code * 256 % 4294967296, rest := [] } := by simp [Ds.next]
  rw [hn]
  exact ⟨⟨ra, rc, h1, h.rest.fr ((Fr.refl [p] w).setCell (.inl (by simp)) _) (fun k hk hm => by simp at hm; subst hm; exact Nat.lt_irrefl _ (h.pr _ hk)), h.cap, h.capm, h.pr, by simp only; omega, h.bytes⟩, (Fr.refl [p] w).setCell (.inl (by simp)) _⟩

theorem next_cons {m : Md} {code x : Nat} {r : List Nat} {g off : Nat} {rc : Nat} {n : Nat} {v0 : Value} (h : IsDecAt w p { m := m, code := code, rest := x :: r } (some ⟨g, off, none⟩) rc) :
    DecTo29 w p ({ m := m, code := code, rest := x :: r } : Ds).next (((((w.setCell ⟨p, 259, none⟩ v0).drewN n).setCell ⟨p, 259, none⟩ (.int .u32 (bits BinOp.or IntKind.u32 ((code : Int) * 256 % 4294967296) (x : Int)))).setCell ⟨p, 258, none⟩ (.slice (cutA (some ⟨g, off, none⟩) 1 rc 1) r.length (rc - 1)))) := by
  have hx : x < 256 := h.bytes x (by simp)
  have e : bits BinOp.or IntKind.u32 ((code : Int) * 256 % 4294967296) (x : Int) = ((code * 256 % 4294967296 + x : Nat) : Int) := by
    have a1 : (code : Int) * 256 % 4294967296 = ((code % 16777216 * 2 ^ 8 : Nat) : Int) := by omega
    rw [a1, bits_or_u32 _ _ (by omega) (by omega), or_low _ _ 8 (by omega)]
    omega
  rw [e]
  have h1 := (((h.head.setX 1 v0).drewN n).setX 1 (.int .u32 ((code * 256 % 4294967296 + x : Nat) : Int))).setX 0 (.slice (cutA (some ⟨g, off, none⟩) 1 rc 1) r.length (rc - 1))
  have hn : ({ m := m, code := code, rest := x :: r } : Ds).next = { m := m, code := code * 256 % 4294967296 + x, rest := r } := by simp [Ds.next]
  rw [hn]
  have hf : Fr [p] w (((((w.setCell ⟨p, 259, none⟩ v0).drewN n).setCell ⟨p, 259, none⟩ (.int .u32 ((code * 256 % 4294967296 + x : Nat) : Int))).setCell ⟨p, 258, none⟩ (.slice (cutA (some ⟨g, off, none⟩) 1 rc 1) r.length (rc - 1)))) :=
    ((((Fr.refl [p] w).setCell (.inl (by simp)) _).drewN n).setCell (.inl (by simp)) _).setCell (.inl (by simp)) _
  have hcap := h.cap
  have hcm := h.capm
  simp only [List.length_cons] at hcap
  refine ⟨⟨_, rc - 1, h1, ?_, by simp only; omega, by omega, by rw [blk_cutA]; exact h.pr, by simp only; omega, h.bytes.tail⟩, hf⟩
  have hr := h.rest.fr hf (fun k hk hm => by simp at hm; subst hm; exact Nat.lt_irrefl _ (h.pr _ hk))
  obtain ⟨e1, e2, e3⟩ := hr
  simp only [List.length_cons] at e1 e2 e3
  refine ⟨by simp [bts_length], by simp only; omega, ?_⟩
  rcases e3 with e3 | ⟨g', off', ha, hg, hc⟩
  · omega
  · cases ha
    rcases Nat.eq_zero_or_pos r.length with hz | hz
    · exact .inl hz
    · refine .inr ⟨g, off + 1 * 1, cutA_ne (by omega), hg, fun j (hj : j < r.length * 1) => ?_⟩
      have := hc (1 + j) (by omega)
      rw [show off + 1 * 1 + j = off + (1 + j) by omega, this]
      simp [bts, Nat.add_comm 1 j]

set_option maxRecDepth 100000 in
set_option maxHeartbeats 2000000 in
theorem next_any (h : IsDec29 w p s) :
    Calls Try.prog 35 #[.pointer (some ⟨p, 0, none⟩)] w fun e w' => e = .returned (.tuple #[]) ∧ DecTo29 w p s.next w' := by
  obtain ⟨ra, rc, h⟩ := h
  have c0 := h.head.cx 0
  have c1 := h.head.cx 1
  have f0 := h.head.fz 258
  have f1 := h.head.fz 259
  simp only [Nat.add_zero, List.getElem?_cons_zero, List.getElem?_cons_succ] at c0 c1
  have hc := h.code
  have hr := h.rest
  have hcap := h.cap
  obtain ⟨m, code, rest⟩ := s
  simp only at c0 c1 hc hr hcap
  have hlen : rest.length ≤ 9223372036854775807 := by have := hr.2.1; unfold maxLen at this; omega
  cases rest with
  | nil =>
    have H := Lib.hid h
    clear h hr
    go_enter Try.func35, Try.ntmps35
    go_wp2
    go_end0
    exact ⟨rfl, next_nil H.out⟩
  | cons x r =>
    obtain ⟨g, off, rfl, hg, hcc⟩ := hr.at (by simp)
    have cx := hcc 0 (by simp)
    simp only [Nat.add_zero, bts, List.map_cons, List.getElem?_cons_zero] at cx
    have hgp : g ≠ p := fun e => Nat.lt_irrefl p (h.pr p (by simp [blk, e]))
    have hx : x < 256 := h.bytes x (by simp)
    have hxi : (x : Int) < 256 := by omega
    have hsl : ∀ u : World, (Instr.slice 33 (.slice (some ⟨g, off, none⟩) (r.length + 1) rc) (some (.int .i64 1)) none none).run Try.prog u = .ok (.slice (cutA (some ⟨g, off, none⟩) 1 rc 1) r.length (rc - 1)) u := fun u => by
      have := run_slice_from (P := Try.prog) 33 5 Try.underlying33 1 (by kernel_rfl) (some ⟨g, off, none⟩) (r.length + 1) rc 1 (by omega) u
      simpa using this
    have H := Lib.hid h
    clear h hr hcc
    go_enter Try.func35, Try.ntmps35
    go_wp2_with fail
    refine wp_still_tail 14 (by kernel_rfl) (by kernel_rfl) ?_
    simp only [List.take_succ_cons, List.take_zero, List.drop_succ_cons, List.drop_zero]
    repeat still_step
    refine wpStill_nil ?_
    go_wp2_with fail
    go_end0
    exact ⟨rfl, next_cons (n := 1) H.out⟩
end
end Go.Proofs.Ytodfeaipoagphaa
/- Package rangecoder: get; the function value of Decode, and walk over it. -/
namespace Go.Proofs.Ytodfeaipoagphaa
open Go.RowKit

section
variable {w : World} {p : Nat} {s : Ds}

/-- the loop of get -/
def GetInv (w : World) (p : Nat) (S : Ds) (k : Nat) (ov : Value) (wr : World) : Prop :=
  (ov = .bool false ∧ DecTo29 w p S wr) ∨ ∃ (j : Nat) (sc : Ds), ov = .bool true ∧ k = j + 1 ∧ DecTo29 w p sc wr ∧ Dn j sc.next S ∧ sc.m.Ok
theorem DShift.inv {w1 w' : World} {S : Ds} {k : Nat} {e : Ending} (h1 : Fr [p] w w1) (h : DShift w1 p S k e w') : ∃ v ov, e = .returned (.tuple #[v, ov]) ∧ GetInv w p S k ov w' := by
  obtain ⟨v, ok, rfl, h⟩ := h
  refine ⟨v, .bool ok, rfl, ?_⟩
  cases ok with
  | false => exact .inl ⟨rfl, DecTo29.trans h1 h⟩
  | true =>
    obtain ⟨j, sc, h2, h3, h4, h5⟩ := h
    exact .inr ⟨j, sc, rfl, h2, DecTo29.trans h1 h3, h4, h5⟩

set_option maxHeartbeats 2000000 in
theorem get29_any (h : IsDec29 w p s) (hm : s.m.Rdy) (c : Nat) (hc : c < 256) :
    Calls Try.prog 38 #[.pointer (some ⟨p, 0, none⟩), .int .i64 c] w fun e w' => e = .returned (.int .i64 (b2n (s.bit c) : Int)) ∧ DecTo29 w p (s.step c) w' := by
  obtain ⟨J, hJ⟩ := dstep_dn hm hc
  obtain ⟨S, hS⟩ : ∃ S, S = s.step c := ⟨_, rfl⟩
  rw [← hS] at hJ ⊢
  have HJ := Lib.hid hJ
  have HOK := Lib.hid (hm.ok.nar hm.lt hc (s.bit c))
  have hh := h
  obtain ⟨ra, rc, h⟩ := h
  have c1 := h.head.cx 1
  simp only [List.getElem?_cons_zero, List.getElem?_cons_succ] at c1
  have HM := Lib.hid fun n => middle_any (h.head.drewN n) hm c hc
  have HNAR := Lib.hid fun (n : Nat) (b : Bool) (x : Int) (hx : x = if b then 1 else 0) => dec_narrow (hh.fr (S := []) ((Fr.refl [] w).drewN n) (by simp) (by simp)) hm c hc b hx
  have HB := Lib.hid (rfl : s.bit c = decide (s.code ≤ s.m.mid c))
  clear h hh hm hJ hS
  by_cases hb : s.code ≤ s.m.mid c
  · have hbb : s.bit c = true := by rw [HB.out]; exact decide_eq_true hb
    rw [hbb] at HJ HOK ⊢
    clear hbb
    go_enter Try.func38, Try.ntmps38
    go_wp2
    go_quiet ((go_at_call 52; exact quiet1d (HM.out _)))
    go_wp2_with fail
    refine (HNAR.out _ true 1 rfl).mono ?_
    rintro e w1 ⟨rfl, h1, hf1⟩
    go_wp2_with fail
    refine (dec_shift h1 HOK.out HJ.out).mono ?_
    intro e w2 ht
    obtain ⟨v, ov, rfl, hinv⟩ := ht.inv (((Fr.refl [p] w).drewN _).trans hf1 (Ext.refl _ _))
    have HI := Lib.hid hinv
    clear ht hinv h1 hf1
    go_wp2_with fail
    go_loopg [7] J (fun k ov wr => GetInv w p S k ov wr)
    case atStart => exact HI.out
    case round =>
      clear HI
      rcases hrel with ⟨rfl, h2⟩ | ⟨j, sc, rfl, rfl, h2, hn, hok⟩
      · have H2 := Lib.hid h2
        clear h2
        go_wp2_with fail
        go_ret
        exact ⟨rfl, H2.out⟩
      · have HF2 := Lib.hid h2.2
        have HN2 := Lib.hid hn
        have HOK2 := Lib.hid hok
        have HNX := Lib.hid (next_any h2.1)
        clear h2 hn hok
        go_wp2_with fail
        refine HNX.out.mono ?_
        rintro e w5 ⟨rfl, h5, hf5⟩
        have HF5 := Lib.hid (HF2.out.trans hf5 (Ext.refl _ _))
        have HSH := Lib.hid (dec_shift h5 HOK2.out HN2.out)
        clear h5 hf5
        go_wp2_with fail
        refine HSH.out.mono ?_
        intro e w6 ht
        obtain ⟨v6, ov6, rfl, hinv⟩ := ht.inv HF5.out
        have HI6 := Lib.hid hinv
        clear ht hinv
        go_wp2_with fail
        go_roundg j
        case measure => omega
        case rel => exact HI6.out
  · have hbb : s.bit c = false := by rw [HB.out]; exact decide_eq_false hb
    rw [hbb] at HJ HOK ⊢
    clear hbb
    go_enter Try.func38, Try.ntmps38
    go_wp2
    go_quiet ((go_at_call 52; exact quiet1d (HM.out _)))
    go_wp2_with fail
    refine (HNAR.out _ false 0 rfl).mono ?_
    rintro e w1 ⟨rfl, h1, hf1⟩
    go_wp2_with fail
    refine (dec_shift h1 HOK.out HJ.out).mono ?_
    intro e w2 ht
    obtain ⟨v, ov, rfl, hinv⟩ := ht.inv (((Fr.refl [p] w).drewN _).trans hf1 (Ext.refl _ _))
    have HI := Lib.hid hinv
    clear ht hinv h1 hf1
    go_wp2_with fail
    go_loopg [7] J (fun k ov wr => GetInv w p S k ov wr)
    case atStart => exact HI.out
    case round =>
      clear HI
      rcases hrel with ⟨rfl, h2⟩ | ⟨j, sc, rfl, rfl, h2, hn, hok⟩
      · have H2 := Lib.hid h2
        clear h2
        go_wp2_with fail
        go_ret
        exact ⟨rfl, H2.out⟩
      · have HF2 := Lib.hid h2.2
        have HN2 := Lib.hid hn
        have HOK2 := Lib.hid hok
        have HNX := Lib.hid (next_any h2.1)
        clear h2 hn hok
        go_wp2_with fail
        refine HNX.out.mono ?_
        rintro e w5 ⟨rfl, h5, hf5⟩
        have HF5 := Lib.hid (HF2.out.trans hf5 (Ext.refl _ _))
        have HSH := Lib.hid (dec_shift h5 HOK2.out HN2.out)
        clear h5 hf5
        go_wp2_with fail
        refine HSH.out.mono ?_
        intro e w6 ht
        obtain ⟨v6, ov6, rfl, hinv⟩ := ht.inv HF5.out
        have HI6 := Lib.hid hinv
        clear ht hinv
        go_wp2_with fail
        go_roundg j
        case measure => omega
        case rel => exact HI6.out
end
end Go.Proofs.Ytodfeaipoagphaa
/- Package rangecoder: the function value of Decode, and walk over it. -/
namespace Go.Proofs.Ytodfeaipoagphaa
open Go.RowKit

theorem dnorm_m : ∀ (k : Nat) (s : Ds), (dnorm k s).m = (norm k s.m).2
  | 0, _ => rfl
  | k + 1, s => by
    unfold dnorm norm
    split
    · rw [dnorm_m k]
    · rfl
theorem Ds.step_rdy {s : Ds} (h : s.m.Rdy) {c : Nat} (hc : c < 256) : (s.step c).m.Rdy := by
  unfold Ds.step
  rw [dnorm_m]
  exact h.step hc (s.bit c)
theorem byteFrom_rdy : ∀ (d : Nat) {s : Ds} {c : Nat}, s.m.Rdy → (c + 1) * 2 ^ d ≤ 512 → (s.byteFrom c d).2.m.Rdy
  | 0, _, _, h, _ => h
  | d + 1, s, c, h, hc => by
    have hp : 0 < 2 ^ d := Nat.pos_of_ne_zero (by simp)
    rw [Nat.pow_succ] at hc
    have hc256 : c < 256 := by
      have : (c + 1) * 2 ≤ (c + 1) * (2 ^ d * 2) := Nat.mul_le_mul_left _ (by omega)
      omega
    refine byteFrom_rdy d (Ds.step_rdy h hc256) ?_
    have hb : b2n (s.bit c) ≤ 1 := by unfold b2n; split <;> omega
    have : (2 * c + b2n (s.bit c) + 1) * 2 ^ d ≤ ((c + 1) * 2) * 2 ^ d := Nat.mul_le_mul_right _ (by omega)
    have e2 : (c + 1) * 2 * 2 ^ d = (c + 1) * (2 ^ d * 2) := by rw [Nat.mul_assoc, Nat.mul_comm 2 (2 ^ d)]
    omega

section
variable {w : World} {p : Nat} {s : Ds}

theorem decbit_any (h : IsDec29 w p s) (hm : s.m.Rdy) (c : Nat) (hc : c < 256) (x : Int) {db : Nat} (h1 : w.cell? ⟨db, 0, none⟩ = some (.pointer (some ⟨p, 0, none⟩))) :
    Calls Try.prog 37 #[.int .i64 c, .int .i64 x, .pointer (some ⟨db, 0, none⟩)] w fun e w' => e = .returned (.int .i64 (b2n (s.bit c) : Int)) ∧ DecTo29 w p (s.step c) w' := by
  have HG := Lib.hid (get29_any h hm c hc)
  clear h hm hc
  go_enter Try.func37, Try.ntmps37
  go_wp2_with fail
  refine HG.out.mono ?_
  rintro e w1 ⟨rfl, hp⟩
  have H1 := Lib.hid hp
  clear hp
  go_wp2
  go_ret
  exact ⟨rfl, H1.out⟩

theorem two_or' (c b : Nat) (hc : c < 512) (hb : b < 2) : bits BinOp.or IntKind.i64 ((c : Int) * 2) (b : Int) = ((2 * c + b : Nat) : Int) := two_or c b hc hb

set_option maxHeartbeats 2000000 in
theorem walkdec_any (h : IsDec29 w p s) (hm : s.m.Rdy) {db : Nat} (h1 : w.cell? ⟨db, 0, none⟩ = some (.pointer (some ⟨p, 0, none⟩))) (hdb : db ≠ p) :
    Calls Try.prog 36 #[.func (.func 37) #[] #[.pointer (some ⟨db, 0, none⟩)]] w fun e w' => e = .returned (.int .u8 (s.byte.1 : Int)) ∧ DecTo29 w p s.byte.2 w' := by
  have hdl := World.block_lt_of_cell? w _ h1
  simp only at hdl
  obtain ⟨R, hR⟩ : ∃ R, R = s.byteFrom 1 8 := ⟨_, rfl⟩
  have hby : s.byte = (R.1 % 256, R.2) := by rw [hR]; rfl
  rw [hby]
  have HS := Lib.hid (⟨8, 1, s, by omega, rfl, rfl, by omega, hm, h.to, hR.symm⟩ :
    ∃ (d c : Nat) (sc : Ds), d ≤ 8 ∧ Value.int .i64 1 = .int .i64 c ∧ Value.int .i64 7 = .int .i64 ((d : Int) - 1) ∧ (c + 1) * 2 ^ d ≤ 512 ∧ sc.m.Rdy ∧ DecTo29 w p sc w ∧ sc.byteFrom c d = R)
  have H1 := Lib.hid h1
  have HDB := Lib.hid hdb
  clear h hm h1 hR hby hdb
  go_enter Try.func36, Try.ntmps36
  go_wp2_with fail
  go_loopw [3, 4] (fun cv pv wr => ∃ (d c : Nat) (sc : Ds), d ≤ 8 ∧ cv = .int .i64 c ∧ pv = .int .i64 ((d : Int) - 1) ∧ (c + 1) * 2 ^ d ≤ 512 ∧ sc.m.Rdy ∧ DecTo29 w p sc wr ∧ sc.byteFrom c d = R) (fun _ pv _ => (intOf pv + 1).toNat)
  case atStart => exact HS.out
  case round =>
    clear HS
    obtain ⟨d, c, sc, hd, rfl, rfl, hcd, hm, ⟨h3, hf2⟩, hR⟩ := hrel
    have g1 : wr.cell? ⟨db, 0, none⟩ = some (.pointer (some ⟨p, 0, none⟩)) := (World.cell?_of_block (a := ⟨db, 0, none⟩) (hf2.block db hdl (by simpa using HDB.out))).trans H1.out
    cases d with
    | zero =>
      have hR2 : (c, sc) = R := hR
      subst hR2
      have HE := Lib.hid (⟨h3, hf2⟩ : DecTo29 w p sc wr)
      have hcl2 : c < 512 := by simp at hcd; omega
      clear h3 hf2 hR hcd
      go_wp2_with fail
      go_ret
      exact ⟨ret_int29 (by first | omega | simp only), HE.out⟩
    | succ d =>
      have hp : 0 < 2 ^ d := Nat.pos_of_ne_zero (by simp)
      have hcd1 := hcd
      rw [Nat.pow_succ] at hcd1
      have hc256 : c < 256 := by
        have : (c + 1) * 2 ≤ (c + 1) * (2 ^ d * 2) := Nat.mul_le_mul_left _ (by omega)
        omega
      obtain ⟨b, hb⟩ : ∃ b, b = b2n (sc.bit c) := ⟨_, rfl⟩
      have hb2 : b < 2 := by rw [hb]; unfold b2n; split <;> omega
      have hcd2 : (2 * c + b + 1) * 2 ^ d ≤ 512 := by
        have : (2 * c + b + 1) * 2 ^ d ≤ ((c + 1) * 2) * 2 ^ d := Nat.mul_le_mul_right _ (by omega)
        have e2 : (c + 1) * 2 * 2 ^ d = (c + 1) * (2 ^ d * 2) := by rw [Nat.mul_assoc, Nat.mul_comm 2 (2 ^ d)]
        omega
      have hR2 : (sc.step c).byteFrom (2 * c + b) d = R := by rw [hb]; exact hR
      have hcall := decbit_any h3 hm c hc256 (d : Int) g1
      rw [← hb] at hcall
      have HCALL := Lib.hid hcall
      have HM := Lib.hid (Ds.step_rdy hm hc256)
      have HRR := Lib.hid hR2
      have HF2 := Lib.hid hf2
      have HCD := Lib.hid hcd2
      have ho := two_or c b (by omega) hb2
      have hdd : ((d + 1 : Nat) : Int) - 1 = (d : Int) := by omega
      have hd0 : (0 : Int) ≤ (d : Int) := by omega
      clear hR hR2 hb hcall h3 hf2 hcd hcd1 hcd2 hm g1 hp
      rw [hdd]
      clear hdd
      go_wp2_with fail
      refine HCALL.out.mono ?_
      rintro e w5 ⟨rfl, hp⟩
      have HP := Lib.hid hp
      clear hp
      go_wp2_with fail
      go_roundw
      case rel => exact ⟨d, 2 * c + b, _, by omega, by first | rfl | go_num, by first | rfl | go_num, HCD.out, HM.out, DecTo29.trans HF2.out HP.out, HRR.out⟩
      case measure => simp [intOf]
end
end Go.Proofs.Ytodfeaipoagphaa
/- Package rangecoder: readLength. -/
namespace Go.Proofs.Ytodfeaipoagphaa
open Go.RowKit

/-- what readLength returns -/
def RLTo (w : World) (ao : Option Addr) (r : Nat × List Nat × Int) (e : Ending) (w' : World) : Prop :=
  ∃ ra rc, e = .returned (.tuple #[.int .i64 (r.1 : Int), .slice ra r.2.1.length rc, .int .i64 r.2.2]) ∧ Rd w 1 ra r.2.1.length (bts r.2.1) ∧ r.2.1.length ≤ rc ∧ rc ≤ maxLen ∧ (∀ k ∈ blk ra, k ∈ blk ao) ∧ Fr [] w w'

theorem readLen_nil (k i n : Nat) : readLen k i n [] = (0, [], 7) := by cases k <;> rfl
theorem Rd.nil1 (w : World) : Rd w 1 none 0 [] := ⟨rfl, by simp, .inl rfl⟩
theorem rl_none {w w' : World} {ao : Option Addr} {err : Int} (hf : Fr [] w w') : RLTo w ao (0, [], err) (.returned (.tuple #[.int .i64 0, .slice none 0 0, .int .i64 err])) w' :=
  ⟨none, 0, rfl, by simpa [bts] using Rd.nil1 w, by simp, by simp, by simp [blk], hf⟩

theorem and127 (x : Nat) (hx : x < 256) : bits BinOp.and IntKind.u8 (x : Int) 127 = ((x % 128 : Nat) : Int) := by
  have h : ∀ y : Fin 256, y.val &&& 127 = y.val % 128 := by decide +kernel
  rw [show (127 : Int) = ((127 : Nat) : Int) from rfl, bits_and_u8 _ _ hx (by omega)]
  have := h ⟨x, hx⟩
  simp only at this
  rw [this]

theorem digit_or (n y i : Nat) (hi : i < 5) (hn : n < 128 ^ i) (hy : y < 128) : bits BinOp.or IntKind.i64 (n : Int) (wrap64 ((y : Int) * 2 ^ (7 * i))) = ((n + y * 128 ^ i : Nat) : Int) := by
  have hp : (128 : Nat) ^ i ≤ 128 ^ 4 := Nat.pow_le_pow_right (by omega) (by omega)
  have hp0 : 0 < (128 : Nat) ^ i := Nat.pos_of_ne_zero (by simp)
  have e2 : (2 : Nat) ^ (7 * i) = 128 ^ i := by rw [Nat.pow_mul]
  have hm : y * 128 ^ i ≤ 127 * 128 ^ 4 := Nat.mul_le_mul (by omega) hp
  have e1 : (y : Int) * 2 ^ (7 * i) = ((y * 128 ^ i : Nat) : Int) := by
    rw [show (2 : Int) ^ (7 * i) = ((2 ^ (7 * i) : Nat) : Int) by rw [Int.natCast_pow]; rfl, e2, Int.natCast_mul]
  rw [e1, IntWalk.wrap64_in _ (by omega), bits_or_i64 _ _ (by omega) (by omega), ← e2, Nat.or_comm, or_low _ _ _ (by rw [e2]; exact hn), Nat.add_comm]

theorem cut_rd {w : World} {g off cap n i : Nat} {l : List Nat} (h : Rd w 1 (some ⟨g, off, none⟩) l.length (bts l)) (hi : i ≤ l.length) (hc : l.length ≤ cap) : Rd w 1 (cutA (some ⟨g, off, none⟩) i cap 1) (l.drop i).length (bts (l.drop i)) := by
  obtain ⟨e1, e2, e3⟩ := h
  refine ⟨by simp [bts_length], by rw [List.length_drop]; omega, ?_⟩
  rcases Nat.eq_or_lt_of_le hi with h0 | h0
  · left; rw [List.length_drop]; omega
  · rcases e3 with e3 | ⟨g', off', ha, hg, hcc⟩
    · omega
    · cases ha
      refine .inr ⟨g, off + i * 1, cutA_ne (by omega), hg, fun j hj => ?_⟩
      rw [List.length_drop] at hj
      have := hcc (i + j) (by omega)
      rw [show off + i * 1 + j = off + (i + j) by omega, this]
      simp [bts, List.getElem?_drop]

set_option maxRecDepth 100000 in
set_option maxHeartbeats 4000000 in
theorem readlen_any (w : World) (ao : Option Addr) (cap : Nat) (l : List Nat) (hrd : Rd w 1 ao l.length (bts l)) (hb : Bytes l) (hc : l.length ≤ cap) (hcm : cap ≤ maxLen) :
    Calls Try.prog 33 #[.slice ao l.length cap] w (RLTo w ao (readLen 5 0 0 l)) := by
  have hlen : l.length ≤ 9223372036854775807 := by have := hrd.2.1; unfold maxLen at this; omega
  have hcl : cap ≤ 9223372036854775807 := by unfold maxLen at hcm; omega
  have HRD := Lib.hid hrd
  have HB := Lib.hid hb
  have HCM := Lib.hid hcm
  have HSL := Lib.hid fun (i : Nat) (hi : i + 1 ≤ l.length) => run_slice_from (P := Try.prog) 33 5 Try.underlying33 1 (by kernel_rfl) ao l.length cap (i + 1) hi
  obtain ⟨R, hR⟩ : ∃ R, R = readLen 5 0 0 l := ⟨_, rfl⟩
  rw [← hR]
  have HS := Lib.hid (⟨0, 0, by omega, by omega, rfl, rfl, by omega, hR.symm, Fr.refl _ _⟩ : ∃ (i n : Nat), i ≤ 5 ∧ i ≤ l.length ∧ Value.int .i64 0 = .int .i64 (n : Int) ∧ Value.int .i64 0 = .int .i64 (i : Int) ∧ n < 128 ^ i ∧ readLen (5 - i) i n (l.drop i) = R ∧ Fr [] w w)
  clear hrd hb hcm hR
  go_enter Try.func33, Try.ntmps33
  go_wp2_with fail
  go_loopw [5, 7] (fun nv iv wr => ∃ (i n : Nat), i ≤ 5 ∧ i ≤ l.length ∧ nv = .int .i64 (n : Int) ∧ iv = .int .i64 (i : Int) ∧ n < 128 ^ i ∧ readLen (5 - i) i n (l.drop i) = R ∧ Fr [] w wr) (fun _ iv _ => 5 - (intOf iv).toNat)
  case atStart => exact HS.out
  case round =>
    clear HS
    obtain ⟨i, n, hi5, hil, rfl, rfl, hn, hR, hf⟩ := hrel
    have HF := Lib.hid hf
    by_cases h5 : i < 5
    · by_cases hl : i < l.length
      · obtain ⟨g, off, rfl, hg, hcc⟩ := HRD.out.at (by omega)
        have cx : wr.cell? ⟨g, off + i, none⟩ = some (.int .u8 ((l[i] : Nat) : Int)) := by
          rw [World.cell?_of_block (a := ⟨g, off + i, none⟩) (hf.block g hg (by simp)), hcc i (by omega), bts_get, List.getElem?_eq_getElem hl]; rfl
        have hx : l[i] < 256 := HB.out _ (List.getElem_mem hl)
        have hdr : l.drop i = l[i] :: l.drop (i + 1) := List.drop_eq_getElem_cons hl
        obtain ⟨k, hk⟩ : ∃ k, 5 - i = k + 1 := ⟨4 - i, by omega⟩
        rw [hdr, hk, readLen] at hR
        obtain ⟨x, hx2⟩ : ∃ x, x = l[i] := ⟨_, rfl⟩
        rw [← hx2] at cx hx hR
        have HX := Lib.hid hx2
        have HR := Lib.hid hR
        have HN := Lib.hid hn
        have HK := Lib.hid hk
        have ha := and127 x hx
        have hneb : ((i : Int) == (l.length : Int)) = false := beq_eq_false_iff_ne.2 (by omega)
        have w7 : IntKind.i64.wrap (7 * (i : Int)) = 7 * (i : Int) := IntWalk.i64_in _ (by omega)
        have hdo := digit_or n (x % 128) i h5 hn (by omega)
        rw [Int.natCast_emod, show ((128 : Nat) : Int) = 128 from rfl] at hdo
        obtain ⟨N, hN⟩ : ∃ N, N = n + x % 128 * 128 ^ i := ⟨_, rfl⟩
        rw [← hN] at hdo
        have HNN := Lib.hid hN
        have HCUT := Lib.hid (cut_rd (n := n) HRD.out (show i + 1 ≤ l.length by omega) hc)
        clear hf hcc hdr hR hn hk hx2 hN
        by_cases hx8 : x < 128
        · by_cases hz : 0 < i ∧ x = 0
          · obtain ⟨hz1, hz2⟩ := hz
            have hRe := HR.out
            rw [if_pos hx8, if_pos ⟨hz1, hz2⟩] at hRe
            have HRE := Lib.hid hRe
            have hzb : ((x : Int) == 0) = true := beq_iff_eq.2 (by omega)
            clear hRe hz2 HR
            go_wp2_with fail
            go_ret3
            exact HRE.out ▸ rl_none HF.out
          · have hRe := HR.out
            rw [if_pos hx8, if_neg hz] at hRe
            have HRE := Lib.hid hRe
            have hmod : x % 128 = x := Nat.mod_eq_of_lt hx8
            have HMOD := Lib.hid hmod
            have hsl : ∀ u : World, (Instr.slice 33 (.slice (some ⟨g, off, none⟩) l.length cap) (some (.int .i64 ((i : Int) + 1))) none none).run Try.prog u = .ok (.slice (cutA (some ⟨g, off, none⟩) (i + 1) cap 1) (l.length - (i + 1)) (cap - (i + 1))) u := HSL.out i (by omega)
            have HSL2 := Lib.hid hsl
            have w8 : IntKind.i64.wrap ((i : Int) + 1) = (i : Int) + 1 := IntWalk.i64_in _ (by omega)
            have hzz : 0 < i → ((x : Int) == 0) = false := fun h => beq_eq_false_iff_ne.2 (by omega)
            clear hRe HR hmod
            rcases Nat.eq_zero_or_pos i with hi0 | hi0
            · have hg0 : ¬ 0 < i := by omega
              clear hi0 hzz hz
              go_wp2_with fail
              go_quiet (fail)
              go_wp2
              go_ret3
              have hl2 : (l.drop (i + 1)).length = l.length - (i + 1) := List.length_drop
              refine ⟨cutA (some ⟨g, off, none⟩) (i + 1) cap 1, cap - (i + 1), ?_, ?_, ?_, by have := HCM.out; omega, fun k hk => by rw [blk_cutA] at hk; exact hk, HF.out.trans ((Fr.refl [] _).drewN _) (by simp [Ext])⟩
              · rw [← HRE.out]; simp only [hl2]; rw [HNN.out, HMOD.out]; rfl
              · rw [← HRE.out]; exact HCUT.out
              · rw [← HRE.out]; simp only [hl2]; omega
            · have hzb : ((x : Int) == 0) = false := hzz hi0
              clear hzz hz
              go_wp2_with fail
              go_quiet (fail)
              go_wp2
              go_ret3
              have hl2 : (l.drop (i + 1)).length = l.length - (i + 1) := List.length_drop
              refine ⟨cutA (some ⟨g, off, none⟩) (i + 1) cap 1, cap - (i + 1), ?_, ?_, ?_, by have := HCM.out; omega, fun k hk => by rw [blk_cutA] at hk; exact hk, HF.out.trans ((Fr.refl [] _).drewN _) (by simp [Ext])⟩
              · rw [← HRE.out]; simp only [hl2]; rw [HNN.out, HMOD.out]; rfl
              · rw [← HRE.out]; exact HCUT.out
              · rw [← HRE.out]; simp only [hl2]; omega
        · have hRe := HR.out
          rw [if_neg hx8] at hRe
          have hN2 : n + (x - 128) * 128 ^ i = N := by rw [HNN.out]; congr 2; omega
          rw [hN2] at hRe
          have HRE := Lib.hid hRe
          have hNl : N < 128 ^ (i + 1) := by
            rw [HNN.out, Nat.pow_succ]
            have : x % 128 * 128 ^ i ≤ 127 * 128 ^ i := Nat.mul_le_mul_right _ (by omega)
            have := HN.out
            omega
          have HNL := Lib.hid hNl
          clear hRe HR hN2 hNl
          go_wp2_with fail
          go_roundw
          case rel => exact ⟨i + 1, N, by omega, by omega, rfl, by go_num, HNL.out, by rw [show 5 - (i + 1) = k by have := HK.out; omega]; exact HRE.out, HF.out⟩
          case measure => simp [intOf]; omega
      · have hRe := hR
        rw [List.drop_of_length_le (by omega), readLen_nil] at hRe
        have HRE := Lib.hid hRe
        have heb : ((i : Int) == (l.length : Int)) = true := beq_iff_eq.2 (by omega)
        clear hRe hR hn hf
        go_wp2_with fail
        go_ret3
        exact HRE.out ▸ rl_none HF.out
    · have hi : i = 5 := by omega
      have hRe := hR
      rw [show 5 - i = 0 by omega, readLen] at hRe
      have HRE := Lib.hid hRe
      clear hRe hR hn hf hi
      go_wp2_with fail
      go_ret3
      exact HRE.out ▸ rl_none HF.out
end Go.Proofs.Ytodfeaipoagphaa
