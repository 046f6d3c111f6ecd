/- Package snapshot: the decoder: changed, the walk. -/
import Derived.Test.YtcgndeggemceaaaChg28
namespace Go.Proofs.Ytcgndeggemceaaa
open Go.RowKit Go.Maps

set_option maxRecDepth 100000 in
set_option maxHeartbeats 16000000 in
theorem changed_any {w : World} {p : Nat} {ro : Option Addr} {rest : List Nat} {rc e0 : Nat} (h : IsDec w p ro rest rc e0) (hb : BytesB rest) (hlen : rest.length < 1000000000000) {a : List (Int × Int)} {bv nv bg ng : Nat} {G : List Int} (hm : IsM w bv nv (has a) (getv a)) (hg : IsS w bg ng (inL G)) (hvp : bv ≠ p) (hgp : bg ≠ p) (hrb : ∀ k ∈ blk ro, k < w.heap.size) {R : Rdr (List (Int × Int))} (hR : (e0 = 0 ∧ R = chgR a G rest) ∨ (e0 ≠ 0 ∧ R = .bad e0)) :
    Calls Try.prog 38 #[.pointer (some ⟨p, 0, none⟩), .map (some bv), .map (some bg)] w (ChgTo w p ro rest.length R) := by
  have hpw : p < w.heap.size := lt_of_blk h.head
  have HVP := Lib.hid hvp
  have HGP := Lib.hid hgp
  have HPW := Lib.hid hpw
  have HM := Lib.hid hm
  have HG := Lib.hid hg
  have HRB := Lib.hid hrb
  have HNUM := Lib.hid (number_any h hb)
  have HLEN := Lib.hid hlen
  have HST := Lib.hid (fun (W1 : World) (ro1 : Option Addr) (rc1 : Nat) (hd : IsDec W1 p ro1 (numR rest e0) rc1 (numE rest e0)) (hf : Fr [p] w W1) (hbk : ∀ k ∈ blk ro1, k ∈ blk ro) => (⟨by unfold maxI; omega, numN_lt e0 hb, hd, numR_bytes e0 hb, numR_len e0 hb, hbk, hf, Seg.nil _ _ _, by simp [blk], by simp, by simp, by
      rcases hR with ⟨h0, hR⟩ | ⟨h0, hR⟩
      · subst h0
        rw [hR]
        unfold chgR numN numR numE
        simp only [if_pos]
        cases hv : readV rest with
        | bad e => exact .inr ⟨by have := readV_bad hv; show e ≠ 0; omega, rfl⟩
        | ok n r => exact .inl ⟨rfl, preC_nil _, by have := numR_len 0 hb; unfold numR at this; rw [if_pos rfl, hv] at this; simpa using this⟩
      · exact .inr ⟨by rw [numE_ne h0]; exact h0, by rw [numE_ne h0]; exact hR⟩⟩ : ChgAt w W1 p ro rest.length a G R (-1) (numN rest e0) [] none 0 (numR rest e0) (numE rest e0) ro1 rc1))
  obtain ⟨ic, hic, hcz0, hcz1, hcz2⟩ := info_parts infoCell
  clear h hb hlen hm hg hvp hgp hpw hrb hR
  obtain ⟨n0, hn0⟩ : ∃ n0, n0 = numN rest e0 := ⟨_, rfl⟩
  rw [← hn0] at HNUM HST
  clear hn0
  go_enter Try.func38, Try.ntmps38
  go_wp2_with fail
  refine HNUM.out.mono ?_
  rintro r w1 ⟨rfl, ro1, rc1, hd, hf, hbk⟩
  have HS := Lib.hid (HST.out _ _ _ hd hf hbk)
  clear hd hf hbk
  go_wp2_with fail
  go_loopw [7, 8, 9] (fun cv' iv nv' wr => ∃ (prev : Int) (n : Nat) (C : List (Int × Int)) (co : Option Addr) (cc : Nat) (r : List Nat) (e : Nat) (ro2 : Option Addr) (rc2 : Nat), cv' = .slice co C.length cc ∧ iv = .int .i64 prev ∧ nv' = .int .u64 (n : Int) ∧ ChgAt w wr p ro rest.length a G R prev n C co cc r e ro2 rc2) (fun _ _ nv' _ => (intOf nv').toNat)
  case atStart => exact ⟨-1, n0, [], none, 0, _, _, _, _, rfl, rfl, rfl, HS.out⟩
  case round =>
    clear HS
    obtain ⟨prev, n, C, co, cc, r, e, ro2, rc2, rfl, rfl, rfl, hat⟩ := hrel
    have HA := Lib.hid hat
    have c1 : wr.cell? ⟨p, 1, none⟩ = some (.int .i64 (e : Int)) := cell_blk hat.dec.head 1
    have hn := hat.hn
    have hmR : ∀ u : World, Fr [p] wr u → IsM u bv nv (has a) (getv a) := fun u hu => (HM.out.fr hat.fr (by simp; exact HVP.out)).fr hu (by simp; exact HVP.out)
    have HMR := Lib.hid hmR
    have hgR : ∀ u : World, Fr [p] wr u → IsS u bg ng (inL G) := fun u hu => (HG.out.fr hat.fr (by simp; exact HGP.out)).fr hu (by simp; exact HGP.out)
    have HGR := Lib.hid hgR
    have hCl := hat.cl
    clear hat hmR hgR
    have hend : (n = 0 ∨ e ≠ 0) → ChgTo w p ro rest.length R (.returned (.slice co C.length cc)) wr := fun hc => by
      refine ⟨C, co, cc, r, e, ro2, rc2, rfl, HA.out.seg, HA.out.hc, HA.out.cl, HA.out.bd, HA.out.dec, HA.out.bts, HA.out.hl, HA.out.hb, HA.out.fr, ?_⟩
      rcases HA.out.st with ⟨h1, h2, -⟩ | h1
      · have h0 : n = 0 := by rcases hc with hc | hc; exact hc; exact absurd h1 hc
        subst h0
        exact .inl ⟨h1, by rw [← h2]; simp [chgQ, preC]⟩
      · exact .inr h1
    have HEND := Lib.hid hend
    clear hend
    rcases Nat.eq_zero_or_pos n with h0 | h0
    · have hg0 : ¬ 0 < n := by omega
      have hc0 : decide ((0 : Int) < (n : Int)) = false := decide_eq_false (by omega)
      have HR0 := Lib.hid (HEND.out (.inl h0))
      clear h0
      go_wp2_with fail
      go_ret
      exact HR0.out
    · have hc0 : decide ((0 : Int) < (n : Int)) = true := decide_eq_true (by omega)
      by_cases he : e = 0
      · have e1 : ((e : Int) == 0) = true := beq_iff_eq.2 (by omega)
        subst he
        obtain ⟨n', rfl⟩ : ∃ n', n = n' + 1 := ⟨n - 1, by omega⟩
        have HIX := Lib.hid (index_any HA.out.dec HA.out.bts HA.out.hp)
        have hkb : bd64 (ck prev r) := by have := ixV_bd (numN r 0) HA.out.hp; unfold maxI at this; unfold bd64 ck; omega
        have hcvb : bd64 (cv a G prev r) := wrap64_bd _
        have HBR := Lib.hid (numR_bytes 0 HA.out.bts)
        have HNX := Lib.hid (fun (w2 w3 : World) (co2 : Option Addr) (cc2 : Nat) (ro3 : Option Addr) (rc3 : Nat) a1 a2 a3 a4 a5 a6 => HA.out.next (w2 := w2) (w3 := w3) (co2 := co2) (cc2 := cc2) (ro3 := ro3) (rc3 := rc3) HPW.out a1 a2 a3 a4 a5 a6 HRB.out hcvb)
        have HZL := Lib.hid (numN_lt (ce2 G prev r) HBR.out)
        have hdk : ixV prev (numN r 0) = ck prev r := rfl
        have hd1 : ixE prev (numN r 0) (numE r 0) = ce1 prev r := rfl
        rw [hdk, hd1] at HIX
        have qHD2 : ce2 G prev r = okE (!inL G (ck prev r)) (ce1 prev r) := rfl
        have HD2 := Lib.hid qHD2
        clear qHD2
        have qHDZ : numN (numR r 0) (ce2 G prev r) = cz G prev r := rfl
        have HDZ := Lib.hid qHDZ
        clear qHDZ
        have qHDR : numR (numR r 0) (ce2 G prev r) = cr G prev r := rfl
        have HDR := Lib.hid qHDR
        clear qHDR
        have qHD3 : numE (numR r 0) (ce2 G prev r) = ce3 G prev r := rfl
        have HD3 := Lib.hid qHD3
        clear qHD3
        have qHDV : cv a G prev r = wrap64 (getv a (ck prev r) + uz (cz G prev r)) := rfl
        have HDV := Lib.hid qHDV
        clear qHDV
        have qHD4 : ce4 a G prev r = okE (!stays a (ck prev r) (cv a G prev r)) (ce3 G prev r) := rfl
        have HD4 := Lib.hid qHD4
        clear qHD4
        clear hdk hd1
        obtain ⟨k, hk⟩ : ∃ k, k = ck prev r := ⟨_, rfl⟩
        rw [← hk] at HIX hkb HNX HD2 HDV HD4
        obtain ⟨E1, hE1⟩ : ∃ E, E = ce1 prev r := ⟨_, rfl⟩
        rw [← hE1] at HIX HD2
        obtain ⟨E2, hE2⟩ : ∃ E, E = ce2 G prev r := ⟨_, rfl⟩
        rw [← hE2] at HZL HD2 HDZ HDR HD3
        obtain ⟨r1, hr1⟩ : ∃ r1, r1 = numR r 0 := ⟨_, rfl⟩
        rw [← hr1] at HIX HBR HZL HDZ HDR HD3
        obtain ⟨z, hz⟩ : ∃ z, z = cz G prev r := ⟨_, rfl⟩
        rw [← hz] at HDZ HDV
        obtain ⟨r2, hr2⟩ : ∃ r2, r2 = cr G prev r := ⟨_, rfl⟩
        rw [← hr2] at HDR HNX
        obtain ⟨E3, hE3⟩ : ∃ E, E = ce3 G prev r := ⟨_, rfl⟩
        rw [← hE3] at HD3 HD4
        obtain ⟨v, hv⟩ : ∃ v, v = cv a G prev r := ⟨_, rfl⟩
        rw [← hv] at HNX HDV HD4
        obtain ⟨E4, hE4⟩ : ∃ E, E = ce4 a G prev r := ⟨_, rfl⟩
        rw [← hE4] at HD4 HNX
        have hzl : z < 18446744073709551616 := by rw [← HDZ.out]; exact HZL.out
        have HKB := Lib.hid hkb
        have wn : IntKind.u64.wrap (((n' + 1 : Nat) : Int) - 1) = (n' : Int) := by rw [show ((n' + 1 : Nat) : Int) - 1 = (n' : Int) by omega]; exact IntWalk.u64_in _ (by omega)
        clear hk hE1 hE2 hr1 hz hr2 hE3 hv hE4 hkb hcvb HEND HST HNUM
        go_wp2_with fail
        refine HIX.out.mono ?_
        rintro rr w1 ⟨rfl, ro3, rc3, hd, hf, hbk⟩
        have hlk := (HGR.out _ hf).look HKB.out
        have HD := Lib.hid hd
        have HF := Lib.hid hf
        have HBK := Lib.hid hbk
        clear hd hf hbk
        have hW : ∀ o, IsDec (w1.alloc o) p ro3 r1 rc3 E1 := fun o => HD.out.old ((Fr.refl [] w1).alloc o)
        have HW := Lib.hid hW
        clear hW
        cases hh : inL G k
        case' true =>
          rw [hh] at hlk HD2
          go_wp2_with fail
          refine (fail_any (HW.out _) 8).mono ?_
          rintro rr wc ⟨rfl, hd2, hf2⟩
          replace hd2 : IsDec wc p ro3 r1 rc3 E2 := by rw [HD2.out]; exact hd2
          replace hf2 : Fr [p] wr wc := (HF.out.trans ((Fr.refl [] _).alloc _) (by simp [Ext])).trans hf2 (Ext.refl _ _)
          go_upto_region 10 with fail
        case' false =>
          rw [hh] at hlk HD2
          go_upto_region 10 with fail
          have hd2 : IsDec (w1.alloc (.cells #[] 80)) p ro3 r1 rc3 E2 := by rw [HD2.out]; exact HW.out _
          have hf2 : Fr [p] wr (w1.alloc (.cells #[] 80)) := HF.out.trans ((Fr.refl [] _).alloc _) (by simp [Ext])
          obtain ⟨wc, hwc⟩ : ∃ wc, wc = w1.alloc (.cells #[] 80) := ⟨_, rfl⟩
          rw [← hwc] at hd2 hf2 ⊢
          clear hwc
        all_goals
          clear hlk
          have hlk2 := (HMR.out _ hf2).look HKB.out
          have HN2 := Lib.hid (number_any hd2 HBR.out)
          have HF2 := Lib.hid hf2
          clear hd2 hf2
          rw [HDZ.out, HDR.out, HD3.out] at HN2
          obtain ⟨gv, hgv⟩ : ∃ gv, gv = getv a k := ⟨_, rfl⟩
          rw [← hgv] at hlk2 HDV
          have HGV := Lib.hid hgv
          clear hgv
          have HUZ := Lib.hid (fun u => unzigzag_any u z hzl)
          obtain ⟨uv, huv⟩ : ∃ uv, uv = uz z := ⟨_, rfl⟩
          rw [← huv] at HUZ HDV
          clear huv
          have hwv2 : wrap64 (gv + uv) = v := HDV.out.symm
          go_wp2_with fail
          refine HN2.out.mono ?_
          rintro rr w3 ⟨rfl, ro4, rc4, hd3, hf3, hbk3⟩
          have HD3' := Lib.hid hd3
          have HF3 := Lib.hid (HF2.out.trans hf3 (Ext.refl _ _))
          have HBK3 := Lib.hid hbk3
          clear hd3 hf3 hbk3
          go_wp2_with fail
          refine (HUZ.out _).mono ?_
          rintro rr w4 ⟨rfl, rfl⟩
          go_upto_region 12 with fail
          have hbk := alloc_new w3 (.cells #[.int .i64 k, .int .i64 v] 38)
          have hd4 := HD3'.out.old ((Fr.refl [] w3).alloc (.cells #[.int .i64 k, .int .i64 v] 38))
          have hf4 := HF3.out.trans ((Fr.refl [] w3).alloc (.cells #[.int .i64 k, .int .i64 v] 38)) (by simp [Ext])
          obtain ⟨W4, hW4⟩ : ∃ W4, W4 = w3.alloc (.cells #[.int .i64 k, .int .i64 v] 38) := ⟨_, rfl⟩
          rw [← hW4] at hbk hd4 hf4 ⊢
          have hbp : w3.heap.size ≠ p := by have := lt_of_blk HD3'.out.head; omega
          obtain ⟨bc, hbc⟩ : ∃ bc, bc = w3.heap.size := ⟨_, rfl⟩
          rw [← hbc] at hbk hbp ⊢
          clear hW4 hbc
          have z0 : W4.cell? ⟨bc, 0, none⟩ = some (.int .i64 k) := cell_blk hbk 0
          have z1 : W4.cell? ⟨bc, 1, none⟩ = some (.int .i64 v) := cell_blk hbk 1
          have HBK4 := Lib.hid hbk
          have HD4w := Lib.hid hd4
          have HF4w := Lib.hid hf4
          clear hbk hd4 hf4
          cases hh2 : has a k
          case' false =>
            have hs : stays a k v = false := by unfold stays; rw [hh2]; rfl
            rw [hs] at HD4
            clear hs
            go_upto_region 14 with fail
            have hd5 : IsDec W4 p ro4 r2 rc4 E4 := by rw [HD4.out]; exact HD4w.out
            have hf5 := HF4w.out
            have hb5 := HBK4.out
          case' true =>
            by_cases hvg : v = gv
            case' pos =>
              have hs : stays a k v = true := by unfold stays; rw [hh2, hvg, ← HGV.out]; simp
              rw [hs] at HD4
              have heq : ∀ u, (binOp .eql 38 (.agg #[.int .i64 k, .int .i64 v]) (.agg #[.int .i64 k, .int .i64 gv])).run Try.prog u = .ok (.bool true) u := fun u => by rw [eq_cell]; simp [hvg]
              clear hs hvg
              go_wp2_with fail
              refine (fail_any HD4w.out 8).mono ?_
              rintro rr w5 ⟨rfl, hd5, hf5'⟩
              have hf5 := HF4w.out.trans hf5' (Ext.refl _ _)
              have hb5 := hf5'.blk HBK4.out (by simp; exact hbp)
              replace hd5 : IsDec w5 p ro4 r2 rc4 E4 := by rw [HD4.out]; exact hd5
              clear hf5' z0 z1
              have z0 : w5.cell? ⟨bc, 0, none⟩ = some (.int .i64 k) := cell_blk hb5 0
              have z1 : w5.cell? ⟨bc, 1, none⟩ = some (.int .i64 v) := cell_blk hb5 1
              go_upto_region 14 with fail
            case' neg =>
              have hs : stays a k v = false := by unfold stays; rw [hh2, ← HGV.out]; simp [hvg]
              rw [hs] at HD4
              have heq : ∀ u, (binOp .eql 38 (.agg #[.int .i64 k, .int .i64 v]) (.agg #[.int .i64 k, .int .i64 gv])).run Try.prog u = .ok (.bool false) u := fun u => by rw [eq_cell]; simp [hvg]
              clear hs hvg
              go_upto_region 14 with fail
              have hd5 : IsDec W4 p ro4 r2 rc4 E4 := by rw [HD4.out]; exact HD4w.out
              have hf5 := HF4w.out
              have hb5 := HBK4.out
          all_goals
            have hpc : ∀ k ∈ blk co, k ∉ [p] := fun k hk hm => by have := HA.out.hc k hk; have := HPW.out; simp at hm; omega
            have HSG := Lib.hid fun (o : Obj) => (HA.out.seg.fr hf5 hpc).alloc o
            have HF5 := Lib.hid hf5
            have HD5 := Lib.hid hd5
            clear hpc hf5 hd5 hb5
            have hlenC := HLEN.out
            go_wp2_with (at_builtin; refine wpList_append_seg rfl _ _ 23 rfl 38 ic _ 2 16 Try.underlying23 hic hcz0 hcz1 hcz2 rfl (by decide) co C.length cc (C.flatMap clV) rfl (HSG.out _) ⟨_, 0, none⟩ 1 1 (clV (k, v)) rfl rfl (fun j u hu => by rw [Addr.add_mid, Nat.zero_add, World.cell?_alloc_new]; simpa [clV] using hu) (by simp [clV, Value.oneCell']) (by unfold maxLen; omega) (by omega) ?_; intro ao' cap' w6 hs6 hf6 hx6; have HS6 := Lib.hid hs6; have HF6 := Lib.hid (((Fr.refl (blk co) _).alloc _).trans hf6 (Ext.refl _ _)); have HX6 := Lib.hid hx6; clear hs6 hf6 hx6)
            have HN := Lib.hid (HNX.out _ _ _ _ _ _ HF5.out (fun k hk => HBK.out k (HBK3.out k hk)) HD5.out HS6.out HF6.out (fun k hk => (HX6.out k hk).imp id (fun q => by simp at q; omega)))
            go_roundw
            case rel => exact ⟨k, n', C ++ [(k, v)], ao', cap', r2, E4, ro4, rc4, by simp, by go_num, by go_num, HN.out⟩
            case measure => simp [intOf]
      · have e1 : ((e : Int) == 0) = false := beq_eq_false_iff_ne.2 (by omega)
        have HR0 := Lib.hid (HEND.out (.inr he))
        clear he
        go_wp2_with fail
        go_ret
        exact HR0.out
end Go.Proofs.Ytcgndeggemceaaa
