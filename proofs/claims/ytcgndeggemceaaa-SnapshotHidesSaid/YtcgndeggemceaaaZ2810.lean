/- ChgW28, FrB, Eq28, Mg28 (merged by merge.py). -/
import Derived.Test.YtcgndeggemceaaaZ289
import Derived.RangeFuncNested
import Derived.RangeFuncBox
import Derived.Shelf.Abstract
import Derived.Test.YtcgndeggemceaaaZ280
import Derived.Test.YtcgndeggemceaaaZ283
import Derived.Test.YtcgndeggemceaaaZ281
import Derived.RangeFuncLeaves
import Derived.OwnWalkIn
import Derived.TacticsInMore
import Derived.LoopNIn
import Derived.LoopIn
import Derived.BigRegionIn
import Derived.Deep.Quiet
import Derived.BigQuiet
import Derived.Sort.CutIn
/- Package snapshot: the decoder: changed, the walk. -/
namespace Go.Proofs.Ytcgndeggemceaaa
open Go.RowKit Go.Maps

set_option maxRecDepth 100000 in
set_option maxHeartbeats 16000000 in
theorem changed_any {w : World} {p : Nat} {ro : Option Addr} {rest : List Nat} {rc e0 : Nat} (h : IsDec w p ro rest rc e0) (hb : BytesB rest) (hlen : rest.length < 1000000000000) {a : List (Int × Int)} {bv nv bg ng : Nat} {G : List Int} (hm : IsM w bv nv (has a) (getv a)) (hg : IsS w bg ng (inL G)) (hvp : bv ≠ p) (hgp : bg ≠ p) (hrb : ∀ k ∈ blk ro, k < w.heap.size) {R : Rdr (List (Int × Int))} (hR : (e0 = 0 ∧ R = chgR a G rest) ∨ (e0 ≠ 0 ∧ R = .bad e0)) :
    Calls Try.prog 38 #[.pointer (some ⟨p, 0, none⟩), .map (some bv), .map (some bg)] w (ChgTo w p ro rest.length R) := by
  have hpw : p < w.heap.size := lt_of_blk h.head
  have HVP := Lib.hid hvp
  have HGP := Lib.hid hgp
  have HPW := Lib.hid hpw
  have HM := Lib.hid hm
  have HG := Lib.hid hg
  have HRB := Lib.hid hrb
  have HNUM := Lib.hid (number_any h hb)
  have HLEN := Lib.hid hlen
  have HST := Lib.hid (fun (W1 : World) (ro1 : Option Addr) (rc1 : Nat) (hd : IsDec W1 p ro1 (numR rest e0) rc1 (numE rest e0)) (hf : Fr [p] w W1) (hbk : ∀ k ∈ blk ro1, k ∈ blk ro) => (⟨by unfold maxI; omega, numN_lt e0 hb, hd, numR_bytes e0 hb, numR_len e0 hb, hbk, hf, Seg.nil _ _ _, by simp [blk], by simp, by simp, by
      rcases hR with ⟨h0, hR⟩ | ⟨h0, hR⟩
      · subst h0
        rw [hR]
        unfold chgR numN numR numE
        simp only [if_pos]
        cases hv : readV rest with
        | bad e => exact .inr ⟨by have := readV_bad hv; show e ≠ 0; omega, rfl⟩
        | ok n r => exact .inl ⟨rfl, preC_nil _, by have := numR_len 0 hb; unfold numR at this; rw [if_pos rfl, hv] at this; simpa using this⟩
      · exact .inr ⟨by rw [numE_ne h0]; exact h0, by rw [numE_ne h0]; exact hR⟩⟩ : ChgAt w W1 p ro rest.length a G R (-1) (numN rest e0) [] none 0 (numR rest e0) (numE rest e0) ro1 rc1))
  obtain ⟨ic, hic, hcz0, hcz1, hcz2⟩ := info_parts infoCell
  clear h hb hlen hm hg hvp hgp hpw hrb hR
  obtain ⟨n0, hn0⟩ : ∃ n0, n0 = numN rest e0 := ⟨_, rfl⟩
  rw [← hn0] at HNUM HST
  clear hn0
  go_enter Try.func38, Try.ntmps38
  go_wp2_with fail
  refine HNUM.out.mono ?_
  rintro r w1 ⟨rfl, ro1, rc1, hd, hf, hbk⟩
  have HS := Lib.hid (HST.out _ _ _ hd hf hbk)
  clear hd hf hbk
  go_wp2_with fail
  go_loopw [7, 8, 9] (fun cv' iv nv' wr => ∃ (prev : Int) (n : Nat) (C : List (Int × Int)) (co : Option Addr) (cc : Nat) (r : List Nat) (e : Nat) (ro2 : Option Addr) (rc2 : Nat), cv' = .slice co C.length cc ∧ iv = .int .i64 prev ∧ nv' = .int .u64 (n : Int) ∧ ChgAt w wr p ro rest.length a G R prev n C co cc r e ro2 rc2) (fun _ _ nv' _ => (intOf nv').toNat)
  case atStart => exact ⟨-1, n0, [], none, 0, _, _, _, _, rfl, rfl, rfl, HS.out⟩
  case round =>
    clear HS
    obtain ⟨prev, n, C, co, cc, r, e, ro2, rc2, rfl, rfl, rfl, hat⟩ := hrel
    have HA := Lib.hid hat
    have c1 : wr.cell? ⟨p, 1, none⟩ = some (.int .i64 (e : Int)) := cell_blk hat.dec.head 1
    have hn := hat.hn
    have hmR : ∀ u : World, Fr [p] wr u → IsM u bv nv (has a) (getv a) := fun u hu => (HM.out.fr hat.fr (by simp; exact HVP.out)).fr hu (by simp; exact HVP.out)
    have HMR := Lib.hid hmR
    have hgR : ∀ u : World, Fr [p] wr u → IsS u bg ng (inL G) := fun u hu => (HG.out.fr hat.fr (by simp; exact HGP.out)).fr hu (by simp; exact HGP.out)
    have HGR := Lib.hid hgR
    have hCl := hat.cl
    clear hat hmR hgR
    have hend : (n = 0 ∨ e ≠ 0) → ChgTo w p ro rest.length R (.returned (.slice co C.length cc)) wr := fun hc => by
      refine ⟨C, co, cc, r, e, ro2, rc2, rfl, HA.out.seg, HA.out.hc, HA.out.cl, HA.out.bd, HA.out.dec, HA.out.bts, HA.out.hl, HA.out.hb, HA.out.fr, ?_⟩
      rcases HA.out.st with ⟨h1, h2, -⟩ | h1
      · have h0 : n = 0 := by rcases hc with hc | hc; exact hc; exact absurd h1 hc
        subst h0
        exact .inl ⟨h1, by rw [← h2]; simp [chgQ, preC]⟩
      · exact .inr h1
    have HEND := Lib.hid hend
    clear hend
    rcases Nat.eq_zero_or_pos n with h0 | h0
    · have hg0 : ¬ 0 < n := by omega
      have hc0 : decide ((0 : Int) < (n : Int)) = false := decide_eq_false (by omega)
      have HR0 := Lib.hid (HEND.out (.inl h0))
      clear h0
      go_wp2_with fail
      go_ret
      exact HR0.out
    · have hc0 : decide ((0 : Int) < (n : Int)) = true := decide_eq_true (by omega)
      by_cases he : e = 0
      · have e1 : ((e : Int) == 0) = true := beq_iff_eq.2 (by omega)
        subst he
        obtain ⟨n', rfl⟩ : ∃ n', n = n' + 1 := ⟨n - 1, by omega⟩
        have HIX := Lib.hid (index_any HA.out.dec HA.out.bts HA.out.hp)
        have hkb : bd64 (ck prev r) := by have := ixV_bd (numN r 0) HA.out.hp; unfold maxI at this; unfold bd64 ck; omega
        have hcvb : bd64 (cv a G prev r) := wrap64_bd _
        have HBR := Lib.hid (numR_bytes 0 HA.out.bts)
        have HNX := Lib.hid (fun (w2 w3 : World) (co2 : Option Addr) (cc2 : Nat) (ro3 : Option Addr) (rc3 : Nat) a1 a2 a3 a4 a5 a6 => HA.out.next (w2 := w2) (w3 := w3) (co2 := co2) (cc2 := cc2) (ro3 := ro3) (rc3 := rc3) HPW.out a1 a2 a3 a4 a5 a6 HRB.out hcvb)
        have HZL := Lib.hid (numN_lt (ce2 G prev r) HBR.out)
        have hdk : ixV prev (numN r 0) = ck prev r := rfl
        have hd1 : ixE prev (numN r 0) (numE r 0) = ce1 prev r := rfl
        rw [hdk, hd1] at HIX
        have qHD2 : ce2 G prev r = okE (!inL G (ck prev r)) (ce1 prev r) := rfl
        have HD2 := Lib.hid qHD2
        clear qHD2
        have qHDZ : numN (numR r 0) (ce2 G prev r) = cz G prev r := rfl
        have HDZ := Lib.hid qHDZ
        clear qHDZ
        have qHDR : numR (numR r 0) (ce2 G prev r) = cr G prev r := rfl
        have HDR := Lib.hid qHDR
        clear qHDR
        have qHD3 : numE (numR r 0) (ce2 G prev r) = ce3 G prev r := rfl
        have HD3 := Lib.hid qHD3
        clear qHD3
        have qHDV : cv a G prev r = wrap64 (getv a (ck prev r) + uz (cz G prev r)) := rfl
        have HDV := Lib.hid qHDV
        clear qHDV
        have qHD4 : ce4 a G prev r = okE (!stays a (ck prev r) (cv a G prev r)) (ce3 G prev r) := rfl
        have HD4 := Lib.hid qHD4
        clear qHD4
        clear hdk hd1
        obtain ⟨k, hk⟩ : ∃ k, k = ck prev r := ⟨_, rfl⟩
        rw [← hk] at HIX hkb HNX HD2 HDV HD4
        obtain ⟨E1, hE1⟩ : ∃ E, E = ce1 prev r := ⟨_, rfl⟩
        rw [← hE1] at HIX HD2
        obtain ⟨E2, hE2⟩ : ∃ E, E = ce2 G prev r := ⟨_, rfl⟩
        rw [← hE2] at HZL HD2 HDZ HDR HD3
        obtain ⟨r1, hr1⟩ : ∃ r1, r1 = numR r 0 := ⟨_, rfl⟩
        rw [← hr1] at HIX HBR HZL HDZ HDR HD3
        obtain ⟨z, hz⟩ : ∃ z, z = cz G prev r := ⟨_, rfl⟩
        rw [← hz] at HDZ HDV
        obtain ⟨r2, hr2⟩ : ∃ r2, r2 = cr G prev r := ⟨_, rfl⟩
        rw [← hr2] at HDR HNX
        obtain ⟨E3, hE3⟩ : ∃ E, E = ce3 G prev r := ⟨_, rfl⟩
        rw [← hE3] at HD3 HD4
        obtain ⟨v, hv⟩ : ∃ v, v = cv a G prev r := ⟨_, rfl⟩
        rw [← hv] at HNX HDV HD4
        obtain ⟨E4, hE4⟩ : ∃ E, E = ce4 a G prev r := ⟨_, rfl⟩
        rw [← hE4] at HD4 HNX
        have hzl : z < 18446744073709551616 := by rw [← HDZ.out]; exact HZL.out
        have HKB := Lib.hid hkb
        have wn : IntKind.u64.wrap (((n' + 1 : Nat) : Int) - 1) = (n' : Int) := by rw [show ((n' + 1 : Nat) : Int) - 1 = (n' : Int) by omega]; exact IntWalk.u64_in _ (by omega)
        clear hk hE1 hE2 hr1 hz hr2 hE3 hv hE4 hkb hcvb HEND HST HNUM
        go_wp2_with fail
        refine HIX.out.mono ?_
        rintro rr w1 ⟨rfl, ro3, rc3, hd, hf, hbk⟩
        have hlk := (HGR.out _ hf).look HKB.out
        have HD := Lib.hid hd
        have HF := Lib.hid hf
        have HBK := Lib.hid hbk
        clear hd hf hbk
        have hW : ∀ o, IsDec (w1.alloc o) p ro3 r1 rc3 E1 := fun o => HD.out.old ((Fr.refl [] w1).alloc o)
        have HW := Lib.hid hW
        clear hW
        cases hh : inL G k
        case' true =>
          rw [hh] at hlk HD2
          go_wp2_with fail
          refine (fail_any (HW.out _) 8).mono ?_
          rintro rr wc ⟨rfl, hd2, hf2⟩
          replace hd2 : IsDec wc p ro3 r1 rc3 E2 := by rw [HD2.out]; exact hd2
          replace hf2 : Fr [p] wr wc := (HF.out.trans ((Fr.refl [] _).alloc _) (by simp [Ext])).trans hf2 (Ext.refl _ _)
          go_upto_region 10 with fail
        case' false =>
          rw [hh] at hlk HD2
          go_upto_region 10 with fail
          have hd2 : IsDec (w1.alloc (.cells #[] 80)) p ro3 r1 rc3 E2 := by rw [HD2.out]; exact HW.out _
          have hf2 : Fr [p] wr (w1.alloc (.cells #[] 80)) := HF.out.trans ((Fr.refl [] _).alloc _) (by simp [Ext])
          obtain ⟨wc, hwc⟩ : ∃ wc, wc = w1.alloc (.cells #[] 80) := ⟨_, rfl⟩
          rw [← hwc] at hd2 hf2 ⊢
          clear hwc
        all_goals
          clear hlk
          have hlk2 := (HMR.out _ hf2).look HKB.out
          have HN2 := Lib.hid (number_any hd2 HBR.out)
          have HF2 := Lib.hid hf2
          clear hd2 hf2
          rw [HDZ.out, HDR.out, HD3.out] at HN2
          obtain ⟨gv, hgv⟩ : ∃ gv, gv = getv a k := ⟨_, rfl⟩
          rw [← hgv] at hlk2 HDV
          have HGV := Lib.hid hgv
          clear hgv
          have HUZ := Lib.hid (fun u => unzigzag_any u z hzl)
          obtain ⟨uv, huv⟩ : ∃ uv, uv = uz z := ⟨_, rfl⟩
          rw [← huv] at HUZ HDV
          clear huv
          have hwv2 : wrap64 (gv + uv) = v := HDV.out.symm
          go_wp2_with fail
          refine HN2.out.mono ?_
          rintro rr w3 ⟨rfl, ro4, rc4, hd3, hf3, hbk3⟩
          have HD3' := Lib.hid hd3
          have HF3 := Lib.hid (HF2.out.trans hf3 (Ext.refl _ _))
          have HBK3 := Lib.hid hbk3
          clear hd3 hf3 hbk3
          go_wp2_with fail
          refine (HUZ.out _).mono ?_
          rintro rr w4 ⟨rfl, rfl⟩
          go_upto_region 12 with fail
          have hbk := alloc_new w3 (.cells #[.int .i64 k, .int .i64 v] 38)
          have hd4 := HD3'.out.old ((Fr.refl [] w3).alloc (.cells #[.int .i64 k, .int .i64 v] 38))
          have hf4 := HF3.out.trans ((Fr.refl [] w3).alloc (.cells #[.int .i64 k, .int .i64 v] 38)) (by simp [Ext])
          obtain ⟨W4, hW4⟩ : ∃ W4, W4 = w3.alloc (.cells #[.int .i64 k, .int .i64 v] 38) := ⟨_, rfl⟩
          rw [← hW4] at hbk hd4 hf4 ⊢
          have hbp : w3.heap.size ≠ p := by have := lt_of_blk HD3'.out.head; omega
          obtain ⟨bc, hbc⟩ : ∃ bc, bc = w3.heap.size := ⟨_, rfl⟩
          rw [← hbc] at hbk hbp ⊢
          clear hW4 hbc
          have z0 : W4.cell? ⟨bc, 0, none⟩ = some (.int .i64 k) := cell_blk hbk 0
          have z1 : W4.cell? ⟨bc, 1, none⟩ = some (.int .i64 v) := cell_blk hbk 1
          have HBK4 := Lib.hid hbk
          have HD4w := Lib.hid hd4
          have HF4w := Lib.hid hf4
          clear hbk hd4 hf4
          cases hh2 : has a k
          case' false =>
            have hs : stays a k v = false := by unfold stays; rw [hh2]; rfl
            rw [hs] at HD4
            clear hs
            go_upto_region 14 with fail
            have hd5 : IsDec W4 p ro4 r2 rc4 E4 := by rw [HD4.out]; exact HD4w.out
            have hf5 := HF4w.out
            have hb5 := HBK4.out
          case' true =>
            by_cases hvg : v = gv
            case' pos =>
              have hs : stays a k v = true := by unfold stays; rw [hh2, hvg, ← HGV.out]; simp
              rw [hs] at HD4
              have heq : ∀ u, (binOp .eql 38 (.agg #[.int .i64 k, .int .i64 v]) (.agg #[.int .i64 k, .int .i64 gv])).run Try.prog u = .ok (.bool true) u := fun u => by rw [eq_cell]; simp [hvg]
              clear hs hvg
              go_wp2_with fail
              refine (fail_any HD4w.out 8).mono ?_
              rintro rr w5 ⟨rfl, hd5, hf5'⟩
              have hf5 := HF4w.out.trans hf5' (Ext.refl _ _)
              have hb5 := hf5'.blk HBK4.out (by simp; exact hbp)
              replace hd5 : IsDec w5 p ro4 r2 rc4 E4 := by rw [HD4.out]; exact hd5
              clear hf5' z0 z1
              have z0 : w5.cell? ⟨bc, 0, none⟩ = some (.int .i64 k) := cell_blk hb5 0
              have z1 : w5.cell? ⟨bc, 1, none⟩ = some (.int .i64 v) := cell_blk hb5 1
              go_upto_region 14 with fail
            case' neg =>
              have hs : stays a k v = false := by unfold stays; rw [hh2, ← HGV.out]; simp [hvg]
              rw [hs] at HD4
              have heq : ∀ u, (binOp .eql 38 (.agg #[.int .i64 k, .int .i64 v]) (.agg #[.int .i64 k, .int .i64 gv])).run Try.prog u = .ok (.bool false) u := fun u => by rw [eq_cell]; simp [hvg]
              clear hs hvg
              go_upto_region 14 with fail
              have hd5 : IsDec W4 p ro4 r2 rc4 E4 := by rw [HD4.out]; exact HD4w.out
              have hf5 := HF4w.out
              have hb5 := HBK4.out
          all_goals
            have hpc : ∀ k ∈ blk co, k ∉ [p] := fun k hk hm => by have := HA.out.hc k hk; have := HPW.out; simp at hm; omega
            have HSG := Lib.hid fun (o : Obj) => (HA.out.seg.fr hf5 hpc).alloc o
            have HF5 := Lib.hid hf5
            have HD5 := Lib.hid hd5
            clear hpc hf5 hd5 hb5
            have hlenC := HLEN.out
            go_wp2_with (at_builtin; refine wpList_append_seg rfl _ _ 23 rfl 38 ic _ 2 16 Try.underlying23 hic hcz0 hcz1 hcz2 rfl (by decide) co C.length cc (C.flatMap clV) rfl (HSG.out _) ⟨_, 0, none⟩ 1 1 (clV (k, v)) rfl rfl (fun j u hu => by rw [Addr.add_mid, Nat.zero_add, World.cell?_alloc_new]; simpa [clV] using hu) (by simp [clV, Value.oneCell']) (by unfold maxLen; omega) (by omega) ?_; intro ao' cap' w6 hs6 hf6 hx6; have HS6 := Lib.hid hs6; have HF6 := Lib.hid (((Fr.refl (blk co) _).alloc _).trans hf6 (Ext.refl _ _)); have HX6 := Lib.hid hx6; clear hs6 hf6 hx6)
            have HN := Lib.hid (HNX.out _ _ _ _ _ _ HF5.out (fun k hk => HBK.out k (HBK3.out k hk)) HD5.out HS6.out HF6.out (fun k hk => (HX6.out k hk).imp id (fun q => by simp at q; omega)))
            go_roundw
            case rel => exact ⟨k, n', C ++ [(k, v)], ao', cap', r2, E4, ro4, rc4, by simp, by go_num, by go_num, HN.out⟩
            case measure => simp [intOf]
      · have e1 : ((e : Int) == 0) = false := beq_eq_false_iff_ne.2 (by omega)
        have HR0 := Lib.hid (HEND.out (.inr he))
        clear he
        go_wp2_with fail
        go_ret
        exact HR0.out
end Go.Proofs.Ytcgndeggemceaaa
/- Below a bound only some blocks change (as XBack has it). -/
namespace Go.Proofs.Ytcgndeggemceaaa
open Go.RowKit Go.Shelf

/-- below n₀ only the blocks of S may have changed -/
structure FrB (n₀ : Nat) (S : List Nat) (w w' : World) : Prop where
  os : w'.os = w.os
  tape : w'.tape = w.tape
  output : w'.output = w.output
  size : w.heap.size ≤ w'.heap.size
  block : ∀ k, k < n₀ → k ∉ S → w'.heap[k]? = w.heap[k]?

theorem FrB.refl (n₀ : Nat) (S : List Nat) (w : World) : FrB n₀ S w w := ⟨rfl, rfl, rfl, Nat.le_refl _, fun _ _ _ => rfl⟩
theorem FrB.trans {n₀ : Nat} {S : List Nat} {a b c : World} (h : FrB n₀ S a b) (k : FrB n₀ S b c) : FrB n₀ S a c :=
  ⟨k.os.trans h.os, k.tape.trans h.tape, k.output.trans h.output, Nat.le_trans h.size k.size, fun i hi hS => (k.block i hi hS).trans (h.block i hi hS)⟩
theorem FrB.ofFr {n₀ : Nat} {S : List Nat} {a b : World} (h : Fr S a b) (hn : n₀ ≤ a.heap.size) : FrB n₀ S a b := ⟨h.os, h.tape, h.output, h.size, fun k hk hS => h.block k (by omega) hS⟩
theorem FrB.grown {n₀ : Nat} {S : List Nat} {a b : World} {row : Option Nat} (hg : a.grownBy b row) (hn : n₀ ≤ a.heap.size) (hr : ∀ r, row = some r → n₀ ≤ r) : FrB n₀ S a b :=
  ⟨hg.os, hg.tape, hg.output, hg.size, fun k hk _ => hg.block k (by omega) (fun e => by have := hr k e.symm; omega)⟩
theorem FrB.cell {n₀ : Nat} {S : List Nat} {a b : World} (h : FrB n₀ S a b) {p : Addr} (hp : p.block < n₀) (hS : p.block ∉ S) : b.cell? p = a.cell? p := World.cell?_of_block (h.block p.block hp hS)
theorem FrB.frozen {n₀ : Nat} {S : List Nat} {a b : World} (h : FrB n₀ S a b) {p : Addr} (hp : p.block < n₀) (hS : p.block ∉ S) : b.frozen? p = a.frozen? p := World.frozen?_of_block (h.block p.block hp hS)

theorem frB_t {n₀ : Nat} {S : List Nat} {A B C : World} (h : FrB n₀ S A B) (k : FrB n₀ S B C) : FrB n₀ S A C := h.trans k
theorem frB_b {n₀ : Nat} {S : List Nat} {w : World} (hn : n₀ ≤ w.heap.size) (W : World) (l : Nat) (o o' : Obj) (hl : w.heap.size ≤ l) (h : W.heap[l]? = some o) (_ : o.isCells = false) (_ : o.isWalk = false) : FrB n₀ S W (W.putObj l o') :=
  FrB.grown (grownBy_putObj' W l o') (by have := lt_of_blk h; omega) (fun k e => by cases e; omega)


theorem Rd.kept {w w' : World} {size : Nat} {ao : Option Addr} {n : Nat} {xs : List Value} (h : Rd w size ao n xs) (hk : ∀ k ∈ blk ao, w'.heap[k]? = w.heap[k]?) : Rd w' size ao n xs := by
  obtain ⟨h1, h2, h3⟩ := h
  refine ⟨h1, h2, ?_⟩
  rcases h3 with h3 | ⟨g, off, ha, hg, hc⟩
  · exact .inl h3
  · subst ha
    have e := hk g (by simp [blk])
    refine .inr ⟨g, off, rfl, ?_, fun j hj => ?_⟩
    · have := Array.getElem?_eq_getElem hg
      rw [this] at e
      exact (Array.getElem?_eq_some_iff.1 e).1
    · rw [World.cell?_of_block (a := ⟨g, off + j, none⟩) e]; exact hc j hj
end Go.Proofs.Ytcgndeggemceaaa
/- Package snapshot: Equal. -/
namespace Go.Proofs.Ytcgndeggemceaaa
open Go.RowKit

theorem ne_cell (u : World) (a b c d : Int) : (binOp .neq 38 (.agg #[.int .i64 a, .int .i64 b]) (.agg #[.int .i64 c, .int .i64 d])).run Try.prog u = .ok (.bool (!((a == c) && (b == d)))) u := by
  have hf : Try.prog.underlying 38 = some (.struct (Try.prog.fieldsOf 38)) := by unfold Program.fieldsOf; rw [Try.underlying38]
  have hp : Try.prog.stoodInHeld 38 = false := by kernel_rfl
  rw [run_neq_struct, run_equalIn_struct u _ _ _ _ hf hp]
  simp only [Program.fieldsOf, Try.underlying38]
  cases h1 : (a == c) <;> cases h2 : (b == d) <;> simp [Op.eqFields, part, run_equalIn_int u _ _ _ _ _ _ Try.underlying3, h1, h2]

/-- what lies at cell i of a list of cells -/
theorem Rd.cel {w : World} {ao : Option Addr} {l : List (Int × Int)} (h : Rd w 2 ao l.length (l.flatMap clV)) {i : Nat} (hi : i < l.length) : ∃ g off, ao = some ⟨g, off, none⟩ ∧ g < w.heap.size ∧
    w.cell? ⟨g, off + i * 2, none⟩ = some (.int .i64 l[i].1) ∧ w.cell? ⟨g, off + i * 2 + 1, none⟩ = some (.int .i64 l[i].2) := by
  obtain ⟨g, off, ha, hg, hc⟩ := h.at (by omega)
  have key : ∀ j, j < 2 → w.cell? ⟨g, off + (i * 2 + j), none⟩ = (clV l[i])[j]? := fun j hj => by
    rw [hc _ (by omega), flat_get clV 2 (fun _ => rfl) l i j hi hj]
  exact ⟨g, off, ha, hg, key 0 (by omega), key 1 (by omega)⟩

set_option maxHeartbeats 2000000 in
theorem equal_any (w : World) (ao bo : Option Addr) (ca cb : Nat) (a b : List (Int × Int)) (ha : Rd w 2 ao a.length (a.flatMap clV)) (hb : Rd w 2 bo b.length (b.flatMap clV)) :
    Calls Try.prog 14 #[.slice ao a.length ca, .slice bo b.length cb] w fun e w' => e = .returned (.bool (decide (a = b))) ∧ Fr [] w w' := by
  have hla : a.length ≤ 9223372036854775807 := by have := ha.2.1; unfold maxLen at this; omega
  have hlb : b.length ≤ 9223372036854775807 := by have := hb.2.1; unfold maxLen at this; omega
  have HA := Lib.hid ha
  have HB := Lib.hid hb
  clear ha hb
  by_cases hl : a.length = b.length
  · have hne : ((a.length : Int) != (b.length : Int)) = false := by rw [hl]; simp
    have HL := Lib.hid hl
    clear hl
    go_enter Try.func14, Try.ntmps14
    go_wp2_with fail
    go_loopw [13] (fun i wr => ∃ k : Nat, k ≤ a.length ∧ i = .int .i64 k ∧ a.take k = b.take k ∧ Fr [] w wr) (fun i _ => a.length - (intOf i).toNat)
    case atStart => exact ⟨0, Nat.zero_le _, rfl, rfl, Fr.refl _ _⟩
    case round =>
      obtain ⟨k, hk, rfl, ht, hf⟩ := hrel
      have HT := Lib.hid ht
      have HF := Lib.hid hf
      by_cases hkn : k < a.length
      · have hkb : k < b.length := by have := HL.out; omega
        obtain ⟨g, off, rfl, g1, c1, c2⟩ := (HA.out.fr hf (by simp)).cel hkn
        obtain ⟨g2, off2, rfl, g3, c3, c4⟩ := (HB.out.fr hf (by simp)).cel hkb
        obtain ⟨x1, hx1⟩ : ∃ x, x = a[k].1 := ⟨_, rfl⟩
        obtain ⟨x2, hx2⟩ : ∃ x, x = a[k].2 := ⟨_, rfl⟩
        obtain ⟨y1, hy1⟩ : ∃ x, x = b[k].1 := ⟨_, rfl⟩
        obtain ⟨y2, hy2⟩ : ∃ x, x = b[k].2 := ⟨_, rfl⟩
        rw [← hx1] at c1
        rw [← hx2] at c2
        rw [← hy1] at c3
        rw [← hy2] at c4
        have HX1 := Lib.hid hx1
        have HX2 := Lib.hid hx2
        have HY1 := Lib.hid hy1
        have HY2 := Lib.hid hy2
        have hki : (k : Int) < (a.length : Int) := by omega
        have hkj : (k : Int) < (b.length : Int) := by omega
        clear ht hf hx1 hx2 hy1 hy2
        by_cases hxy : x1 = y1 ∧ x2 = y2
        · have hb : ∀ u, (binOp .neq 38 (.agg #[.int .i64 x1, .int .i64 x2]) (.agg #[.int .i64 y1, .int .i64 y2])).run Try.prog u = .ok (.bool false) u := fun u => by rw [ne_cell]; simp [hxy.1, hxy.2]
          have HXY := Lib.hid hxy
          clear hxy
          go_wp2_with fail
          go_quiet (fail)
          go_wp2_with fail
          go_roundw
          case rel =>
            have e : a[k] = b[k] := Prod.ext (by rw [← HX1.out, ← HY1.out]; exact HXY.out.1) (by rw [← HX2.out, ← HY2.out]; exact HXY.out.2)
            exact ⟨k + 1, by omega, by go_num, by rw [List.take_succ_eq_append_getElem hkn, List.take_succ_eq_append_getElem hkb, HT.out, e], HF.out.trans ((Fr.refl [] _).drewN _) (by simp [Ext])⟩
          case measure => simp [intOf]; omega
        · have hb : ∀ u, (binOp .neq 38 (.agg #[.int .i64 x1, .int .i64 x2]) (.agg #[.int .i64 y1, .int .i64 y2])).run Try.prog u = .ok (.bool true) u := fun u => by
            rw [ne_cell]
            have : ((x1 == y1) && (x2 == y2)) = false := by
              rw [Bool.eq_false_iff]
              intro h
              simp only [Bool.and_eq_true, beq_iff_eq] at h
              exact hxy h
            rw [this]; rfl
          have HXY := Lib.hid hxy
          clear hxy
          go_wp2_with fail
          go_quiet (fail)
          go_wp2_with fail
          go_ret
          exact ⟨ret_bool (by
            symm
            refine decide_eq_false fun h => HXY.out ?_
            rw [HX1.out, HX2.out, HY1.out, HY2.out]
            simp only [h]
            constructor <;> trivial), HF.out.trans ((Fr.refl [] _).drewN _) (by simp [Ext])⟩
      · have hke : k = a.length := by omega
        have hab : a = b := by
          have := HT.out
          rw [hke, List.take_of_length_le (Nat.le_refl _), HL.out, List.take_of_length_le (Nat.le_refl _)] at this
          exact this
        have HAB := Lib.hid hab
        clear ht hf hke hab
        go_wp2_with fail
        go_ret
        exact ⟨ret_bool (decide_eq_true HAB.out).symm, HF.out⟩
  · have hne : ((a.length : Int) != (b.length : Int)) = true := bne_iff_ne.2 (by omega)
    have HL := Lib.hid hl
    clear hl
    go_enter Try.func14, Try.ntmps14
    go_wp2_with fail
    go_ret
    exact ⟨ret_bool (decide_eq_false fun h => HL.out (by rw [h])).symm, Fr.refl _ _⟩
end Go.Proofs.Ytcgndeggemceaaa
/- Package snapshot: merge's iterator. -/
namespace Go.Proofs.Ytcgndeggemceaaa
open Go.RowKit Go.Shelf

attribute [local go_sem] Oper.semAt_some

def pV (p : Pr) : Value := .agg #[.int .i64 p.bi, .int .i64 p.bv, .int .i64 p.ai, .int .i64 p.av, .bool p.ib, .bool p.ia]
def pC (p : Pr) : Obj := .cells #[.int .i64 p.bi, .int .i64 p.bv, .int .i64 p.ai, .int .i64 p.av, .bool p.ib, .bool p.ia] 66
def encP (t : List Pr) (i : Fin t.length) : Array Value := #[pV t[i]]
def fw (n k : Nat) : List (Fin n) := (List.finRange n).take k
theorem fw_succ (n k : Nat) (h : k < n) : fw n (k + 1) = fw n k ++ [⟨k, h⟩] := by
  unfold fw
  rw [List.take_succ_eq_append_getElem (by simpa using h)]
  simp
theorem fw_length (n k : Nat) (h : k ≤ n) : (fw n k).length = k := by simp [fw, h]
theorem fw_all (n k : Nat) (h : n ≤ k) : fw n k = fw n n := by
  unfold fw
  rw [List.take_of_length_le (by simpa using h), List.take_of_length_le (by simp)]
/-- one step of the merge -/
theorem mg_step {a b : List (Int × Int)} {i j k : Nat} {p : Pr} {r : List Pr} (h : (mg a b).drop k = mg (a.drop i) (b.drop j)) (hp : mg (a.drop i) (b.drop j) = p :: r) : ∃ hk : k < (mg a b).length, (mg a b)[k] = p ∧ (mg a b).drop (k + 1) = r := by
  have e : (mg a b).drop k = p :: r := h.trans hp
  have hk : k < (mg a b).length := by
    rcases Nat.lt_or_ge k (mg a b).length with q | q
    · exact q
    · rw [List.drop_of_length_le q] at e; cases e
  refine ⟨hk, ?_, ?_⟩
  · rw [List.drop_eq_getElem_cons hk] at e; injection e
  · rw [List.drop_eq_getElem_cons hk] at e; injection e
theorem Fr.grown0 {w w' : World} (h : Fr [] w w') : w.grownBy w' none := ⟨h.os, h.tape, h.output, h.size, fun k hk _ => h.block k hk (by simp)⟩

section
variable {P : Program} {ops : Array Oper} {W : World}
theorem still_of_quiet {o : Oper} {a : Act} {K : Act → Prop} (h : o.quiet P a (fun u => u = W) K) : o.still P a W K := by
  obtain ⟨v, h1, h2⟩ := h
  have h3 := h1 W rfl
  unfold Oper.quietAt at h3
  unfold Oper.still
  generalize (execOp a.eval o).run P W = r at *
  cases r with
  | ok n w' =>
    cases n <;> simp only [Oper.quietUpon] at h3 <;> simp only [Oper.stillUpon]
    case value u => obtain ⟨rfl, rfl⟩ := h3; exact ⟨rfl, h2⟩
    case skip => obtain ⟨rfl, rfl⟩ := h3; exact ⟨rfl, h2⟩
    case enter f args => obtain ⟨rfl, hc⟩ := h3; exact ⟨rfl, v, hc, h2⟩
  | halt x w' => simp only [Oper.quietUpon] at h3
theorem wpStill_of_quiet {Q : Act → Prop} : ∀ (l : List Oper) (a : Act), wpQuiet P ops (fun u => u = W) Q l a → wpStill P ops W Q l a
  | [], a, h => h
  | o :: rest, a, h => by
    unfold wpQuiet at h
    unfold wpStill
    split
    · rename_i hw
      rw [if_pos hw] at h
      exact still_of_quiet (Oper.quiet_mono (fun a' ha => wpStill_of_quiet rest a' ha) h)
    · rename_i hw
      rw [if_neg hw] at h
      exact wpStill_of_quiet rest _ h
end

attribute [local irreducible] wpStill
set_option maxRecDepth 100000 in
set_option maxHeartbeats 8000000 in
theorem merge1_in (n : Nat) (hn : 1 ≤ n) (l B1 B2 n₀ : Nat) (S : List Nat) (ao bo : Option Addr) (ca cb : Nat) (a b : List (Int × Int))
    (W : World) (J Jx : List (Fin (mg a b).length) → World → Prop) (hab : AbidesFrom W.heap.size J)
    (hY : ∀ pre x W, J pre W → pre.length < (mg a b).length → YieldAt Fence.wide (n - 1) Try.prog l (encP (mg a b) x) W fun e W' =>
      (e = .returned (.bool true) ∧ J (pre ++ [x]) W' ∧ FrB n₀ S W W') ∨ (e = .returned (.bool false) ∧ Jx (pre ++ [x]) W'))
    (hB1 : W.cell? ⟨B1, 0, none⟩ = some (.slice ao a.length ca)) (hB2 : W.cell? ⟨B2, 0, none⟩ = some (.slice bo b.length cb)) (hn₀ : n₀ ≤ W.heap.size) (h1 : B1 < n₀ ∧ B1 ∉ S) (h2 : B2 < n₀ ∧ B2 ∉ S)
    (ha : Rd W 2 ao a.length (a.flatMap clV)) (hb : Rd W 2 bo b.length (b.flatMap clV)) (ha1 : ∀ k ∈ blk ao, k < n₀ ∧ k ∉ S) (hb1 : ∀ k ∈ blk bo, k < n₀ ∧ k ∉ S) (h0 : J [] W) :
    CallsIn Fence.wide n Try.prog 51 #[.func (.yield l) #[] #[], .pointer (some ⟨B1, 0, none⟩), .pointer (some ⟨B2, 0, none⟩)] W fun e W' => (∃ v, e = .returned v) ∧
      ((∃ ys, ys = fw (mg a b).length (mg a b).length ∧ J ys W') ∨ (∃ pre, True ∧ Jx pre W')) := by
  have hla : a.length ≤ 9223372036854775807 := by have := ha.2.1; unfold maxLen at *; omega
  have hlb : b.length ≤ 9223372036854775807 := by have := hb.2.1; unfold maxLen at *; omega
  have HAB := Lib.hid hab
  have HY := Lib.hid hY
  have HAR := Lib.hid (fun (u : World) (hu : FrB n₀ S W u) => (ha.kept fun k hk => hu.block k (ha1 k hk).1 (ha1 k hk).2 : Rd u 2 ao a.length (a.flatMap clV)))
  have HBR := Lib.hid (fun (u : World) (hu : FrB n₀ S W u) => (hb.kept fun k hk => hu.block k (hb1 k hk).1 (hb1 k hk).2 : Rd u 2 bo b.length (b.flatMap clV)))
  have HC1 := Lib.hid (fun (u : World) (hu : FrB n₀ S W u) => (hu.cell (p := ⟨B1, 0, none⟩) h1.1 h1.2).trans hB1)
  have HC2 := Lib.hid (fun (u : World) (hu : FrB n₀ S W u) => (hu.cell (p := ⟨B2, 0, none⟩) h2.1 h2.2).trans hB2)
  have HJ0 := Lib.hid h0
  have HL1 := Lib.hid h1.1
  have HL2 := Lib.hid h2.1
  clear hab hY ha hb ha1 hb1 h1 h2 h0
  refine callsIn_of_wp Try.func51 rfl trivial ?_ rfl
  simp only [Try.ntmps51, List.size_toArray, List.length_cons, List.length_nil, Nat.reduceAdd, Nat.reduceSub, Array.replicate_succ, Array.replicate_zero, List.push_toArray, List.append_toArray, List.nil_append, List.cons_append]
  gi_wp2
  gi_loopw [4, 5] (fun iv jv wr => ∃ i j k : Nat, i ≤ a.length ∧ j ≤ b.length ∧ iv = .int .i64 i ∧ jv = .int .i64 j ∧ (mg a b).drop k = mg (a.drop i) (b.drop j) ∧ J (fw (mg a b).length k) wr ∧ FrB n₀ S W wr ∧ k ≤ i + j)
    (fun iv jv _ => a.length + b.length - (intOf iv).toNat - (intOf jv).toNat)
  case atStart => exact ⟨0, 0, 0, by omega, by omega, rfl, rfl, rfl, HJ0.out, FrB.refl _ _ _, by omega⟩
  case round =>
    obtain ⟨i, j, k, hi, hj, rfl, rfl, hd, hJ, hfr, hk⟩ := hrel
    have c1 := HC1.out _ hfr
    have c2 := HC2.out _ hfr
    have hl1 : B1 < wr.heap.size := by have := hfr.size; have := HL1.out; omega
    have hl2 : B2 < wr.heap.size := by have := hfr.size; have := HL2.out; omega
    have HJ := Lib.hid hJ
    have HFR := Lib.hid hfr
    have HD := Lib.hid hd
    clear hJ hfr hd
    by_cases hil : i < a.length
    · obtain ⟨g, off, rfl, hg, ca0, ca1⟩ := (HAR.out _ HFR.out).cel hil
      obtain ⟨x, hx⟩ : ∃ x, x = a[i] := ⟨_, rfl⟩
      rw [← hx] at ca0 ca1
      have HX := Lib.hid hx
      clear hx
      have hine : ((i : Int) == (a.length : Int)) = false := beq_eq_false_iff_ne.2 (by omega)
      by_cases hjl : j < b.length
      · obtain ⟨g2, off2, rfl, hg2, cb0, cb1⟩ := (HBR.out _ HFR.out).cel hjl
        obtain ⟨y, hyy⟩ : ∃ y, y = b[j] := ⟨_, rfl⟩
        rw [← hyy] at cb0 cb1
        have HYY := Lib.hid hyy
        clear hyy
        have hjne : ((j : Int) == (b.length : Int)) = false := beq_eq_false_iff_ne.2 (by omega)
        by_cases hlt : x.1 < y.1
        · have hle : x.1 ≤ y.1 := by omega
          have hnle : ¬ y.1 ≤ x.1 := by omega
          have hd1 : decide (x.1 ≤ y.1) = true := decide_eq_true hle
          have hd2 : decide (y.1 ≤ x.1) = false := decide_eq_false hnle
          clear hlt hle hnle
          have HLT := Lib.hid (of_decide_eq_false hd2)
          gi_wp2
          refine wpIn_wide.2 ?_
          refine wp_still_tail 24 (by kernel_rfl) (by kernel_rfl) ?_
          simp only [List.take_succ_cons, List.take_zero, List.drop_succ_cons, List.drop_zero]
          repeat still_step
          refine wpStill_nil ?_
          go_wp2
          gi_wp2
          refine wpIn_wide.2 ?_
          refine wp_still_tail 24 (by kernel_rfl) (by kernel_rfl) ?_
          simp only [List.take_succ_cons, List.take_zero, List.drop_succ_cons, List.drop_zero]
          repeat still_step
          refine wpStill_nil ?_
          go_wp2
          gi_upto_region 11 with fail
          obtain ⟨hkl, hpk, hdk⟩ := mg_step (p := prB x) (r := mg (a.drop (i + 1)) (b.drop (j))) HD.out (by
            rw [List.drop_eq_getElem_cons hil, List.drop_eq_getElem_cons hjl, ← HX.out, ← HYY.out, mg_lt (by have := HLT.out; omega)])
          have hbk : ((wr.alloc (pC (prB x))).drew.drew).heap[wr.heap.size]? = some (pC (prB x)) := alloc_new wr (pC (prB x))
          have hfy : Fr [] wr ((wr.alloc (pC (prB x))).drew.drew) := (((Fr.refl _ _).alloc _).drew).drew
          unfold pC prB at hbk hfy
          simp only at hbk hfy
          obtain ⟨Wy, hWy⟩ : ∃ Wy, Wy = (wr.alloc (.cells #[.int .i64 x.1, .int .i64 x.2, .int .i64 0, .int .i64 0, .bool true, .bool false] 66)).drew.drew := ⟨_, rfl⟩
          rw [← hWy] at hbk hfy ⊢
          clear hWy
          have z0 := cell_blk hbk 0
          have z1 := cell_blk hbk 1
          have z2 := cell_blk hbk 2
          have z3 := cell_blk hbk 3
          have z4 := cell_blk hbk 4
          have z5 := cell_blk hbk 5
          simp at z0 z1 z2 z3 z4 z5
          obtain ⟨fn, tmps, assign, body, hy, hR⟩ := HY.out _ ⟨k, hkl⟩ Wy (HAB.out _ _ _ none HJ.out hfy.grown0 (fun r e => by cases e)) (by rw [fw_length _ _ (by omega)]; exact hkl)
          simp only [encP, Fin.getElem_fin] at hy
          rw [hpk] at hy
          simp only [pV, prB] at hy
          have HR := Lib.hid hR
          have HFY := Lib.hid hfy
          have HDK := Lib.hid hdk
          clear hR hfy hdk hbk hpk
          gi_wp2
          refine HR.out.mono ?_
          rintro e W3 (⟨rfl, hJ3, hk3⟩ | ⟨rfl, hJx3⟩)
          · have HJ3 := Lib.hid hJ3
            have HK3 := Lib.hid hk3
            clear hJ3 hk3
            gi_wp2
            go_roundw
            case rel => exact ⟨i + 1, j, k + 1, by omega, by omega, by go_num, by go_num, HDK.out, by rw [fw_succ _ _ hkl]; exact HJ3.out, (HFR.out.trans (FrB.ofFr (HFY.out.mono (by simp)) (by have := HFR.out.size; omega))).trans HK3.out, by omega⟩
            case measure => simp [intOf]; omega
          · gi_wp2
            refine bodyPost_ret (results_none rfl _ _ _) rfl ?_
            exact ⟨⟨_, rfl⟩, .inr ⟨_, trivial, hJx3⟩⟩
        · by_cases hgt : y.1 < x.1
          · have hle : y.1 ≤ x.1 := by omega
            have hnle : ¬ x.1 ≤ y.1 := by omega
            have hd1 : decide (y.1 ≤ x.1) = true := decide_eq_true hle
            have hd2 : decide (x.1 ≤ y.1) = false := decide_eq_false hnle
            clear hgt hle hnle hlt
            have HLT := Lib.hid (of_decide_eq_false hd2)
            gi_wp2
            refine wpIn_wide.2 ?_
            refine wp_still_tail 24 (by kernel_rfl) (by kernel_rfl) ?_
            simp only [List.take_succ_cons, List.take_zero, List.drop_succ_cons, List.drop_zero]
            repeat still_step
            refine wpStill_nil ?_
            go_wp2
            gi_wp2
            refine wpIn_wide.2 ?_
            refine wp_still_tail 24 (by kernel_rfl) (by kernel_rfl) ?_
            simp only [List.take_succ_cons, List.take_zero, List.drop_succ_cons, List.drop_zero]
            repeat still_step
            refine wpStill_nil ?_
            go_wp2
            gi_upto_region 11 with fail
            obtain ⟨hkl, hpk, hdk⟩ := mg_step (p := prA y) (r := mg (a.drop (i)) (b.drop (j + 1))) HD.out (by
              rw [List.drop_eq_getElem_cons hil, List.drop_eq_getElem_cons hjl, ← HX.out, ← HYY.out, mg_gt (by have := HLT.out; omega)])
            have hbk : ((wr.alloc (pC (prA y))).drew.drew).heap[wr.heap.size]? = some (pC (prA y)) := alloc_new wr (pC (prA y))
            have hfy : Fr [] wr ((wr.alloc (pC (prA y))).drew.drew) := (((Fr.refl _ _).alloc _).drew).drew
            unfold pC prA at hbk hfy
            simp only at hbk hfy
            obtain ⟨Wy, hWy⟩ : ∃ Wy, Wy = (wr.alloc (.cells #[.int .i64 0, .int .i64 0, .int .i64 y.1, .int .i64 y.2, .bool false, .bool true] 66)).drew.drew := ⟨_, rfl⟩
            rw [← hWy] at hbk hfy ⊢
            clear hWy
            have z0 := cell_blk hbk 0
            have z1 := cell_blk hbk 1
            have z2 := cell_blk hbk 2
            have z3 := cell_blk hbk 3
            have z4 := cell_blk hbk 4
            have z5 := cell_blk hbk 5
            simp at z0 z1 z2 z3 z4 z5
            obtain ⟨fn, tmps, assign, body, hy, hR⟩ := HY.out _ ⟨k, hkl⟩ Wy (HAB.out _ _ _ none HJ.out hfy.grown0 (fun r e => by cases e)) (by rw [fw_length _ _ (by omega)]; exact hkl)
            simp only [encP, Fin.getElem_fin] at hy
            rw [hpk] at hy
            simp only [pV, prA] at hy
            have HR := Lib.hid hR
            have HFY := Lib.hid hfy
            have HDK := Lib.hid hdk
            clear hR hfy hdk hbk hpk
            gi_wp2
            refine HR.out.mono ?_
            rintro e W3 (⟨rfl, hJ3, hk3⟩ | ⟨rfl, hJx3⟩)
            · have HJ3 := Lib.hid hJ3
              have HK3 := Lib.hid hk3
              clear hJ3 hk3
              gi_wp2
              go_roundw
              case rel => exact ⟨i, j + 1, k + 1, by omega, by omega, by go_num, by go_num, HDK.out, by rw [fw_succ _ _ hkl]; exact HJ3.out, (HFR.out.trans (FrB.ofFr (HFY.out.mono (by simp)) (by have := HFR.out.size; omega))).trans HK3.out, by omega⟩
              case measure => simp [intOf]; omega
            · gi_wp2
              refine bodyPost_ret (results_none rfl _ _ _) rfl ?_
              exact ⟨⟨_, rfl⟩, .inr ⟨_, trivial, hJx3⟩⟩
          · have hle : x.1 ≤ y.1 := by omega
            have hle2 : y.1 ≤ x.1 := by omega
            gi_wp2
            refine wpIn_wide.2 ?_
            refine wp_still_tail 24 (by kernel_rfl) (by kernel_rfl) ?_
            simp only [List.take_succ_cons, List.take_zero, List.drop_succ_cons, List.drop_zero]
            repeat still_step
            refine wpStill_nil ?_
            go_wp2
            gi_wp2
            refine wpIn_wide.2 ?_
            refine wp_still_tail 24 (by kernel_rfl) (by kernel_rfl) ?_
            simp only [List.take_succ_cons, List.take_zero, List.drop_succ_cons, List.drop_zero]
            repeat still_step
            refine wpStill_nil ?_
            go_wp2
            gi_upto_region 11 with fail
            obtain ⟨hkl, hpk, hdk⟩ := mg_step (p := prX x y) (r := mg (a.drop (i + 1)) (b.drop (j + 1))) HD.out (by
              rw [List.drop_eq_getElem_cons hil, List.drop_eq_getElem_cons hjl, ← HX.out, ← HYY.out, mg_eq (by omega)])
            have hbk : ((wr.alloc (pC (prX x y))).drew.drew).heap[wr.heap.size]? = some (pC (prX x y)) := alloc_new wr (pC (prX x y))
            have hfy : Fr [] wr ((wr.alloc (pC (prX x y))).drew.drew) := (((Fr.refl _ _).alloc _).drew).drew
            unfold pC prX at hbk hfy
            simp only at hbk hfy
            obtain ⟨Wy, hWy⟩ : ∃ Wy, Wy = (wr.alloc (.cells #[.int .i64 x.1, .int .i64 x.2, .int .i64 y.1, .int .i64 y.2, .bool true, .bool true] 66)).drew.drew := ⟨_, rfl⟩
            rw [← hWy] at hbk hfy ⊢
            clear hWy
            have z0 := cell_blk hbk 0
            have z1 := cell_blk hbk 1
            have z2 := cell_blk hbk 2
            have z3 := cell_blk hbk 3
            have z4 := cell_blk hbk 4
            have z5 := cell_blk hbk 5
            simp at z0 z1 z2 z3 z4 z5
            obtain ⟨fn, tmps, assign, body, hy, hR⟩ := HY.out _ ⟨k, hkl⟩ Wy (HAB.out _ _ _ none HJ.out hfy.grown0 (fun r e => by cases e)) (by rw [fw_length _ _ (by omega)]; exact hkl)
            simp only [encP, Fin.getElem_fin] at hy
            rw [hpk] at hy
            simp only [pV, prX] at hy
            have HR := Lib.hid hR
            have HFY := Lib.hid hfy
            have HDK := Lib.hid hdk
            clear hR hfy hdk hbk hpk
            gi_wp2
            refine HR.out.mono ?_
            rintro e W3 (⟨rfl, hJ3, hk3⟩ | ⟨rfl, hJx3⟩)
            · have HJ3 := Lib.hid hJ3
              have HK3 := Lib.hid hk3
              clear hJ3 hk3
              gi_wp2
              go_roundw
              case rel => exact ⟨i + 1, j + 1, k + 1, by omega, by omega, by go_num, by go_num, HDK.out, by rw [fw_succ _ _ hkl]; exact HJ3.out, (HFR.out.trans (FrB.ofFr (HFY.out.mono (by simp)) (by have := HFR.out.size; omega))).trans HK3.out, by omega⟩
              case measure => simp [intOf]; omega
            · gi_wp2
              refine bodyPost_ret (results_none rfl _ _ _) rfl ?_
              exact ⟨⟨_, rfl⟩, .inr ⟨_, trivial, hJx3⟩⟩
      · have hje : ((j : Int) == (b.length : Int)) = true := beq_iff_eq.2 (by omega)
        gi_wp2
        refine wpIn_wide.2 ?_
        refine wp_still_tail 24 (by kernel_rfl) (by kernel_rfl) ?_
        simp only [List.take_succ_cons, List.take_zero, List.drop_succ_cons, List.drop_zero]
        repeat still_step
        refine wpStill_nil ?_
        go_wp2
        gi_wp2
        refine wpIn_wide.2 ?_
        refine wp_still_tail 24 (by kernel_rfl) (by kernel_rfl) ?_
        simp only [List.take_succ_cons, List.take_zero, List.drop_succ_cons, List.drop_zero]
        repeat still_step
        refine wpStill_nil ?_
        go_wp2
        gi_upto_region 11 with fail
        obtain ⟨hkl, hpk, hdk⟩ := mg_step (p := prB x) (r := mg (a.drop (i + 1)) (b.drop (j))) HD.out (by
          rw [List.drop_of_length_le (show b.length ≤ j by omega), List.drop_eq_getElem_cons hil, ← HX.out, mg_nil', mg_nil', List.map_cons])
        have hbk : ((wr.alloc (pC (prB x))).drew.drew).heap[wr.heap.size]? = some (pC (prB x)) := alloc_new wr (pC (prB x))
        have hfy : Fr [] wr ((wr.alloc (pC (prB x))).drew.drew) := (((Fr.refl _ _).alloc _).drew).drew
        unfold pC prB at hbk hfy
        simp only at hbk hfy
        obtain ⟨Wy, hWy⟩ : ∃ Wy, Wy = (wr.alloc (.cells #[.int .i64 x.1, .int .i64 x.2, .int .i64 0, .int .i64 0, .bool true, .bool false] 66)).drew.drew := ⟨_, rfl⟩
        rw [← hWy] at hbk hfy ⊢
        clear hWy
        have z0 := cell_blk hbk 0
        have z1 := cell_blk hbk 1
        have z2 := cell_blk hbk 2
        have z3 := cell_blk hbk 3
        have z4 := cell_blk hbk 4
        have z5 := cell_blk hbk 5
        simp at z0 z1 z2 z3 z4 z5
        obtain ⟨fn, tmps, assign, body, hy, hR⟩ := HY.out _ ⟨k, hkl⟩ Wy (HAB.out _ _ _ none HJ.out hfy.grown0 (fun r e => by cases e)) (by rw [fw_length _ _ (by omega)]; exact hkl)
        simp only [encP, Fin.getElem_fin] at hy
        rw [hpk] at hy
        simp only [pV, prB] at hy
        have HR := Lib.hid hR
        have HFY := Lib.hid hfy
        have HDK := Lib.hid hdk
        clear hR hfy hdk hbk hpk
        gi_wp2
        refine HR.out.mono ?_
        rintro e W3 (⟨rfl, hJ3, hk3⟩ | ⟨rfl, hJx3⟩)
        · have HJ3 := Lib.hid hJ3
          have HK3 := Lib.hid hk3
          clear hJ3 hk3
          gi_wp2
          go_roundw
          case rel => exact ⟨i + 1, j, k + 1, by omega, by omega, by go_num, by go_num, HDK.out, by rw [fw_succ _ _ hkl]; exact HJ3.out, (HFR.out.trans (FrB.ofFr (HFY.out.mono (by simp)) (by have := HFR.out.size; omega))).trans HK3.out, by omega⟩
          case measure => simp [intOf]; omega
        · gi_wp2
          refine bodyPost_ret (results_none rfl _ _ _) rfl ?_
          exact ⟨⟨_, rfl⟩, .inr ⟨_, trivial, hJx3⟩⟩
    · have hie : ((i : Int) == (a.length : Int)) = true := beq_iff_eq.2 (by omega)
      by_cases hjl : j < b.length
      · obtain ⟨g2, off2, rfl, hg2, cb0, cb1⟩ := (HBR.out _ HFR.out).cel hjl
        obtain ⟨y, hyy⟩ : ∃ y, y = b[j] := ⟨_, rfl⟩
        rw [← hyy] at cb0 cb1
        have HYY := Lib.hid hyy
        clear hyy
        gi_wp2
        refine wpIn_wide.2 ?_
        refine wp_still_tail 24 (by kernel_rfl) (by kernel_rfl) ?_
        simp only [List.take_succ_cons, List.take_zero, List.drop_succ_cons, List.drop_zero]
        repeat still_step
        refine wpStill_nil ?_
        go_wp2
        gi_wp2
        refine wpIn_wide.2 ?_
        refine wp_still_tail 24 (by kernel_rfl) (by kernel_rfl) ?_
        simp only [List.take_succ_cons, List.take_zero, List.drop_succ_cons, List.drop_zero]
        repeat still_step
        refine wpStill_nil ?_
        go_wp2
        gi_upto_region 11 with fail
        obtain ⟨hkl, hpk, hdk⟩ := mg_step (p := prA y) (r := mg (a.drop (i)) (b.drop (j + 1))) HD.out (by
          rw [List.drop_of_length_le (show a.length ≤ i by omega), List.drop_eq_getElem_cons hjl, ← HYY.out, mg_nil, mg_nil, List.map_cons])
        have hbk : ((wr.alloc (pC (prA y))).drew.drew).heap[wr.heap.size]? = some (pC (prA y)) := alloc_new wr (pC (prA y))
        have hfy : Fr [] wr ((wr.alloc (pC (prA y))).drew.drew) := (((Fr.refl _ _).alloc _).drew).drew
        unfold pC prA at hbk hfy
        simp only at hbk hfy
        obtain ⟨Wy, hWy⟩ : ∃ Wy, Wy = (wr.alloc (.cells #[.int .i64 0, .int .i64 0, .int .i64 y.1, .int .i64 y.2, .bool false, .bool true] 66)).drew.drew := ⟨_, rfl⟩
        rw [← hWy] at hbk hfy ⊢
        clear hWy
        have z0 := cell_blk hbk 0
        have z1 := cell_blk hbk 1
        have z2 := cell_blk hbk 2
        have z3 := cell_blk hbk 3
        have z4 := cell_blk hbk 4
        have z5 := cell_blk hbk 5
        simp at z0 z1 z2 z3 z4 z5
        obtain ⟨fn, tmps, assign, body, hy, hR⟩ := HY.out _ ⟨k, hkl⟩ Wy (HAB.out _ _ _ none HJ.out hfy.grown0 (fun r e => by cases e)) (by rw [fw_length _ _ (by omega)]; exact hkl)
        simp only [encP, Fin.getElem_fin] at hy
        rw [hpk] at hy
        simp only [pV, prA] at hy
        have HR := Lib.hid hR
        have HFY := Lib.hid hfy
        have HDK := Lib.hid hdk
        clear hR hfy hdk hbk hpk
        gi_wp2
        refine HR.out.mono ?_
        rintro e W3 (⟨rfl, hJ3, hk3⟩ | ⟨rfl, hJx3⟩)
        · have HJ3 := Lib.hid hJ3
          have HK3 := Lib.hid hk3
          clear hJ3 hk3
          gi_wp2
          go_roundw
          case rel => exact ⟨i, j + 1, k + 1, by omega, by omega, by go_num, by go_num, HDK.out, by rw [fw_succ _ _ hkl]; exact HJ3.out, (HFR.out.trans (FrB.ofFr (HFY.out.mono (by simp)) (by have := HFR.out.size; omega))).trans HK3.out, by omega⟩
          case measure => simp [intOf]; omega
        · gi_wp2
          refine bodyPost_ret (results_none rfl _ _ _) rfl ?_
          exact ⟨⟨_, rfl⟩, .inr ⟨_, trivial, hJx3⟩⟩
      · have hend : (mg a b).length ≤ k := by
          have h := HD.out
          rw [List.drop_of_length_le (show a.length ≤ i by omega), List.drop_of_length_le (show b.length ≤ j by omega), mg_nil, List.map_nil] at h
          exact List.drop_eq_nil_iff.1 h
        have HJE := Lib.hid (by rw [← fw_all _ _ hend]; exact HJ.out : J (fw (mg a b).length (mg a b).length) wr)
        clear hend
        gi_wp2
        go_end0
        exact ⟨⟨_, rfl⟩, .inl ⟨_, rfl, HJE.out⟩⟩
end Go.Proofs.Ytcgndeggemceaaa
