/- Chg28, ChgW28, Round, FrB, Flat, Eq28 (merged by merge.py). -/
import Derived.Test.YtodfeaipoagphaaZ302
import Derived.Deep.DeepCutAuto
import Derived.Laws.StructEq
import Derived.Carry
import Derived.Deep.QuietTactic
import Derived.BigQuiet
import Derived.StillTailTactics
import Derived.OrdersIn
import Derived.RangeFuncCalls
import Derived.Test.YtodfeaipoagphaaZ300
import Derived.RangeFuncNested
import Derived.RangeFuncBox
import Derived.Shelf.Abstract
/- Package snapshot: the decoder: changed. -/
namespace Go.Proofs.Ytodfeaipoagphaa
open Go.RowKit Go.Maps

def clV (x : Int × Int) : List Value := [.int .i64 x.1, .int .i64 x.2]
theorem infoCell : (Try.prog.info? 48).map (fun i => (i.zero, i.size, i.bytes)) = some (some (.agg #[.int .i64 0, .int .i64 0]), 2, 16) := by kernel_rfl
theorem eq_cell (u : World) (a b c d : Int) : (binOp .eql 48 (.agg #[.int .i64 a, .int .i64 b]) (.agg #[.int .i64 c, .int .i64 d])).run Try.prog u = .ok (.bool ((a == c) && (b == d))) u := by
  have hf : Try.prog.underlying 48 = some (.struct (Try.prog.fieldsOf 48)) := by unfold Program.fieldsOf; rw [Try.underlying48]
  have hp : Try.prog.stoodInHeld 48 = false := by kernel_rfl
  rw [run_eql_struct, run_equalIn_struct u _ _ _ _ hf hp]
  simp only [Program.fieldsOf, Try.underlying48]
  cases h1 : (a == c) <;> cases h2 : (b == d) <;> simp [Op.eqFields, part, run_equalIn_int u _ _ _ _ _ _ Try.underlying3, h1, h2]

def preC (C : List (Int × Int)) : Rdr (List (Int × Int)) → Rdr (List (Int × Int))
  | .bad e => .bad e
  | .ok l r => .ok (C ++ l) r
def chgR (a : List (Int × Int)) (gone : List Int) (rest : List Nat) : Rdr (List (Int × Int)) := match readV rest with
  | .bad e => .bad e
  | .ok n r => chgQ a gone n (-1) r
theorem preC_nil (x : Rdr (List (Int × Int))) : preC [] x = x := by cases x <;> rfl
theorem okE_ne {e : Nat} (h : e ≠ 0) (b : Bool) : okE b e = e := by unfold okE; split; rfl; exact failE_ne h
theorem numE_ne {e : Nat} (h : e ≠ 0) (r : List Nat) : numE r e = e := by unfold numE; rw [if_neg h]
theorem ixE_ne {e : Nat} (h : e ≠ 0) (prev : Int) (g : Nat) : ixE prev g e = e := by
  unfold ixE
  cases idxN prev g with
  | none => exact failE_ne h
  | some k => rfl
/-- the errors of a round: behind the index, behind the look into gone, behind the number, at the end -/
def ce1 (prev : Int) (r : List Nat) : Nat := ixE prev (numN r 0) (numE r 0)
def ck (prev : Int) (r : List Nat) : Int := ixV prev (numN r 0)
def ce2 (G : List Int) (prev : Int) (r : List Nat) : Nat := okE (!inL G (ck prev r)) (ce1 prev r)
def cz (G : List Int) (prev : Int) (r : List Nat) : Nat := numN (numR r 0) (ce2 G prev r)
def cr (G : List Int) (prev : Int) (r : List Nat) : List Nat := numR (numR r 0) (ce2 G prev r)
def ce3 (G : List Int) (prev : Int) (r : List Nat) : Nat := numE (numR r 0) (ce2 G prev r)
def cv (a : List (Int × Int)) (G : List Int) (prev : Int) (r : List Nat) : Int := newV a (ck prev r) (cz G prev r)
def ce4 (a : List (Int × Int)) (G : List Int) (prev : Int) (r : List Nat) : Nat := okE (!stays a (ck prev r) (cv a G prev r)) (ce3 G prev r)
theorem chg_step (a : List (Int × Int)) (G : List Int) (n : Nat) (prev : Int) (rest : List Nat) (C : List (Int × Int)) (R : Rdr (List (Int × Int))) (h : preC C (chgQ a G (n + 1) prev rest) = R) :
    (ce4 a G prev rest = 0 ∧ preC (C ++ [(ck prev rest, cv a G prev rest)]) (chgQ a G n (ck prev rest) (cr G prev rest)) = R) ∨
    (ce4 a G prev rest ≠ 0 ∧ R = .bad (ce4 a G prev rest)) := by
  rw [chgQ] at h
  cases hv : readV rest with
  | bad e =>
    rw [hv] at h
    have he : e ≠ 0 := by have := readV_bad hv; omega
    have e1 : numE rest 0 = e := by unfold numE; rw [if_pos rfl, hv]; rfl
    have e2 : ce1 prev rest = e := by unfold ce1; rw [e1, ixE_ne he]
    have e3 : ce2 G prev rest = e := by unfold ce2; rw [e2, okE_ne he]
    have e4 : ce3 G prev rest = e := by unfold ce3; rw [e3, numE_ne he]
    have e5 : ce4 a G prev rest = e := by unfold ce4; rw [e4, okE_ne he]
    rw [e5]
    exact .inr ⟨he, h.symm⟩
  | ok g r =>
    rw [hv] at h
    simp only at h
    have e1 : numE rest 0 = 0 := by unfold numE; rw [if_pos rfl, hv]; rfl
    have e2 : numN rest 0 = g := by unfold numN; rw [if_pos rfl, hv]; rfl
    have e3 : numR rest 0 = r := by unfold numR; rw [if_pos rfl, hv]; rfl
    have n8 : (8 : Nat) ≠ 0 := by omega
    cases hi : idxN prev g with
    | none =>
      rw [hi] at h
      have f1 : ce1 prev rest = 8 := by unfold ce1 ixE; rw [e2, e1, hi]; rfl
      have f3 : ce2 G prev rest = 8 := by unfold ce2; rw [f1, okE_ne n8]
      have f4 : ce3 G prev rest = 8 := by unfold ce3; rw [f3, numE_ne n8]
      have f5 : ce4 a G prev rest = 8 := by unfold ce4; rw [f4, okE_ne n8]
      rw [f5]
      exact .inr ⟨n8, h.symm⟩
    | some k =>
      rw [hi] at h
      simp only at h
      have f1 : ce1 prev rest = 0 := by unfold ce1 ixE; rw [e2, e1, hi]
      have f2 : ck prev rest = k := by unfold ck ixV; rw [e2, hi]
      cases hg : inL G k with
      | true =>
        rw [hg] at h
        have f3 : ce2 G prev rest = 8 := by unfold ce2; rw [f1, f2, hg]; rfl
        have f4 : ce3 G prev rest = 8 := by unfold ce3; rw [f3, numE_ne n8]
        have f5 : ce4 a G prev rest = 8 := by unfold ce4; rw [f4, okE_ne n8]
        rw [f5]
        exact .inr ⟨n8, h.symm⟩
      | false =>
        rw [hg] at h
        simp only [cond_false] at h
        have f3 : ce2 G prev rest = 0 := by unfold ce2; rw [f1, f2, hg]; rfl
        cases hz : readV r with
        | bad e =>
          rw [hz] at h
          have he : e ≠ 0 := by have := readV_bad hz; omega
          have f4 : ce3 G prev rest = e := by unfold ce3; rw [f3, e3]; unfold numE; rw [if_pos rfl, hz]; rfl
          have f5 : ce4 a G prev rest = e := by unfold ce4; rw [f4, okE_ne he]
          rw [f5]
          exact .inr ⟨he, h.symm⟩
        | ok z r1 =>
          rw [hz] at h
          simp only at h
          have f4 : ce3 G prev rest = 0 := by unfold ce3; rw [f3, e3]; unfold numE; rw [if_pos rfl, hz]; rfl
          have f6 : cz G prev rest = z := by unfold cz; rw [f3, e3]; unfold numN; rw [if_pos rfl, hz]; rfl
          have f7 : cr G prev rest = r1 := by unfold cr; rw [f3, e3]; unfold numR; rw [if_pos rfl, hz]; rfl
          have f8 : cv a G prev rest = newV a k z := by unfold cv; rw [f2, f6]
          cases hs : stays a k (newV a k z) with
          | true =>
            rw [hs] at h
            have f5 : ce4 a G prev rest = 8 := by unfold ce4; rw [f4, f2, f8, hs]; rfl
            rw [f5]
            exact .inr ⟨n8, h.symm⟩
          | false =>
            rw [hs] at h
            simp only [cond_false] at h
            have f5 : ce4 a G prev rest = 0 := by unfold ce4; rw [f4, f2, f8, hs]; rfl
            refine .inl ⟨f5, ?_⟩
            rw [← h, f2, f7, f8]
            cases chgQ a G n k r1 with
            | bad e => rfl
            | ok l r' => simp [preC]

def ChgTo (w : World) (p : Nat) (ro : Option Addr) (len : Nat) (R : Rdr (List (Int × Int))) (r : Ending) (w' : World) : Prop := ∃ (C : List (Int × Int)) (co : Option Addr) (cc : Nat) (r' : List Nat) (e' : Nat) (ro' : Option Addr) (rc' : Nat),
  r = .returned (.slice co C.length cc) ∧ Seg w' 48 2 co C.length cc (C.flatMap clV) ∧ (∀ k ∈ blk co, w.heap.size ≤ k) ∧ C.length ≤ len + 1 ∧ (∀ x ∈ C, bd64 x.1 ∧ bd64 x.2) ∧ IsDec w' p ro' r' rc' e' ∧ BytesB r' ∧ r'.length ≤ len ∧ (∀ k ∈ blk ro', k ∈ blk ro) ∧ Fr [p] w w' ∧ ((e' = 0 ∧ R = .ok C r') ∨ (e' ≠ 0 ∧ R = .bad e'))
/-- the state at the head of a round -/
structure ChgAt (w wr : World) (p : Nat) (ro : Option Addr) (len : Nat) (a : List (Int × Int)) (G : List Int) (R : Rdr (List (Int × Int))) (prev : Int) (n : Nat) (C : List (Int × Int)) (co : Option Addr) (cc : Nat) (r : List Nat) (e : Nat) (ro2 : Option Addr) (rc2 : Nat) : Prop where
  hp : -1 ≤ prev ∧ prev ≤ maxI
  hn : n < 18446744073709551616
  dec : IsDec wr p ro2 r rc2 e
  bts : BytesB r
  hl : r.length ≤ len
  hb : ∀ k ∈ blk ro2, k ∈ blk ro
  fr : Fr [p] w wr
  seg : Seg wr 48 2 co C.length cc (C.flatMap clV)
  hc : ∀ k ∈ blk co, w.heap.size ≤ k
  bd : ∀ x ∈ C, bd64 x.1 ∧ bd64 x.2
  cl : C.length ≤ len + 1
  st : (e = 0 ∧ preC C (chgQ a G n prev r) = R ∧ C.length + r.length ≤ len) ∨ (e ≠ 0 ∧ R = .bad e)
theorem cr_lt {a : List (Int × Int)} {G : List Int} {prev : Int} {r : List Nat} (hb : BytesB r) (h : ce4 a G prev r = 0) : (cr G prev r).length < r.length := by
  have h3 := okE_zero h
  unfold ce3 at h3
  have h2 : ce2 G prev r = 0 := by
    by_cases h0 : ce2 G prev r = 0
    · exact h0
    · rw [numE_ne h0] at h3; exact absurd h3 h0
  have h1 := ixE_zero (okE_zero h2)
  have a1 := numR_lt hb h1
  have a2 := numR_len (ce2 G prev r) (numR_bytes 0 hb)
  unfold cr
  omega
theorem cr_le (G : List Int) (prev : Int) {r : List Nat} (hb : BytesB r) : (cr G prev r).length ≤ r.length := by
  have a1 := numR_len 0 hb
  have a2 := numR_len (ce2 G prev r) (numR_bytes 0 hb)
  unfold cr
  omega
/-- a round: what the next state is -/
theorem ChgAt.next {w wr w2 w3 : World} {p : Nat} {ro : Option Addr} {len : Nat} {a : List (Int × Int)} {G : List Int} {R : Rdr (List (Int × Int))} {prev : Int} {n : Nat} {C : List (Int × Int)} {co co2 : Option Addr} {cc cc2 : Nat} {r : List Nat} {ro2 ro3 : Option Addr} {rc2 rc3 : Nat} (h : ChgAt w wr p ro len a G R prev (n + 1) C co cc r 0 ro2 rc2) (hpw : p < w.heap.size)
    (hf1 : Fr [p] wr w2) (hbk : ∀ k ∈ blk ro3, k ∈ blk ro2) (hd : IsDec w2 p ro3 (cr G prev r) rc3 (ce4 a G prev r))
    (hs : Seg w3 48 2 co2 (C.length + 1) cc2 (C.flatMap clV ++ clV (ck prev r, cv a G prev r))) (hf3 : Fr (blk co) w2 w3) (hx3 : Ext (blk co) w2 (blk co2)) (hro : ∀ k ∈ blk ro, k < w.heap.size) (hcv : bd64 (cv a G prev r)) :
    ChgAt w w3 p ro len a G R (ck prev r) n (C ++ [(ck prev r, cv a G prev r)]) co2 cc2 (cr G prev r) (ce4 a G prev r) ro3 rc3 := by
  have hne : p ∉ blk co := fun hk => by have := h.hc p hk; omega
  have hbk2 : ∀ k ∈ blk ro3, k ∈ blk ro := fun k hk => h.hb k (hbk k hk)
  have hck : -1 ≤ ck prev r ∧ ck prev r ≤ maxI := ixV_bd _ h.hp
  have hlen : (C ++ [(ck prev r, cv a G prev r)]).length = C.length + 1 := by simp
  refine ⟨hck, by have := h.hn; omega, ⟨hf3.blk hd.head hne, hd.rd.fr hf3 (fun k hk hm => ?_), hd.fit, hd.cap, hd.out⟩, numR_bytes _ (numR_bytes 0 h.bts), Nat.le_trans (cr_le G prev h.bts) h.hl, hbk2, (h.fr.trans hf1 (Ext.refl _ _)).trans hf3 (fun k hk => .inr (h.hc k hk)), ?_, fun k hk => ?_, fun x hx => ?_, ?_, ?_⟩
  · have := hro k (hbk2 k hk); have := h.hc k hm; omega
  · rw [hlen, List.flatMap_append]; simpa using hs
  · rcases hx3 k hk with q | q
    · exact h.hc k q
    · have := h.fr.size; have := hf1.size; omega
  · rcases List.mem_append.1 hx with q | q
    · exact h.bd x q
    · simp at q
      subst q
      refine ⟨?_, hcv⟩
      have := hck
      unfold maxI at this
      unfold bd64
      show -9223372036854775808 ≤ ck prev r ∧ ck prev r ≤ 9223372036854775807
      omega
  · rw [hlen]
    rcases h.st with ⟨-, -, hm⟩ | ⟨h0, -⟩
    · omega
    · exact absurd rfl h0
  · rcases h.st with ⟨-, hR, hm⟩ | ⟨h0, -⟩
    · rcases chg_step a G n prev r C R hR with ⟨e1, e2⟩ | ⟨e1, e2⟩
      · exact .inl ⟨e1, e2, by rw [hlen]; have := cr_lt h.bts e1; omega⟩
      · exact .inr ⟨e1, e2⟩
    · exact absurd rfl h0
end Go.Proofs.Ytodfeaipoagphaa
/- Package snapshot: the decoder: changed, the walk. -/
namespace Go.Proofs.Ytodfeaipoagphaa
open Go.RowKit Go.Maps

set_option maxRecDepth 100000 in
set_option maxHeartbeats 16000000 in
theorem changed_any {w : World} {p : Nat} {ro : Option Addr} {rest : List Nat} {rc e0 : Nat} (h : IsDec w p ro rest rc e0) (hb : BytesB rest) (hlen : rest.length < 1000000000000) {a : List (Int × Int)} {bv nv bg ng : Nat} {G : List Int} (hm : IsM w bv nv (has a) (getv a)) (hg : IsS w bg ng (inL G)) (hvp : bv ≠ p) (hgp : bg ≠ p) (hrb : ∀ k ∈ blk ro, k < w.heap.size) {R : Rdr (List (Int × Int))} (hR : (e0 = 0 ∧ R = chgR a G rest) ∨ (e0 ≠ 0 ∧ R = .bad e0)) :
    Calls Try.prog 50 #[.pointer (some ⟨p, 0, none⟩), .map (some bv), .map (some bg)] w (ChgTo w p ro rest.length R) := by
  have hpw : p < w.heap.size := lt_of_blk h.head
  have HVP := Lib.hid hvp
  have HGP := Lib.hid hgp
  have HPW := Lib.hid hpw
  have HM := Lib.hid hm
  have HG := Lib.hid hg
  have HRB := Lib.hid hrb
  have HNUM := Lib.hid (number_any h hb)
  have HLEN := Lib.hid hlen
  have HST := Lib.hid (fun (W1 : World) (ro1 : Option Addr) (rc1 : Nat) (hd : IsDec W1 p ro1 (numR rest e0) rc1 (numE rest e0)) (hf : Fr [p] w W1) (hbk : ∀ k ∈ blk ro1, k ∈ blk ro) => (⟨by unfold maxI; omega, numN_lt e0 hb, hd, numR_bytes e0 hb, numR_len e0 hb, hbk, hf, Seg.nil _ _ _, by simp [blk], by simp, by simp, by
      rcases hR with ⟨h0, hR⟩ | ⟨h0, hR⟩
      · subst h0
        rw [hR]
        unfold chgR numN numR numE
        simp only [if_pos]
        cases hv : readV rest with
        | bad e => exact .inr ⟨by have := readV_bad hv; show e ≠ 0; omega, rfl⟩
        | ok n r => exact .inl ⟨rfl, preC_nil _, by have := numR_len 0 hb; unfold numR at this; rw [if_pos rfl, hv] at this; simpa using this⟩
      · exact .inr ⟨by rw [numE_ne h0]; exact h0, by rw [numE_ne h0]; exact hR⟩⟩ : ChgAt w W1 p ro rest.length a G R (-1) (numN rest e0) [] none 0 (numR rest e0) (numE rest e0) ro1 rc1))
  obtain ⟨ic, hic, hcz0, hcz1, hcz2⟩ := info_parts infoCell
  clear h hb hlen hm hg hvp hgp hpw hrb hR
  obtain ⟨n0, hn0⟩ : ∃ n0, n0 = numN rest e0 := ⟨_, rfl⟩
  rw [← hn0] at HNUM HST
  clear hn0
  go_enter Try.func50, Try.ntmps50
  go_wp2_with fail
  refine HNUM.out.mono ?_
  rintro r w1 ⟨rfl, ro1, rc1, hd, hf, hbk⟩
  have HS := Lib.hid (HST.out _ _ _ hd hf hbk)
  clear hd hf hbk
  go_wp2_with fail
  go_loopw [7, 8, 9] (fun cv' iv nv' wr => ∃ (prev : Int) (n : Nat) (C : List (Int × Int)) (co : Option Addr) (cc : Nat) (r : List Nat) (e : Nat) (ro2 : Option Addr) (rc2 : Nat), cv' = .slice co C.length cc ∧ iv = .int .i64 prev ∧ nv' = .int .u64 (n : Int) ∧ ChgAt w wr p ro rest.length a G R prev n C co cc r e ro2 rc2) (fun _ _ nv' _ => (intOf nv').toNat)
  case atStart => exact ⟨-1, n0, [], none, 0, _, _, _, _, rfl, rfl, rfl, HS.out⟩
  case round =>
    clear HS
    obtain ⟨prev, n, C, co, cc, r, e, ro2, rc2, rfl, rfl, rfl, hat⟩ := hrel
    have HA := Lib.hid hat
    have c1 : wr.cell? ⟨p, 1, none⟩ = some (.int .i64 (e : Int)) := cell_blk hat.dec.head 1
    have hn := hat.hn
    have hmR : ∀ u : World, Fr [p] wr u → IsM u bv nv (has a) (getv a) := fun u hu => (HM.out.fr hat.fr (by simp; exact HVP.out)).fr hu (by simp; exact HVP.out)
    have HMR := Lib.hid hmR
    have hgR : ∀ u : World, Fr [p] wr u → IsS u bg ng (inL G) := fun u hu => (HG.out.fr hat.fr (by simp; exact HGP.out)).fr hu (by simp; exact HGP.out)
    have HGR := Lib.hid hgR
    have hCl := hat.cl
    clear hat hmR hgR
    have hend : (n = 0 ∨ e ≠ 0) → ChgTo w p ro rest.length R (.returned (.slice co C.length cc)) wr := fun hc => by
      refine ⟨C, co, cc, r, e, ro2, rc2, rfl, HA.out.seg, HA.out.hc, HA.out.cl, HA.out.bd, HA.out.dec, HA.out.bts, HA.out.hl, HA.out.hb, HA.out.fr, ?_⟩
      rcases HA.out.st with ⟨h1, h2, -⟩ | h1
      · have h0 : n = 0 := by rcases hc with hc | hc; exact hc; exact absurd h1 hc
        subst h0
        exact .inl ⟨h1, by rw [← h2]; simp [chgQ, preC]⟩
      · exact .inr h1
    have HEND := Lib.hid hend
    clear hend
    rcases Nat.eq_zero_or_pos n with h0 | h0
    · have hg0 : ¬ 0 < n := by omega
      have hc0 : decide ((0 : Int) < (n : Int)) = false := decide_eq_false (by omega)
      have HR0 := Lib.hid (HEND.out (.inl h0))
      clear h0
      go_wp2_with fail
      go_ret
      exact HR0.out
    · have hc0 : decide ((0 : Int) < (n : Int)) = true := decide_eq_true (by omega)
      by_cases he : e = 0
      · have e1 : ((e : Int) == 0) = true := beq_iff_eq.2 (by omega)
        subst he
        obtain ⟨n', rfl⟩ : ∃ n', n = n' + 1 := ⟨n - 1, by omega⟩
        have HIX := Lib.hid (index_any HA.out.dec HA.out.bts HA.out.hp)
        have hkb : bd64 (ck prev r) := by have := ixV_bd (numN r 0) HA.out.hp; unfold maxI at this; unfold bd64 ck; omega
        have hcvb : bd64 (cv a G prev r) := wrap64_bd _
        have HBR := Lib.hid (numR_bytes 0 HA.out.bts)
        have HNX := Lib.hid (fun (w2 w3 : World) (co2 : Option Addr) (cc2 : Nat) (ro3 : Option Addr) (rc3 : Nat) a1 a2 a3 a4 a5 a6 => HA.out.next (w2 := w2) (w3 := w3) (co2 := co2) (cc2 := cc2) (ro3 := ro3) (rc3 := rc3) HPW.out a1 a2 a3 a4 a5 a6 HRB.out hcvb)
        have HZL := Lib.hid (numN_lt (ce2 G prev r) HBR.out)
        have hdk : ixV prev (numN r 0) = ck prev r := rfl
        have hd1 : ixE prev (numN r 0) (numE r 0) = ce1 prev r := rfl
        rw [hdk, hd1] at HIX
        have qHD2 : ce2 G prev r = okE (!inL G (ck prev r)) (ce1 prev r) := rfl
        have HD2 := Lib.hid qHD2
        clear qHD2
        have qHDZ : numN (numR r 0) (ce2 G prev r) = cz G prev r := rfl
        have HDZ := Lib.hid qHDZ
        clear qHDZ
        have qHDR : numR (numR r 0) (ce2 G prev r) = cr G prev r := rfl
        have HDR := Lib.hid qHDR
        clear qHDR
        have qHD3 : numE (numR r 0) (ce2 G prev r) = ce3 G prev r := rfl
        have HD3 := Lib.hid qHD3
        clear qHD3
        have qHDV : cv a G prev r = wrap64 (getv a (ck prev r) + uz (cz G prev r)) := rfl
        have HDV := Lib.hid qHDV
        clear qHDV
        have qHD4 : ce4 a G prev r = okE (!stays a (ck prev r) (cv a G prev r)) (ce3 G prev r) := rfl
        have HD4 := Lib.hid qHD4
        clear qHD4
        clear hdk hd1
        obtain ⟨k, hk⟩ : ∃ k, k = ck prev r := ⟨_, rfl⟩
        rw [← hk] at HIX hkb HNX HD2 HDV HD4
        obtain ⟨E1, hE1⟩ : ∃ E, E = ce1 prev r := ⟨_, rfl⟩
        rw [← hE1] at HIX HD2
        obtain ⟨E2, hE2⟩ : ∃ E, E = ce2 G prev r := ⟨_, rfl⟩
        rw [← hE2] at HZL HD2 HDZ HDR HD3
        obtain ⟨r1, hr1⟩ : ∃ r1, r1 = numR r 0 := ⟨_, rfl⟩
        rw [← hr1] at HIX HBR HZL HDZ HDR HD3
        obtain ⟨z, hz⟩ : ∃ z, z = cz G prev r := ⟨_, rfl⟩
        rw [← hz] at HDZ HDV
        obtain ⟨r2, hr2⟩ : ∃ r2, r2 = cr G prev r := ⟨_, rfl⟩
        rw [← hr2] at HDR HNX
        obtain ⟨E3, hE3⟩ : ∃ E, E = ce3 G prev r := ⟨_, rfl⟩
        rw [← hE3] at HD3 HD4
        obtain ⟨v, hv⟩ : ∃ v, v = cv a G prev r := ⟨_, rfl⟩
        rw [← hv] at HNX HDV HD4
        obtain ⟨E4, hE4⟩ : ∃ E, E = ce4 a G prev r := ⟨_, rfl⟩
        rw [← hE4] at HD4 HNX
        have hzl : z < 18446744073709551616 := by rw [← HDZ.out]; exact HZL.out
        have HKB := Lib.hid hkb
        have wn : IntKind.u64.wrap (((n' + 1 : Nat) : Int) - 1) = (n' : Int) := by rw [show ((n' + 1 : Nat) : Int) - 1 = (n' : Int) by omega]; exact IntWalk.u64_in _ (by omega)
        clear hk hE1 hE2 hr1 hz hr2 hE3 hv hE4 hkb hcvb HEND HST HNUM
        go_wp2_with fail
        refine HIX.out.mono ?_
        rintro rr w1 ⟨rfl, ro3, rc3, hd, hf, hbk⟩
        have hlk := (HGR.out _ hf).look HKB.out
        have HD := Lib.hid hd
        have HF := Lib.hid hf
        have HBK := Lib.hid hbk
        clear hd hf hbk
        have hW : ∀ o, IsDec (w1.alloc o) p ro3 r1 rc3 E1 := fun o => HD.out.old ((Fr.refl [] w1).alloc o)
        have HW := Lib.hid hW
        clear hW
        cases hh : inL G k
        case' true =>
          rw [hh] at hlk HD2
          go_wp2_with fail
          refine (fail_any (HW.out _) 8).mono ?_
          rintro rr wc ⟨rfl, hd2, hf2⟩
          replace hd2 : IsDec wc p ro3 r1 rc3 E2 := by rw [HD2.out]; exact hd2
          replace hf2 : Fr [p] wr wc := (HF.out.trans ((Fr.refl [] _).alloc _) (by simp [Ext])).trans hf2 (Ext.refl _ _)
          go_upto_region 10 with fail
        case' false =>
          rw [hh] at hlk HD2
          go_upto_region 10 with fail
          have hd2 : IsDec (w1.alloc (.cells #[] 109)) p ro3 r1 rc3 E2 := by rw [HD2.out]; exact HW.out _
          have hf2 : Fr [p] wr (w1.alloc (.cells #[] 109)) := HF.out.trans ((Fr.refl [] _).alloc _) (by simp [Ext])
          obtain ⟨wc, hwc⟩ : ∃ wc, wc = w1.alloc (.cells #[] 109) := ⟨_, rfl⟩
          rw [← hwc] at hd2 hf2 ⊢
          clear hwc
        all_goals
          clear hlk
          have hlk2 := (HMR.out _ hf2).look HKB.out
          have HN2 := Lib.hid (number_any hd2 HBR.out)
          have HF2 := Lib.hid hf2
          clear hd2 hf2
          rw [HDZ.out, HDR.out, HD3.out] at HN2
          obtain ⟨gv, hgv⟩ : ∃ gv, gv = getv a k := ⟨_, rfl⟩
          rw [← hgv] at hlk2 HDV
          have HGV := Lib.hid hgv
          clear hgv
          have HUZ := Lib.hid (fun u => unzigzag_any u z hzl)
          obtain ⟨uv, huv⟩ : ∃ uv, uv = uz z := ⟨_, rfl⟩
          rw [← huv] at HUZ HDV
          clear huv
          have hwv2 : wrap64 (gv + uv) = v := HDV.out.symm
          go_wp2_with fail
          refine HN2.out.mono ?_
          rintro rr w3 ⟨rfl, ro4, rc4, hd3, hf3, hbk3⟩
          have HD3' := Lib.hid hd3
          have HF3 := Lib.hid (HF2.out.trans hf3 (Ext.refl _ _))
          have HBK3 := Lib.hid hbk3
          clear hd3 hf3 hbk3
          go_wp2_with fail
          refine (HUZ.out _).mono ?_
          rintro rr w4 ⟨rfl, rfl⟩
          go_upto_region 12 with fail
          have hbk := alloc_new w3 (.cells #[.int .i64 k, .int .i64 v] 48)
          have hd4 := HD3'.out.old ((Fr.refl [] w3).alloc (.cells #[.int .i64 k, .int .i64 v] 48))
          have hf4 := HF3.out.trans ((Fr.refl [] w3).alloc (.cells #[.int .i64 k, .int .i64 v] 48)) (by simp [Ext])
          obtain ⟨W4, hW4⟩ : ∃ W4, W4 = w3.alloc (.cells #[.int .i64 k, .int .i64 v] 48) := ⟨_, rfl⟩
          rw [← hW4] at hbk hd4 hf4 ⊢
          have hbp : w3.heap.size ≠ p := by have := lt_of_blk HD3'.out.head; omega
          obtain ⟨bc, hbc⟩ : ∃ bc, bc = w3.heap.size := ⟨_, rfl⟩
          rw [← hbc] at hbk hbp ⊢
          clear hW4 hbc
          have z0 : W4.cell? ⟨bc, 0, none⟩ = some (.int .i64 k) := cell_blk hbk 0
          have z1 : W4.cell? ⟨bc, 1, none⟩ = some (.int .i64 v) := cell_blk hbk 1
          have HBK4 := Lib.hid hbk
          have HD4w := Lib.hid hd4
          have HF4w := Lib.hid hf4
          clear hbk hd4 hf4
          cases hh2 : has a k
          case' false =>
            have hs : stays a k v = false := by unfold stays; rw [hh2]; rfl
            rw [hs] at HD4
            clear hs
            go_upto_region 14 with fail
            have hd5 : IsDec W4 p ro4 r2 rc4 E4 := by rw [HD4.out]; exact HD4w.out
            have hf5 := HF4w.out
            have hb5 := HBK4.out
          case' true =>
            by_cases hvg : v = gv
            case' pos =>
              have hs : stays a k v = true := by unfold stays; rw [hh2, hvg, ← HGV.out]; simp
              rw [hs] at HD4
              have heq : ∀ u, (binOp .eql 48 (.agg #[.int .i64 k, .int .i64 v]) (.agg #[.int .i64 k, .int .i64 gv])).run Try.prog u = .ok (.bool true) u := fun u => by rw [eq_cell]; simp [hvg]
              clear hs hvg
              go_wp2_with fail
              refine (fail_any HD4w.out 8).mono ?_
              rintro rr w5 ⟨rfl, hd5, hf5'⟩
              have hf5 := HF4w.out.trans hf5' (Ext.refl _ _)
              have hb5 := hf5'.blk HBK4.out (by simp; exact hbp)
              replace hd5 : IsDec w5 p ro4 r2 rc4 E4 := by rw [HD4.out]; exact hd5
              clear hf5' z0 z1
              have z0 : w5.cell? ⟨bc, 0, none⟩ = some (.int .i64 k) := cell_blk hb5 0
              have z1 : w5.cell? ⟨bc, 1, none⟩ = some (.int .i64 v) := cell_blk hb5 1
              go_upto_region 14 with fail
            case' neg =>
              have hs : stays a k v = false := by unfold stays; rw [hh2, ← HGV.out]; simp [hvg]
              rw [hs] at HD4
              have heq : ∀ u, (binOp .eql 48 (.agg #[.int .i64 k, .int .i64 v]) (.agg #[.int .i64 k, .int .i64 gv])).run Try.prog u = .ok (.bool false) u := fun u => by rw [eq_cell]; simp [hvg]
              clear hs hvg
              go_upto_region 14 with fail
              have hd5 : IsDec W4 p ro4 r2 rc4 E4 := by rw [HD4.out]; exact HD4w.out
              have hf5 := HF4w.out
              have hb5 := HBK4.out
          all_goals
            have hpc : ∀ k ∈ blk co, k ∉ [p] := fun k hk hm => by have := HA.out.hc k hk; have := HPW.out; simp at hm; omega
            have HSG := Lib.hid fun (o : Obj) => (HA.out.seg.fr hf5 hpc).alloc o
            have HF5 := Lib.hid hf5
            have HD5 := Lib.hid hd5
            clear hpc hf5 hd5 hb5
            have hlenC := HLEN.out
            go_wp2_with (at_builtin; refine wpList_append_seg rfl _ _ 30 rfl 48 ic _ 2 16 Try.underlying30 hic hcz0 hcz1 hcz2 rfl (by decide) co C.length cc (C.flatMap clV) rfl (HSG.out _) ⟨_, 0, none⟩ 1 1 (clV (k, v)) rfl rfl (fun j u hu => by rw [Addr.add_mid, Nat.zero_add, World.cell?_alloc_new]; simpa [clV] using hu) (by simp [clV, Value.oneCell']) (by unfold maxLen; omega) (by omega) ?_; intro ao' cap' w6 hs6 hf6 hx6; have HS6 := Lib.hid hs6; have HF6 := Lib.hid (((Fr.refl (blk co) _).alloc _).trans hf6 (Ext.refl _ _)); have HX6 := Lib.hid hx6; clear hs6 hf6 hx6)
            have HN := Lib.hid (HNX.out _ _ _ _ _ _ HF5.out (fun k hk => HBK.out k (HBK3.out k hk)) HD5.out HS6.out HF6.out (fun k hk => (HX6.out k hk).imp id (fun q => by simp at q; omega)))
            go_roundw
            case rel => exact ⟨k, n', C ++ [(k, v)], ao', cap', r2, E4, ro4, rc4, by simp, by go_num, by go_num, HN.out⟩
            case measure => simp [intOf]
      · have e1 : ((e : Int) == 0) = false := beq_eq_false_iff_ne.2 (by omega)
        have HR0 := Lib.hid (HEND.out (.inr he))
        clear he
        go_wp2_with fail
        go_ret
        exact HR0.out
end Go.Proofs.Ytodfeaipoagphaa
/- A region that draws its order, inside a round of a range over a function: it may be walked as anywhere (a region that holds no defer statement). -/
namespace Go.Proofs.Ytodfeaipoagphaa
open Go.RowKit

def noDefer (ops : Array Oper) : Bool := ops.all fun o => match o.op with | .defer _ => false | .call { callee := .builtin _, .. } => true | .call _ => false | .go _ => false | _ => true

theorem noDefer_spec {ops : Array Oper} (h : noDefer ops = true) {i : Nat} {o : Oper} (ho : ops[i]? = some o) : ∀ c, o.op ≠ .defer c := by
  intro c hc
  have h1 := Array.all_eq_true.1 h i (Array.getElem?_eq_some_iff.1 ho).1
  rw [(Array.getElem?_eq_some_iff.1 ho).2, hc] at h1
  cases h1

def onlyNormal (Q : Exit → Act → World → Prop) : Exit → Act → World → Prop := fun e a w => e = .normal ∧ Q .normal a w

theorem opsIn_of_ops {l n : Nat} {P : Program} {ops : Array Oper} {Q : Exit → Act → World → Prop} (hd : noDefer ops = true) (L : List Nat) :
    ∀ (a : Act) (w : World), wpOps P ops (onlyNormal Q) L a w → wpOpsIn (Fence.wide.inRound l) n P ops Q L a w := by
  induction L with
  | nil => intro a w h; exact h.2
  | cons i rest ih =>
    intro a w h
    simp only [wpOps] at h
    simp only [wpOpsIn]
    cases ho : ops[i]? with
    | none => simp only [ho] at h ⊢; exact ih a w h
    | some o =>
      simp only [ho] at h ⊢
      by_cases hw : Region.wanted o (yielded ops a.tmps) = true
      · simp only [hw, if_true] at h ⊢
        rcases h with h | ⟨_, a₀, w₀, hq⟩
        case inr => exact absurd hq.1 (by intro e; cases e)
        refine ⟨fun _ _ => trivial, ?_⟩
        rw [Fence.inRound_round, Oper.semAt_some l a.eval o (noDefer_spec hd ho)]
        unfold Oper.wp at h
        generalize (execOp a.eval o).run P w = r at h ⊢
        cases r with
        | ok x w' =>
          cases x <;> simp only [Oper.upon, Oper.uponIn] at h ⊢
          case value v => exact ih _ _ h
          case skip => exact ih _ _ h
          case defer d => exact ih _ _ h
          case enter f args =>
            refine ⟨fun he => by simp [Fence.wide, Fence.inRound] at he, CallsIn.inRound l ((callsIn_wide.2 h).mono fun e w'' he => ?_)⟩
            cases e with
            | returned v => exact ih _ _ he
            | panicked chain => exact absurd he.1 (by intro e; cases e)
            | outgrown => obtain ⟨a₀, w₀, hq⟩ := he; exact absurd hq.1 (by intro e; cases e)
          case row rw' args =>
            refine ⟨fun he => by simp [Fence.wide, Fence.inRound] at he, fun c cs _ => ?_⟩
            obtain ⟨v, w'', hv, hs⟩ := h c cs
            exact ⟨v, w'', ih _ _ hv, stepsIn_wide.2 hs⟩
        | halt x w' => cases x <;> simp only [Oper.upon, Oper.uponIn] at h ⊢ <;> exact absurd h.1 (by intro e; cases e)
      · simp only [hw, if_false, Bool.false_eq_true] at h ⊢
        exact ⟨fun _ _ => trivial, ih _ _ h⟩

theorem wpAny_still_tail {P : Program} {Q : Exit → Act → World → Prop} {a : Act} {w : World} {l : List Oper} (n : Nat) (hB : Region.lexTailB .any l.toArray n = true)
    (h : wpStill P l.toArray w (fun a' => wpList P l.toArray Q (l.drop n) a' w) (l.take n) a) : wpAny P .any l.toArray Q l.toArray.size (Array.replicate l.toArray.size false) a w := by
  simp only [Region.lexTailB, Bool.and_eq_true, decide_eq_true_eq] at hB
  obtain ⟨⟨⟨⟨hsel, hn⟩, hs⟩, hc⟩, hlex⟩ := hB
  have hn' : n < l.length := by simpa using hn
  have htl : (l.take n).length = n := by simp; omega
  have hdl : (l.drop n).length = l.toArray.size - n := by simp
  have inv0 : HeadInv .any l.toArray n (Array.replicate l.toArray.size false) :=
    ⟨by simp, fun j oj _ hl => (by rw [getD_replicate_false] at hl; cases hl), fun t _ ht => getD_in (by simpa using ht) (getD_replicate_false _ _)⟩
  have H := wpAnyL_lex (md := .any) (g := l.toArray.size - n) hsel hs hc hn (l.take n) 0 _ a (fun j hj => by
    have hj' : j < n := by rw [htl] at hj; exact hj
    simp [hj']) (by simpa using htl) inv0 (by rw [htl]; exact hlex) h
  have := wpAny_of_head (Q' := Q) (g := l.toArray.size - n) (fun listed a' hL => by
    have := wpAny_of_seq (md := .any) (Q' := Q) (l.drop n) n listed a' w (fun j => by simp [List.getElem?_drop]) (by rw [hdl]; exact hL.1) hL.2
    rwa [hdl] at this) _ _ _ H
  rw [htl, show n + (l.toArray.size - n) = l.toArray.size by omega] at this
  exact this

theorem wpIn_round_still_tail {l n : Nat} {P : Program} {id : Nat} {L : List Oper} {Q : Exit → Act → World → Prop} {a : Act} {w : World} (k : Nat) (hm : P.follows .mixedOrders = true) (hd : noDefer L.toArray = true) (hB : Region.lexTailB .any L.toArray k = true)
    (h : wpStill P L.toArray w.drew (fun a' => wpList P L.toArray (onlyNormal Q) (L.drop k) a' w.drew) (L.take k) a) :
    (Code.region id L.toArray true).wpIn (Fence.wide.inRound l) n P Q a w :=
  wpIn_region_draw fun t => by
    simp only [Region.schedule, hm, Bool.true_or, if_true]
    exact opsIn_of_ops hd _ _ _ (wpAny_sound _ t _ a _ (wpAny_still_tail k hB h))
theorem wp_still_tail {P : Program} {id : Nat} {L : List Oper} {Q : Exit → Act → World → Prop} {a : Act} {w : World} (k : Nat) (hm : P.follows .mixedOrders = true) (hB : Region.lexTailB .any L.toArray k = true)
    (h : wpStill P L.toArray w.drew (fun a' => wpList P L.toArray Q (L.drop k) a' w.drew) (L.take k) a) : (Code.region id L.toArray true).wp P Q a w :=
  wp_region_still_tail k hm hB h
/-! ### calls of functions that only draw, inside a quiet region (behind no other one; behind one) -/
theorem quiet1 {P : Program} {f : FuncId} {args : Array Value} {w : World} {n : Nat} {v : Value} (h : Calls P f args (w.drewN n) fun e w' => e = .returned v ∧ w.drewN n = w') :
    Calls P f args (w.drewN n) fun e w' => e = .returned v ∧ ∃ m, w' = w.drewN m := h.mono fun _ _ ⟨he, hw⟩ => ⟨he, n, hw.symm⟩
theorem quiet1d {P : Program} {f : FuncId} {args : Array Value} {w : World} {n : Nat} {v : Value} (h : Calls P f args (w.drewN n) fun e w' => e = .returned v ∧ ∃ m, w' = (w.drewN n).drewN m) :
    Calls P f args (w.drewN n) fun e w' => e = .returned v ∧ ∃ m, w' = w.drewN m := h.mono fun _ _ ⟨he, m, hw⟩ => ⟨he, n + m, by rw [hw, World.drewN_drewN]⟩
theorem quiet2 {P : Program} {f : FuncId} {args : Array Value} {w : World} {a n : Nat} {v : Value} (h : Calls P f args (w.drewN (a + n)) fun e w' => e = .returned v ∧ w.drewN (a + n) = w') :
    Calls P f args (w.drewN (a + n)) fun e w' => e = .returned v ∧ ∃ m, w' = w.drewN (a + m) := h.mono fun _ _ ⟨he, hw⟩ => ⟨he, n, hw.symm⟩
theorem quiet2d {P : Program} {f : FuncId} {args : Array Value} {w : World} {a n : Nat} {v : Value} (h : Calls P f args (w.drewN (a + n)) fun e w' => e = .returned v ∧ ∃ m, w' = (w.drewN (a + n)).drewN m) :
    Calls P f args (w.drewN (a + n)) fun e w' => e = .returned v ∧ ∃ m, w' = w.drewN (a + m) := h.mono fun _ _ ⟨he, m, hw⟩ => ⟨he, n + m, by rw [hw, World.drewN_drewN, Nat.add_assoc]⟩
end Go.Proofs.Ytodfeaipoagphaa
/- Below a bound only some blocks change (as XBack has it). -/
namespace Go.Proofs.Ytodfeaipoagphaa
open Go.RowKit Go.Shelf

/-- below n₀ only the blocks of S may have changed -/
structure FrB (n₀ : Nat) (S : List Nat) (w w' : World) : Prop where
  os : w'.os = w.os
  tape : w'.tape = w.tape
  output : w'.output = w.output
  size : w.heap.size ≤ w'.heap.size
  block : ∀ k, k < n₀ → k ∉ S → w'.heap[k]? = w.heap[k]?

theorem FrB.refl (n₀ : Nat) (S : List Nat) (w : World) : FrB n₀ S w w := ⟨rfl, rfl, rfl, Nat.le_refl _, fun _ _ _ => rfl⟩
theorem FrB.trans {n₀ : Nat} {S : List Nat} {a b c : World} (h : FrB n₀ S a b) (k : FrB n₀ S b c) : FrB n₀ S a c :=
  ⟨k.os.trans h.os, k.tape.trans h.tape, k.output.trans h.output, Nat.le_trans h.size k.size, fun i hi hS => (k.block i hi hS).trans (h.block i hi hS)⟩
theorem FrB.ofFr {n₀ : Nat} {S : List Nat} {a b : World} (h : Fr S a b) (hn : n₀ ≤ a.heap.size) : FrB n₀ S a b := ⟨h.os, h.tape, h.output, h.size, fun k hk hS => h.block k (by omega) hS⟩
theorem FrB.grown {n₀ : Nat} {S : List Nat} {a b : World} {row : Option Nat} (hg : a.grownBy b row) (hn : n₀ ≤ a.heap.size) (hr : ∀ r, row = some r → n₀ ≤ r) : FrB n₀ S a b :=
  ⟨hg.os, hg.tape, hg.output, hg.size, fun k hk _ => hg.block k (by omega) (fun e => by have := hr k e.symm; omega)⟩
theorem FrB.cell {n₀ : Nat} {S : List Nat} {a b : World} (h : FrB n₀ S a b) {p : Addr} (hp : p.block < n₀) (hS : p.block ∉ S) : b.cell? p = a.cell? p := World.cell?_of_block (h.block p.block hp hS)
theorem FrB.frozen {n₀ : Nat} {S : List Nat} {a b : World} (h : FrB n₀ S a b) {p : Addr} (hp : p.block < n₀) (hS : p.block ∉ S) : b.frozen? p = a.frozen? p := World.frozen?_of_block (h.block p.block hp hS)

theorem frB_t {n₀ : Nat} {S : List Nat} {A B C : World} (h : FrB n₀ S A B) (k : FrB n₀ S B C) : FrB n₀ S A C := h.trans k
theorem frB_b {n₀ : Nat} {S : List Nat} {w : World} (hn : n₀ ≤ w.heap.size) (W : World) (l : Nat) (o o' : Obj) (hl : w.heap.size ≤ l) (h : W.heap[l]? = some o) (_ : o.isCells = false) (_ : o.isWalk = false) : FrB n₀ S W (W.putObj l o') :=
  FrB.grown (grownBy_putObj' W l o') (by have := lt_of_blk h; omega) (fun k e => by cases e; omega)


theorem Rd.kept {w w' : World} {size : Nat} {ao : Option Addr} {n : Nat} {xs : List Value} (h : Rd w size ao n xs) (hk : ∀ k ∈ blk ao, w'.heap[k]? = w.heap[k]?) : Rd w' size ao n xs := by
  obtain ⟨h1, h2, h3⟩ := h
  refine ⟨h1, h2, ?_⟩
  rcases h3 with h3 | ⟨g, off, ha, hg, hc⟩
  · exact .inl h3
  · subst ha
    have e := hk g (by simp [blk])
    refine .inr ⟨g, off, rfl, ?_, fun j hj => ?_⟩
    · have := Array.getElem?_eq_getElem hg
      rw [this] at e
      exact (Array.getElem?_eq_some_iff.1 e).1
    · rw [World.cell?_of_block (a := ⟨g, off + j, none⟩) e]; exact hc j hj
end Go.Proofs.Ytodfeaipoagphaa
/- Plain: lists of equal pieces. -/
namespace Go.Proofs.Ytodfeaipoagphaa

theorem flat_len {α : Type} (f : α → List Value) (k : Nat) (hk : ∀ x, (f x).length = k) : ∀ (l : List α), (l.flatMap f).length = l.length * k
  | [] => by simp
  | x :: l => by rw [List.flatMap_cons, List.length_append, hk, flat_len f k hk l, List.length_cons, Nat.add_mul]; omega
theorem flat_get {α : Type} (f : α → List Value) (k : Nat) (hk : ∀ x, (f x).length = k) : ∀ (l : List α) (i j : Nat) (hi : i < l.length), j < k → (l.flatMap f)[i * k + j]? = (f l[i])[j]?
  | [], _, _, hi, _ => by simp at hi
  | x :: l, 0, j, _, hj => by
    rw [List.flatMap_cons, Nat.zero_mul, Nat.zero_add, List.getElem?_append_left (by rw [hk]; exact hj)]; rfl
  | x :: l, i + 1, j, hi, hj => by
    rw [List.flatMap_cons, List.getElem?_append_right (by rw [hk, Nat.add_mul]; omega), hk, show (i + 1) * k + j - k = i * k + j by rw [Nat.add_mul]; omega]
    exact flat_get f k hk l i j (by simpa using hi) hj
end Go.Proofs.Ytodfeaipoagphaa
/- Package snapshot: Equal. -/
namespace Go.Proofs.Ytodfeaipoagphaa
open Go.RowKit

theorem ne_cell (u : World) (a b c d : Int) : (binOp .neq 48 (.agg #[.int .i64 a, .int .i64 b]) (.agg #[.int .i64 c, .int .i64 d])).run Try.prog u = .ok (.bool (!((a == c) && (b == d)))) u := by
  have hf : Try.prog.underlying 48 = some (.struct (Try.prog.fieldsOf 48)) := by unfold Program.fieldsOf; rw [Try.underlying48]
  have hp : Try.prog.stoodInHeld 48 = false := by kernel_rfl
  rw [run_neq_struct, run_equalIn_struct u _ _ _ _ hf hp]
  simp only [Program.fieldsOf, Try.underlying48]
  cases h1 : (a == c) <;> cases h2 : (b == d) <;> simp [Op.eqFields, part, run_equalIn_int u _ _ _ _ _ _ Try.underlying3, h1, h2]

/-- what lies at cell i of a list of cells -/
theorem Rd.cel {w : World} {ao : Option Addr} {l : List (Int × Int)} (h : Rd w 2 ao l.length (l.flatMap clV)) {i : Nat} (hi : i < l.length) : ∃ g off, ao = some ⟨g, off, none⟩ ∧ g < w.heap.size ∧
    w.cell? ⟨g, off + i * 2, none⟩ = some (.int .i64 l[i].1) ∧ w.cell? ⟨g, off + i * 2 + 1, none⟩ = some (.int .i64 l[i].2) := by
  obtain ⟨g, off, ha, hg, hc⟩ := h.at (by omega)
  have key : ∀ j, j < 2 → w.cell? ⟨g, off + (i * 2 + j), none⟩ = (clV l[i])[j]? := fun j hj => by
    rw [hc _ (by omega), flat_get clV 2 (fun _ => rfl) l i j hi hj]
  exact ⟨g, off, ha, hg, key 0 (by omega), key 1 (by omega)⟩

set_option maxHeartbeats 2000000 in
theorem equal_any (w : World) (ao bo : Option Addr) (ca cb : Nat) (a b : List (Int × Int)) (ha : Rd w 2 ao a.length (a.flatMap clV)) (hb : Rd w 2 bo b.length (b.flatMap clV)) :
    Calls Try.prog 23 #[.slice ao a.length ca, .slice bo b.length cb] w fun e w' => e = .returned (.bool (decide (a = b))) ∧ Fr [] w w' := by
  have hla : a.length ≤ 9223372036854775807 := by have := ha.2.1; unfold maxLen at this; omega
  have hlb : b.length ≤ 9223372036854775807 := by have := hb.2.1; unfold maxLen at this; omega
  have HA := Lib.hid ha
  have HB := Lib.hid hb
  clear ha hb
  by_cases hl : a.length = b.length
  · have hne : ((a.length : Int) != (b.length : Int)) = false := by rw [hl]; simp
    have HL := Lib.hid hl
    clear hl
    go_enter Try.func23, Try.ntmps23
    go_wp2_with fail
    go_loopw [13] (fun i wr => ∃ k : Nat, k ≤ a.length ∧ i = .int .i64 k ∧ a.take k = b.take k ∧ Fr [] w wr) (fun i _ => a.length - (intOf i).toNat)
    case atStart => exact ⟨0, Nat.zero_le _, rfl, rfl, Fr.refl _ _⟩
    case round =>
      obtain ⟨k, hk, rfl, ht, hf⟩ := hrel
      have HT := Lib.hid ht
      have HF := Lib.hid hf
      by_cases hkn : k < a.length
      · have hkb : k < b.length := by have := HL.out; omega
        obtain ⟨g, off, rfl, g1, c1, c2⟩ := (HA.out.fr hf (by simp)).cel hkn
        obtain ⟨g2, off2, rfl, g3, c3, c4⟩ := (HB.out.fr hf (by simp)).cel hkb
        obtain ⟨x1, hx1⟩ : ∃ x, x = a[k].1 := ⟨_, rfl⟩
        obtain ⟨x2, hx2⟩ : ∃ x, x = a[k].2 := ⟨_, rfl⟩
        obtain ⟨y1, hy1⟩ : ∃ x, x = b[k].1 := ⟨_, rfl⟩
        obtain ⟨y2, hy2⟩ : ∃ x, x = b[k].2 := ⟨_, rfl⟩
        rw [← hx1] at c1
        rw [← hx2] at c2
        rw [← hy1] at c3
        rw [← hy2] at c4
        have HX1 := Lib.hid hx1
        have HX2 := Lib.hid hx2
        have HY1 := Lib.hid hy1
        have HY2 := Lib.hid hy2
        have hki : (k : Int) < (a.length : Int) := by omega
        have hkj : (k : Int) < (b.length : Int) := by omega
        clear ht hf hx1 hx2 hy1 hy2
        by_cases hxy : x1 = y1 ∧ x2 = y2
        · have hb : ∀ u, (binOp .neq 48 (.agg #[.int .i64 x1, .int .i64 x2]) (.agg #[.int .i64 y1, .int .i64 y2])).run Try.prog u = .ok (.bool false) u := fun u => by rw [ne_cell]; simp [hxy.1, hxy.2]
          have HXY := Lib.hid hxy
          clear hxy
          go_wp2_with fail
          go_quiet (fail)
          go_wp2_with fail
          go_roundw
          case rel =>
            have e : a[k] = b[k] := Prod.ext (by rw [← HX1.out, ← HY1.out]; exact HXY.out.1) (by rw [← HX2.out, ← HY2.out]; exact HXY.out.2)
            exact ⟨k + 1, by omega, by go_num, by rw [List.take_succ_eq_append_getElem hkn, List.take_succ_eq_append_getElem hkb, HT.out, e], HF.out.trans ((Fr.refl [] _).drewN _) (by simp [Ext])⟩
          case measure => simp [intOf]; omega
        · have hb : ∀ u, (binOp .neq 48 (.agg #[.int .i64 x1, .int .i64 x2]) (.agg #[.int .i64 y1, .int .i64 y2])).run Try.prog u = .ok (.bool true) u := fun u => by
            rw [ne_cell]
            have : ((x1 == y1) && (x2 == y2)) = false := by
              rw [Bool.eq_false_iff]
              intro h
              simp only [Bool.and_eq_true, beq_iff_eq] at h
              exact hxy h
            rw [this]; rfl
          have HXY := Lib.hid hxy
          clear hxy
          go_wp2_with fail
          go_quiet (fail)
          go_wp2_with fail
          go_ret
          exact ⟨ret_bool (by
            symm
            refine decide_eq_false fun h => HXY.out ?_
            rw [HX1.out, HX2.out, HY1.out, HY2.out]
            simp only [h]
            constructor <;> trivial), HF.out.trans ((Fr.refl [] _).drewN _) (by simp [Ext])⟩
      · have hke : k = a.length := by omega
        have hab : a = b := by
          have := HT.out
          rw [hke, List.take_of_length_le (Nat.le_refl _), HL.out, List.take_of_length_le (Nat.le_refl _)] at this
          exact this
        have HAB := Lib.hid hab
        clear ht hf hke hab
        go_wp2_with fail
        go_ret
        exact ⟨ret_bool (decide_eq_true HAB.out).symm, HF.out⟩
  · have hne : ((a.length : Int) != (b.length : Int)) = true := bne_iff_ne.2 (by omega)
    have HL := Lib.hid hl
    clear hl
    go_enter Try.func23, Try.ntmps23
    go_wp2_with fail
    go_ret
    exact ⟨ret_bool (decide_eq_false fun h => HL.out (by rw [h])).symm, Fr.refl _ _⟩
end Go.Proofs.Ytodfeaipoagphaa
