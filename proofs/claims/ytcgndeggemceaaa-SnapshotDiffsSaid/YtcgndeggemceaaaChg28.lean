/- Package snapshot: the decoder: changed. -/
import Derived.Test.YtcgndeggemceaaaRem28
import Derived.Deep.DeepCutAuto
import Derived.Laws.StructEq
import Derived.Carry
import Derived.Deep.QuietTactic
import Derived.BigQuiet
namespace Go.Proofs.Ytcgndeggemceaaa
open Go.RowKit Go.Maps

def clV (x : Int × Int) : List Value := [.int .i64 x.1, .int .i64 x.2]
theorem infoCell : (Try.prog.info? 38).map (fun i => (i.zero, i.size, i.bytes)) = some (some (.agg #[.int .i64 0, .int .i64 0]), 2, 16) := by kernel_rfl
theorem eq_cell (u : World) (a b c d : Int) : (binOp .eql 38 (.agg #[.int .i64 a, .int .i64 b]) (.agg #[.int .i64 c, .int .i64 d])).run Try.prog u = .ok (.bool ((a == c) && (b == d))) u := by
  have hf : Try.prog.underlying 38 = some (.struct (Try.prog.fieldsOf 38)) := by unfold Program.fieldsOf; rw [Try.underlying38]
  have hp : Try.prog.stoodInHeld 38 = false := by kernel_rfl
  rw [run_eql_struct, run_equalIn_struct u _ _ _ _ hf hp]
  simp only [Program.fieldsOf, Try.underlying38]
  cases h1 : (a == c) <;> cases h2 : (b == d) <;> simp [Op.eqFields, part, run_equalIn_int u _ _ _ _ _ _ Try.underlying3, h1, h2]

def preC (C : List (Int × Int)) : Rdr (List (Int × Int)) → Rdr (List (Int × Int))
  | .bad e => .bad e
  | .ok l r => .ok (C ++ l) r
def chgR (a : List (Int × Int)) (gone : List Int) (rest : List Nat) : Rdr (List (Int × Int)) := match readV rest with
  | .bad e => .bad e
  | .ok n r => chgQ a gone n (-1) r
theorem preC_nil (x : Rdr (List (Int × Int))) : preC [] x = x := by cases x <;> rfl
theorem okE_ne {e : Nat} (h : e ≠ 0) (b : Bool) : okE b e = e := by unfold okE; split; rfl; exact failE_ne h
theorem numE_ne {e : Nat} (h : e ≠ 0) (r : List Nat) : numE r e = e := by unfold numE; rw [if_neg h]
theorem ixE_ne {e : Nat} (h : e ≠ 0) (prev : Int) (g : Nat) : ixE prev g e = e := by
  unfold ixE
  cases idxN prev g with
  | none => exact failE_ne h
  | some k => rfl
/-- the errors of a round: behind the index, behind the look into gone, behind the number, at the end -/
def ce1 (prev : Int) (r : List Nat) : Nat := ixE prev (numN r 0) (numE r 0)
def ck (prev : Int) (r : List Nat) : Int := ixV prev (numN r 0)
def ce2 (G : List Int) (prev : Int) (r : List Nat) : Nat := okE (!inL G (ck prev r)) (ce1 prev r)
def cz (G : List Int) (prev : Int) (r : List Nat) : Nat := numN (numR r 0) (ce2 G prev r)
def cr (G : List Int) (prev : Int) (r : List Nat) : List Nat := numR (numR r 0) (ce2 G prev r)
def ce3 (G : List Int) (prev : Int) (r : List Nat) : Nat := numE (numR r 0) (ce2 G prev r)
def cv (a : List (Int × Int)) (G : List Int) (prev : Int) (r : List Nat) : Int := newV a (ck prev r) (cz G prev r)
def ce4 (a : List (Int × Int)) (G : List Int) (prev : Int) (r : List Nat) : Nat := okE (!stays a (ck prev r) (cv a G prev r)) (ce3 G prev r)
theorem chg_step (a : List (Int × Int)) (G : List Int) (n : Nat) (prev : Int) (rest : List Nat) (C : List (Int × Int)) (R : Rdr (List (Int × Int))) (h : preC C (chgQ a G (n + 1) prev rest) = R) :
    (ce4 a G prev rest = 0 ∧ preC (C ++ [(ck prev rest, cv a G prev rest)]) (chgQ a G n (ck prev rest) (cr G prev rest)) = R) ∨
    (ce4 a G prev rest ≠ 0 ∧ R = .bad (ce4 a G prev rest)) := by
  rw [chgQ] at h
  cases hv : readV rest with
  | bad e =>
    rw [hv] at h
    have he : e ≠ 0 := by have := readV_bad hv; omega
    have e1 : numE rest 0 = e := by unfold numE; rw [if_pos rfl, hv]; rfl
    have e2 : ce1 prev rest = e := by unfold ce1; rw [e1, ixE_ne he]
    have e3 : ce2 G prev rest = e := by unfold ce2; rw [e2, okE_ne he]
    have e4 : ce3 G prev rest = e := by unfold ce3; rw [e3, numE_ne he]
    have e5 : ce4 a G prev rest = e := by unfold ce4; rw [e4, okE_ne he]
    rw [e5]
    exact .inr ⟨he, h.symm⟩
  | ok g r =>
    rw [hv] at h
    simp only at h
    have e1 : numE rest 0 = 0 := by unfold numE; rw [if_pos rfl, hv]; rfl
    have e2 : numN rest 0 = g := by unfold numN; rw [if_pos rfl, hv]; rfl
    have e3 : numR rest 0 = r := by unfold numR; rw [if_pos rfl, hv]; rfl
    have n8 : (8 : Nat) ≠ 0 := by omega
    cases hi : idxN prev g with
    | none =>
      rw [hi] at h
      have f1 : ce1 prev rest = 8 := by unfold ce1 ixE; rw [e2, e1, hi]; rfl
      have f3 : ce2 G prev rest = 8 := by unfold ce2; rw [f1, okE_ne n8]
      have f4 : ce3 G prev rest = 8 := by unfold ce3; rw [f3, numE_ne n8]
      have f5 : ce4 a G prev rest = 8 := by unfold ce4; rw [f4, okE_ne n8]
      rw [f5]
      exact .inr ⟨n8, h.symm⟩
    | some k =>
      rw [hi] at h
      simp only at h
      have f1 : ce1 prev rest = 0 := by unfold ce1 ixE; rw [e2, e1, hi]
      have f2 : ck prev rest = k := by unfold ck ixV; rw [e2, hi]
      cases hg : inL G k with
      | true =>
        rw [hg] at h
        have f3 : ce2 G prev rest = 8 := by unfold ce2; rw [f1, f2, hg]; rfl
        have f4 : ce3 G prev rest = 8 := by unfold ce3; rw [f3, numE_ne n8]
        have f5 : ce4 a G prev rest = 8 := by unfold ce4; rw [f4, okE_ne n8]
        rw [f5]
        exact .inr ⟨n8, h.symm⟩
      | false =>
        rw [hg] at h
        simp only [cond_false] at h
        have f3 : ce2 G prev rest = 0 := by unfold ce2; rw [f1, f2, hg]; rfl
        cases hz : readV r with
        | bad e =>
          rw [hz] at h
          have he : e ≠ 0 := by have := readV_bad hz; omega
          have f4 : ce3 G prev rest = e := by unfold ce3; rw [f3, e3]; unfold numE; rw [if_pos rfl, hz]; rfl
          have f5 : ce4 a G prev rest = e := by unfold ce4; rw [f4, okE_ne he]
          rw [f5]
          exact .inr ⟨he, h.symm⟩
        | ok z r1 =>
          rw [hz] at h
          simp only at h
          have f4 : ce3 G prev rest = 0 := by unfold ce3; rw [f3, e3]; unfold numE; rw [if_pos rfl, hz]; rfl
          have f6 : cz G prev rest = z := by unfold cz; rw [f3, e3]; unfold numN; rw [if_pos rfl, hz]; rfl
          have f7 : cr G prev rest = r1 := by unfold cr; rw [f3, e3]; unfold numR; rw [if_pos rfl, hz]; rfl
          have f8 : cv a G prev rest = newV a k z := by unfold cv; rw [f2, f6]
          cases hs : stays a k (newV a k z) with
          | true =>
            rw [hs] at h
            have f5 : ce4 a G prev rest = 8 := by unfold ce4; rw [f4, f2, f8, hs]; rfl
            rw [f5]
            exact .inr ⟨n8, h.symm⟩
          | false =>
            rw [hs] at h
            simp only [cond_false] at h
            have f5 : ce4 a G prev rest = 0 := by unfold ce4; rw [f4, f2, f8, hs]; rfl
            refine .inl ⟨f5, ?_⟩
            rw [← h, f2, f7, f8]
            cases chgQ a G n k r1 with
            | bad e => rfl
            | ok l r' => simp [preC]

def ChgTo (w : World) (p : Nat) (ro : Option Addr) (len : Nat) (R : Rdr (List (Int × Int))) (r : Ending) (w' : World) : Prop := ∃ (C : List (Int × Int)) (co : Option Addr) (cc : Nat) (r' : List Nat) (e' : Nat) (ro' : Option Addr) (rc' : Nat),
  r = .returned (.slice co C.length cc) ∧ Seg w' 38 2 co C.length cc (C.flatMap clV) ∧ (∀ k ∈ blk co, w.heap.size ≤ k) ∧ C.length ≤ len + 1 ∧ (∀ x ∈ C, bd64 x.1 ∧ bd64 x.2) ∧ IsDec w' p ro' r' rc' e' ∧ BytesB r' ∧ r'.length ≤ len ∧ (∀ k ∈ blk ro', k ∈ blk ro) ∧ Fr [p] w w' ∧ ((e' = 0 ∧ R = .ok C r') ∨ (e' ≠ 0 ∧ R = .bad e'))
/-- the state at the head of a round -/
structure ChgAt (w wr : World) (p : Nat) (ro : Option Addr) (len : Nat) (a : List (Int × Int)) (G : List Int) (R : Rdr (List (Int × Int))) (prev : Int) (n : Nat) (C : List (Int × Int)) (co : Option Addr) (cc : Nat) (r : List Nat) (e : Nat) (ro2 : Option Addr) (rc2 : Nat) : Prop where
  hp : -1 ≤ prev ∧ prev ≤ maxI
  hn : n < 18446744073709551616
  dec : IsDec wr p ro2 r rc2 e
  bts : BytesB r
  hl : r.length ≤ len
  hb : ∀ k ∈ blk ro2, k ∈ blk ro
  fr : Fr [p] w wr
  seg : Seg wr 38 2 co C.length cc (C.flatMap clV)
  hc : ∀ k ∈ blk co, w.heap.size ≤ k
  bd : ∀ x ∈ C, bd64 x.1 ∧ bd64 x.2
  cl : C.length ≤ len + 1
  st : (e = 0 ∧ preC C (chgQ a G n prev r) = R ∧ C.length + r.length ≤ len) ∨ (e ≠ 0 ∧ R = .bad e)
theorem cr_lt {a : List (Int × Int)} {G : List Int} {prev : Int} {r : List Nat} (hb : BytesB r) (h : ce4 a G prev r = 0) : (cr G prev r).length < r.length := by
  have h3 := okE_zero h
  unfold ce3 at h3
  have h2 : ce2 G prev r = 0 := by
    by_cases h0 : ce2 G prev r = 0
    · exact h0
    · rw [numE_ne h0] at h3; exact absurd h3 h0
  have h1 := ixE_zero (okE_zero h2)
  have a1 := numR_lt hb h1
  have a2 := numR_len (ce2 G prev r) (numR_bytes 0 hb)
  unfold cr
  omega
theorem cr_le (G : List Int) (prev : Int) {r : List Nat} (hb : BytesB r) : (cr G prev r).length ≤ r.length := by
  have a1 := numR_len 0 hb
  have a2 := numR_len (ce2 G prev r) (numR_bytes 0 hb)
  unfold cr
  omega
/-- a round: what the next state is -/
theorem ChgAt.next {w wr w2 w3 : World} {p : Nat} {ro : Option Addr} {len : Nat} {a : List (Int × Int)} {G : List Int} {R : Rdr (List (Int × Int))} {prev : Int} {n : Nat} {C : List (Int × Int)} {co co2 : Option Addr} {cc cc2 : Nat} {r : List Nat} {ro2 ro3 : Option Addr} {rc2 rc3 : Nat} (h : ChgAt w wr p ro len a G R prev (n + 1) C co cc r 0 ro2 rc2) (hpw : p < w.heap.size)
    (hf1 : Fr [p] wr w2) (hbk : ∀ k ∈ blk ro3, k ∈ blk ro2) (hd : IsDec w2 p ro3 (cr G prev r) rc3 (ce4 a G prev r))
    (hs : Seg w3 38 2 co2 (C.length + 1) cc2 (C.flatMap clV ++ clV (ck prev r, cv a G prev r))) (hf3 : Fr (blk co) w2 w3) (hx3 : Ext (blk co) w2 (blk co2)) (hro : ∀ k ∈ blk ro, k < w.heap.size) (hcv : bd64 (cv a G prev r)) :
    ChgAt w w3 p ro len a G R (ck prev r) n (C ++ [(ck prev r, cv a G prev r)]) co2 cc2 (cr G prev r) (ce4 a G prev r) ro3 rc3 := by
  have hne : p ∉ blk co := fun hk => by have := h.hc p hk; omega
  have hbk2 : ∀ k ∈ blk ro3, k ∈ blk ro := fun k hk => h.hb k (hbk k hk)
  have hck : -1 ≤ ck prev r ∧ ck prev r ≤ maxI := ixV_bd _ h.hp
  have hlen : (C ++ [(ck prev r, cv a G prev r)]).length = C.length + 1 := by simp
  refine ⟨hck, by have := h.hn; omega, ⟨hf3.blk hd.head hne, hd.rd.fr hf3 (fun k hk hm => ?_), hd.fit, hd.cap, hd.out⟩, numR_bytes _ (numR_bytes 0 h.bts), Nat.le_trans (cr_le G prev h.bts) h.hl, hbk2, (h.fr.trans hf1 (Ext.refl _ _)).trans hf3 (fun k hk => .inr (h.hc k hk)), ?_, fun k hk => ?_, fun x hx => ?_, ?_, ?_⟩
  · have := hro k (hbk2 k hk); have := h.hc k hm; omega
  · rw [hlen, List.flatMap_append]; simpa using hs
  · rcases hx3 k hk with q | q
    · exact h.hc k q
    · have := h.fr.size; have := hf1.size; omega
  · rcases List.mem_append.1 hx with q | q
    · exact h.bd x q
    · simp at q
      subst q
      refine ⟨?_, hcv⟩
      have := hck
      unfold maxI at this
      unfold bd64
      show -9223372036854775808 ≤ ck prev r ∧ ck prev r ≤ 9223372036854775807
      omega
  · rw [hlen]
    rcases h.st with ⟨-, -, hm⟩ | ⟨h0, -⟩
    · omega
    · exact absurd rfl h0
  · rcases h.st with ⟨-, hR, hm⟩ | ⟨h0, -⟩
    · rcases chg_step a G n prev r C R hR with ⟨e1, e2⟩ | ⟨e1, e2⟩
      · exact .inl ⟨e1, e2, by rw [hlen]; have := cr_lt h.bts e1; omega⟩
      · exact .inr ⟨e1, e2⟩
    · exact absurd rfl h0
end Go.Proofs.Ytcgndeggemceaaa
