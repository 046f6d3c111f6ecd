/- Package snapshot: the decoder: removed. -/
import Derived.Test.YtcgndeggemceaaaMap28
import Derived.Carry
import Derived.Deep.QuietTactic
import Derived.BigQuiet
namespace Go.Proofs.Ytcgndeggemceaaa
open Go.RowKit Go.Maps

def preR (G : List Int) : Rdr (List Int) → Rdr (List Int)
  | .bad e => .bad e
  | .ok l r => .ok (G ++ l) r
def remR (a : List (Int × Int)) (rest : List Nat) : Rdr (List Int) := match readV rest with
  | .bad e => .bad e
  | .ok n r => remP a n (-1) r
theorem preR_nil (x : Rdr (List Int)) : preR [] x = x := by cases x <;> rfl
theorem failE_ne {e x : Nat} (h : e ≠ 0) : failE e x = e := by unfold failE; rw [if_neg h]
theorem failE_z (x : Nat) : failE 0 x = x := by unfold failE; rw [if_pos rfl]
def okE (b : Bool) (e : Nat) : Nat := if b then e else failE e 8
theorem numR_len {rest : List Nat} (e : Nat) (hb : BytesB rest) : (numR rest e).length ≤ rest.length := by
  unfold numR
  split
  · cases h : readV rest with
    | bad x => exact Nat.le_refl _
    | ok n r => rw [(readV_ok hb h).1]; simp [rdrR]
  · exact Nat.le_refl _
theorem numR_lt {rest : List Nat} (hb : BytesB rest) (h : numE rest 0 = 0) : (numR rest 0).length < rest.length := by
  unfold numE at h
  unfold numR
  rw [if_pos rfl] at h ⊢
  cases hv : readV rest with
  | bad x => rw [hv] at h; have := readV_bad hv; have h' : x = 0 := h; omega
  | ok n r =>
    have := varN_len_pos n
    have e : rest.length = (varN n).length + r.length := by rw [← List.length_append, ← (readV_ok hb hv).1]
    simp only [rdrR]
    omega
theorem ixE_zero {prev : Int} {g e : Nat} (h : ixE prev g e = 0) : e = 0 := by
  unfold ixE at h
  cases hi : idxN prev g with
  | none => rw [hi] at h; unfold failE at h; simp only at h; split at h <;> omega
  | some k => rw [hi] at h; exact h
theorem okE_zero {b : Bool} {e : Nat} (h : okE b e = 0) : e = 0 := by
  unfold okE failE at h
  split at h
  · exact h
  · split at h <;> omega
theorem rem_step (a : List (Int × Int)) (n : Nat) (prev : Int) (rest : List Nat) (G : List Int) (R : Rdr (List Int)) (h : preR G (remP a (n + 1) prev rest) = R) :
    (okE (has a (ixV prev (numN rest 0))) (ixE prev (numN rest 0) (numE rest 0)) = 0 ∧ preR (G ++ [ixV prev (numN rest 0)]) (remP a n (ixV prev (numN rest 0)) (numR rest 0)) = R) ∨
    (okE (has a (ixV prev (numN rest 0))) (ixE prev (numN rest 0) (numE rest 0)) ≠ 0 ∧ R = .bad (okE (has a (ixV prev (numN rest 0))) (ixE prev (numN rest 0) (numE rest 0)))) := by
  rw [remP] at h
  cases hv : readV rest with
  | bad e =>
    rw [hv] at h
    have he : e ≠ 0 := by have := readV_bad hv; omega
    have e1 : numE rest 0 = e := by unfold numE; rw [if_pos rfl, hv]; rfl
    have e2 : ∀ g, ixE prev g e = e := fun g => by
      unfold ixE
      cases idxN prev g with
      | none => exact failE_ne he
      | some k => rfl
    have e3 : ∀ b, okE b e = e := fun b => by unfold okE; split; rfl; exact failE_ne he
    rw [e1, e2, e3]
    exact .inr ⟨he, h.symm⟩
  | ok g r =>
    rw [hv] at h
    simp only at h
    have e1 : numE rest 0 = 0 := by unfold numE; rw [if_pos rfl, hv]; rfl
    have e2 : numN rest 0 = g := by unfold numN; rw [if_pos rfl, hv]; rfl
    have e3 : numR rest 0 = r := by unfold numR; rw [if_pos rfl, hv]; rfl
    rw [e1, e2, e3]
    cases hi : idxN prev g with
    | none =>
      rw [hi] at h
      have f1 : ixE prev g 0 = 8 := by unfold ixE; rw [hi]; rfl
      have f2 : ∀ b, okE b 8 = 8 := fun b => by unfold okE; split <;> rfl
      rw [f1, f2]
      exact .inr ⟨by omega, h.symm⟩
    | some k =>
      rw [hi] at h
      simp only at h
      have f1 : ixE prev g 0 = 0 := by unfold ixE; rw [hi]
      have f2 : ixV prev g = k := by unfold ixV; rw [hi]
      rw [f1, f2]
      cases hh : has a k with
      | false =>
        rw [hh] at h
        exact .inr ⟨by decide, h.symm⟩
      | true =>
        rw [hh] at h
        simp only [cond_true] at h
        refine .inl ⟨rfl, ?_⟩
        rw [← h]
        cases remP a n k r with
        | bad e => rfl
        | ok l r' => simp [preR]

def RemTo (w : World) (p : Nat) (ro : Option Addr) (len : Nat) (R : Rdr (List Int)) (r : Ending) (w' : World) : Prop := ∃ (G : List Int) (m : Nat) (r' : List Nat) (e' : Nat) (ro' : Option Addr) (rc' : Nat),
  r = .returned (.map (some w.heap.size)) ∧ IsDec w' p ro' r' rc' e' ∧ BytesB r' ∧ r'.length ≤ len ∧ (∀ k ∈ blk ro', k ∈ blk ro) ∧ Fr [p] w w' ∧ IsS w' w.heap.size m (inL G) ∧ ((e' = 0 ∧ R = .ok G r') ∨ (e' ≠ 0 ∧ R = .bad e'))
/-- the state at the head of a round -/
structure RemAt (w wr : World) (p : Nat) (ro : Option Addr) (len : Nat) (a : List (Int × Int)) (R : Rdr (List Int)) (prev : Int) (n : Nat) (G : List Int) (m : Nat) (r : List Nat) (e : Nat) (ro2 : Option Addr) (rc2 : Nat) : Prop where
  hp : -1 ≤ prev ∧ prev ≤ maxI
  hn : n < 18446744073709551616
  dec : IsDec wr p ro2 r rc2 e
  bts : BytesB r
  hl : r.length ≤ len
  hb : ∀ k ∈ blk ro2, k ∈ blk ro
  fr : Fr [p] w wr
  set : IsS wr w.heap.size m (inL G)
  st : (e = 0 ∧ preR G (remP a n prev r) = R ∧ m + r.length ≤ len) ∨ (e ≠ 0 ∧ R = .bad e)
theorem inL_snoc (G : List Int) (k x : Int) : (x == k || inL G x) = inL (G ++ [k]) x := by
  unfold inL
  rw [Bool.eq_iff_iff]
  simp [or_comm]
/-- a round: what the next state is -/
theorem RemAt.next {w wr w1 w2 w3 : World} {p : Nat} {ro : Option Addr} {len : Nat} {a : List (Int × Int)} {R : Rdr (List Int)} {prev : Int} {n : Nat} {G : List Int} {m : Nat} {r : List Nat} {ro2 ro3 : Option Addr} {rc2 rc3 : Nat} (h : RemAt w wr p ro len a R prev (n + 1) G m r 0 ro2 rc2) (hpw : p < w.heap.size)
    (hf1 : Fr [p] wr w1) (hbk : ∀ k ∈ blk ro3, k ∈ blk ro2) (hf2 : Fr [p] w1 w2) (hd : IsDec w2 p ro3 (numR r 0) rc3 (okE (has a (ixV prev (numN r 0))) (ixE prev (numN r 0) (numE r 0))))
    (hs : IsS w3 w.heap.size (m + 1) (fun x => x == ixV prev (numN r 0) || inL G x)) (hf3 : Fr [w.heap.size] w2 w3) (hro : w.heap.size ∉ blk ro) :
    RemAt w w3 p ro len a R (ixV prev (numN r 0)) n (G ++ [ixV prev (numN r 0)]) (m + 1) (numR r 0) (okE (has a (ixV prev (numN r 0))) (ixE prev (numN r 0) (numE r 0))) ro3 rc3 := by
  have hne : p ∉ [w.heap.size] := by simp; omega
  have hbk2 : ∀ k ∈ blk ro3, k ∈ blk ro := fun k hk => h.hb k (hbk k hk)
  refine ⟨ixV_bd _ h.hp, by have := h.hn; omega, ⟨hf3.blk hd.head hne, hd.rd.fr hf3 (fun k hk hm => ?_), hd.fit, hd.cap, hd.out⟩, numR_bytes 0 h.bts, Nat.le_trans (numR_len 0 h.bts) h.hl, hbk2, ((h.fr.trans hf1 (Ext.refl _ _)).trans hf2 (Ext.refl _ _)).trans hf3 (fun k hk => .inr (by simp at hk; omega)), hs.congr (Nat.le_refl _) (fun x _ => inL_snoc _ _ _), ?_⟩
  · simp at hm; subst hm; exact hro (hbk2 _ hk)
  · rcases h.st with ⟨-, hR, hm⟩ | ⟨h0, -⟩
    · rcases rem_step a n prev r G R hR with ⟨e1, e2⟩ | ⟨e1, e2⟩
      · exact .inl ⟨e1, e2, by have := numR_lt h.bts (ixE_zero (okE_zero e1)); omega⟩
      · exact .inr ⟨e1, e2⟩
    · exact absurd rfl h0

set_option maxRecDepth 100000 in
set_option maxHeartbeats 8000000 in
theorem removed_any {w : World} {p : Nat} {ro : Option Addr} {rest : List Nat} {rc : Nat} (h : IsDec w p ro rest rc 0) (hb : BytesB rest) (hlen : rest.length < 4611686018427387904) {a : List (Int × Int)} {bv nv : Nat} (hm : IsM w bv nv (has a) (getv a)) (hvp : bv ≠ p) (hrb : ∀ k ∈ blk ro, k < w.heap.size) :
    Calls Try.prog 37 #[.pointer (some ⟨p, 0, none⟩), .map (some bv)] w (RemTo w p ro rest.length (remR a rest)) := by
  have hpw : p < w.heap.size := lt_of_blk h.head
  have HVP := Lib.hid hvp
  have HPW := Lib.hid hpw
  have HM := Lib.hid hm
  have hro : w.heap.size ∉ blk ro := fun hk => by have := hrb _ hk; omega
  have HRO := Lib.hid hro
  have hmm := @run_makeMap Try.prog
  obtain ⟨W, hW⟩ : ∃ W, W = w.alloc (.map #[] 0) := ⟨_, rfl⟩
  have hfW : Fr [] w W := by rw [hW]; exact (Fr.refl _ _).alloc _
  have HFW := Lib.hid hfW
  have HSW := Lib.hid (by rw [hW]; exact isS_made w : IsS W w.heap.size 0 (fun _ => false))
  have HNUM := Lib.hid (number_any (h.old hfW) hb)
  have HLEN := Lib.hid hlen
  obtain ⟨R, hR⟩ : ∃ R, R = remR a rest := ⟨_, rfl⟩
  rw [← hR]
  have HR := Lib.hid hR
  have HST := Lib.hid (fun (W1 : World) (ro1 : Option Addr) (rc1 : Nat) (hd : IsDec W1 p ro1 (numR rest 0) rc1 (numE rest 0)) (hf : Fr [p] W W1) (hbk : ∀ k ∈ blk ro1, k ∈ blk ro) => (⟨by unfold maxI; omega, numN_lt 0 hb, hd, numR_bytes 0 hb, numR_len 0 hb, hbk, (hfW.mono (by simp)).trans hf (Ext.refl _ _), HSW.out.fr hf (by simp; omega), by
      rw [hR]
      unfold remR numN numR numE
      simp only [if_pos]
      cases hv : readV rest with
      | bad e => exact .inr ⟨by have := readV_bad hv; show e ≠ 0; omega, rfl⟩
      | ok n r => exact .inl ⟨rfl, preR_nil _, by have := numR_len 0 hb; unfold numR at this; rw [if_pos rfl, hv] at this; omega⟩⟩ : RemAt w W1 p ro rest.length a R (-1) (numN rest 0) [] 0 (numR rest 0) (numE rest 0) ro1 rc1))
  clear h hb hlen hm hvp hpw hro hfW hR
  obtain ⟨n0, hn0⟩ : ∃ n0, n0 = numN rest 0 := ⟨_, rfl⟩
  rw [← hn0] at HNUM HST
  clear hn0
  go_enter Try.func37, Try.ntmps37
  go_wp2_with fail
  rw [← hW]
  clear hW
  refine HNUM.out.mono ?_
  rintro r w1 ⟨rfl, ro1, rc1, hd, hf, hbk⟩
  have HS := Lib.hid (HST.out _ _ _ hd hf hbk)
  clear hd hf hbk
  go_wp2_with fail
  go_loopw [6, 7] (fun iv nv' wr => ∃ (prev : Int) (n : Nat) (G : List Int) (m : Nat) (r : List Nat) (e : Nat) (ro2 : Option Addr) (rc2 : Nat), iv = .int .i64 prev ∧ nv' = .int .u64 (n : Int) ∧ RemAt w wr p ro rest.length a R prev n G m r e ro2 rc2) (fun _ nv' _ => (intOf nv').toNat)
  case atStart => exact ⟨-1, n0, [], 0, _, _, _, _, rfl, rfl, HS.out⟩
  case round =>
    clear HS
    obtain ⟨prev, n, G, m, r, e, ro2, rc2, rfl, rfl, hat⟩ := hrel
    have HA := Lib.hid hat
    have c1 : wr.cell? ⟨p, 1, none⟩ = some (.int .i64 (e : Int)) := cell_blk hat.dec.head 1
    have hn := hat.hn
    have hmR : ∀ u : World, Fr [p] wr u → IsM u bv nv (has a) (getv a) := fun u hu => (HM.out.fr hat.fr (by simp; exact HVP.out)).fr hu (by simp; exact HVP.out)
    have HMR := Lib.hid hmR
    clear hat hmR
    have hend : (n = 0 ∨ e ≠ 0) → RemTo w p ro rest.length R (.returned (.map (some w.heap.size))) wr := fun hc => by
      refine ⟨G, m, r, e, ro2, rc2, rfl, HA.out.dec, HA.out.bts, HA.out.hl, HA.out.hb, HA.out.fr, HA.out.set, ?_⟩
      rcases HA.out.st with ⟨h1, h2, -⟩ | h1
      · have h0 : n = 0 := by rcases hc with hc | hc; exact hc; exact absurd h1 hc
        subst h0
        exact .inl ⟨h1, by rw [← h2]; simp [remP, preR]⟩
      · exact .inr h1
    have HEND := Lib.hid hend
    clear hend
    rcases Nat.eq_zero_or_pos n with h0 | h0
    · have hg0 : ¬ 0 < n := by omega
      have hc0 : decide ((0 : Int) < (n : Int)) = false := decide_eq_false (by omega)
      have HR0 := Lib.hid (HEND.out (.inl h0))
      clear h0
      go_wp2_with fail
      go_ret
      exact HR0.out
    · have hc0 : decide ((0 : Int) < (n : Int)) = true := decide_eq_true (by omega)
      by_cases he : e = 0
      · have e1 : ((e : Int) == 0) = true := beq_iff_eq.2 (by omega)
        subst he
        obtain ⟨n', rfl⟩ : ∃ n', n = n' + 1 := ⟨n - 1, by omega⟩
        have HIX := Lib.hid (index_any HA.out.dec HA.out.bts HA.out.hp)
        have hkb : bd64 (ixV prev (numN r 0)) := by have := ixV_bd (numN r 0) HA.out.hp; unfold maxI at this; unfold bd64; omega
        have hml : m < maxLen := by
          have := HLEN.out
          rcases HA.out.st with ⟨-, -, q⟩ | ⟨q, -⟩
          · unfold maxLen; omega
          · exact absurd rfl q
        have HNX := Lib.hid (fun (w1 w2 w3 : World) (ro3 : Option Addr) (rc3 : Nat) a1 a2 a3 a4 a5 a6 => HA.out.next (w1 := w1) (w2 := w2) (w3 := w3) (ro3 := ro3) (rc3 := rc3) HPW.out a1 a2 a3 a4 a5 a6 HRO.out)
        obtain ⟨k, hk⟩ : ∃ k, k = ixV prev (numN r 0) := ⟨_, rfl⟩
        obtain ⟨E, hE⟩ : ∃ E, E = ixE prev (numN r 0) (numE r 0) := ⟨_, rfl⟩
        obtain ⟨r1, hr1⟩ : ∃ r1, r1 = numR r 0 := ⟨_, rfl⟩
        rw [← hk] at HIX hkb HNX
        rw [← hE] at HIX HNX
        rw [← hr1] at HIX HNX
        have HKB := Lib.hid hkb
        have HML := Lib.hid hml
        have wn : IntKind.u64.wrap (((n' + 1 : Nat) : Int) - 1) = (n' : Int) := by rw [show ((n' + 1 : Nat) : Int) - 1 = (n' : Int) by omega]; exact IntWalk.u64_in _ (by omega)
        clear hk hE hr1 hkb hml HEND
        go_wp2_with fail
        refine HIX.out.mono ?_
        rintro rr w1 ⟨rfl, ro3, rc3, hd, hf, hbk⟩
        have hlk := (HMR.out _ hf).look HKB.out
        have HD := Lib.hid hd
        have HF := Lib.hid hf
        have HBK := Lib.hid hbk
        have HS1 := Lib.hid (HA.out.set.fr hf (by simp; have := HPW.out; omega))
        clear hd hf hbk
        cases hh : has a k with
        | true =>
          rw [hh] at hlk HNX
          obtain ⟨w3, hst, hs3, hf3⟩ := HS1.out.store HML.out HKB.out
          have HN := Lib.hid (HNX.out _ _ _ _ _ HF.out HBK.out (Fr.refl _ _) HD.out hs3 hf3)
          clear hs3 hf3
          go_wp2_with fail
          go_roundw
          case rel => exact ⟨k, n', G ++ [k], m + 1, r1, _, ro3, rc3, by go_num, by go_num, HN.out⟩
          case measure => simp [intOf]
        | false =>
          rw [hh] at hlk HNX
          go_wp2_with fail
          refine (fail_any HD.out 8).mono ?_
          rintro rr w2 ⟨rfl, hd2, hf2⟩
          obtain ⟨w3, hst, hs3, hf3⟩ := (HS1.out.fr hf2 (by simp; have := HPW.out; omega)).store HML.out HKB.out
          have HN := Lib.hid (HNX.out _ _ _ _ _ HF.out HBK.out hf2 hd2 hs3 hf3)
          clear hs3 hf3 hd2 hf2
          go_wp2_with fail
          go_roundw
          case rel => exact ⟨k, n', G ++ [k], m + 1, r1, _, ro3, rc3, by go_num, by go_num, HN.out⟩
          case measure => simp [intOf]
      · have e1 : ((e : Int) == 0) = false := beq_eq_false_iff_ne.2 (by omega)
        have HR0 := Lib.hid (HEND.out (.inr he))
        clear he
        go_wp2_with fail
        go_ret
        exact HR0.out
end Go.Proofs.Ytcgndeggemceaaa
