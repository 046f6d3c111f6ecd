/- Idx28, Map28, Rem28, Chg28 (merged by merge.py). -/
import Derived.Test.YtcgndeggemceaaaZ288
import Derived.Deep.QuietTactic
import Derived.BigQuiet
import Derived.Maps.OwnSet
import Derived.WalkArith
import Derived.Carry
import Derived.Deep.DeepCutAuto
import Derived.Laws.StructEq
/- Package snapshot: the decoder: index. -/
namespace Go.Proofs.Ytcgndeggemceaaa
open Go.RowKit

def ixV (prev : Int) (g : Nat) : Int := match idxN prev g with | none => prev | some k => k
def ixE (prev : Int) (g e : Nat) : Nat := match idxN prev g with | none => failE e 8 | some _ => e
theorem ixV_bd {prev : Int} (g : Nat) (hp : -1 ≤ prev ∧ prev ≤ maxI) : -1 ≤ ixV prev g ∧ ixV prev g ≤ maxI := by
  unfold ixV
  cases h : idxN prev g with
  | none => exact hp
  | some k => obtain ⟨h1, h2, h3⟩ := idxN_inv h; exact ⟨by show -1 ≤ k; omega, h2⟩
theorem numN_lt {rest : List Nat} (e : Nat) (hb : BytesB rest) : numN rest e < 18446744073709551616 := by
  unfold numN
  split
  · cases h : readV rest with
    | bad x => show 0 < 18446744073709551616; omega
    | ok n r => exact (readV_ok hb h).2
  · omega
theorem numR_bytes {rest : List Nat} (e : Nat) (hb : BytesB rest) : BytesB (numR rest e) := by
  unfold numR
  split
  · cases h : readV rest with
    | bad x => exact hb
    | ok n r =>
      intro x hx
      exact hb x (by rw [(readV_ok hb h).1]; exact List.mem_append_right _ hx)
  · exact hb

def IdxTo (w : World) (p : Nat) (ro : Option Addr) (k : Int) (rest : List Nat) (e : Nat) (r : Ending) (w' : World) : Prop := r = .returned (.int .i64 k) ∧ DecTo w p ro rest e w'

set_option maxRecDepth 100000 in
set_option maxHeartbeats 8000000 in
theorem index_any {w : World} {p : Nat} {ro : Option Addr} {rest : List Nat} {rc e : Nat} (h : IsDec w p ro rest rc e) (hb : BytesB rest) {prev : Int} (hp : -1 ≤ prev ∧ prev ≤ maxI) :
    Calls Try.prog 53 #[.pointer (some ⟨p, 0, none⟩), .int .i64 prev] w (IdxTo w p ro (ixV prev (numN rest e)) (numR rest e) (ixE prev (numN rest e) (numE rest e))) := by
  have HNUM := Lib.hid (number_any h hb)
  have hn := numN_lt e hb
  obtain ⟨n, hn2⟩ : ∃ n, n = numN rest e := ⟨_, rfl⟩
  rw [← hn2] at HNUM hn ⊢
  obtain ⟨R, hR⟩ : ∃ R, R = numR rest e := ⟨_, rfl⟩
  obtain ⟨E, hE⟩ : ∃ E, E = numE rest e := ⟨_, rfl⟩
  rw [← hR, ← hE] at HNUM ⊢
  unfold maxI at hp
  clear h hb hn2 hR hE
  have w1 : IntKind.i64.wrap (2147483647 - prev) = 2147483647 - prev := IntWalk.i64_in _ (by omega)
  have w2 : IntKind.i64.wrap (2147483647 - prev - 1) = 2147483647 - prev - 1 := IntWalk.i64_in _ (by omega)
  have w3 : IntKind.i64.wrap (prev + 1) = prev + 1 := IntWalk.i64_in _ (by omega)
  by_cases hm : prev = 2147483647
  · have hi : idxN prev n = none := by unfold idxN maxI; rw [if_pos (.inr hm)]
    have HV := Lib.hid (by unfold ixV; rw [hi] : ixV prev n = prev)
    have HE := Lib.hid (by unfold ixE; rw [hi] : ixE prev n E = failE E 8)
    have w4 : IntKind.u64.wrap (2147483647 - prev - 1) = 18446744073709551615 := by rw [hm]; decide
    have hgt : ¬ (18446744073709551615 : Int) < (n : Int) := by omega
    have heb : (prev == 2147483647) = true := beq_iff_eq.2 hm
    clear hi hm
    go_enter Try.func53, Try.ntmps53
    go_wp2_with fail
    refine HNUM.out.mono ?_
    rintro r wn ⟨rfl, ro1, rc1, hd, hf, hbk⟩
    have HD := Lib.hid hd
    have HF := Lib.hid hf
    clear hd hf
    go_wp2_with fail
    refine (fail_any HD.out 8).mono ?_
    rintro r wf ⟨rfl, hd2, hf2⟩
    have HD2 := Lib.hid hd2
    have HF2 := Lib.hid hf2
    clear hd2 hf2
    go_wp2
    go_ret
    exact ⟨by rw [HV.out]; rfl, by rw [HE.out]; exact ⟨ro1, rc1, HD2.out, HF.out.trans HF2.out (Ext.refl _ _), hbk⟩⟩
  · have heb : (prev == 2147483647) = false := beq_eq_false_iff_ne.2 hm
    have w4 : IntKind.u64.wrap (2147483647 - prev - 1) = 2147483647 - prev - 1 := IntWalk.u64_in _ (by omega)
    by_cases hg : 2147483647 - prev - 1 < (n : Int)
    · have hi : idxN prev n = none := by unfold idxN maxI; rw [if_pos (.inl hg)]
      have HV := Lib.hid (by unfold ixV; rw [hi] : ixV prev n = prev)
      have HE := Lib.hid (by unfold ixE; rw [hi] : ixE prev n E = failE E 8)
      clear hi hm
      go_enter Try.func53, Try.ntmps53
      go_wp2_with fail
      refine HNUM.out.mono ?_
      rintro r wn ⟨rfl, ro1, rc1, hd, hf, hbk⟩
      have HD := Lib.hid hd
      have HF := Lib.hid hf
      clear hd hf
      go_wp2_with fail
      refine (fail_any HD.out 8).mono ?_
      rintro r wf ⟨rfl, hd2, hf2⟩
      have HD2 := Lib.hid hd2
      have HF2 := Lib.hid hf2
      clear hd2 hf2
      go_wp2
      go_ret
      exact ⟨by rw [HV.out]; rfl, by rw [HE.out]; exact ⟨ro1, rc1, HD2.out, HF.out.trans HF2.out (Ext.refl _ _), hbk⟩⟩
    · have hi : idxN prev n = some (prev + 1 + (n : Int)) := by unfold idxN maxI; rw [if_neg (fun q => q.elim hg hm)]
      have HV := Lib.hid (by unfold ixV; rw [hi] : ixV prev n = prev + 1 + (n : Int))
      have HE := Lib.hid (by unfold ixE; rw [hi] : ixE prev n E = E)
      have w5 : IntKind.i64.wrap (n : Int) = (n : Int) := IntWalk.i64_in _ (by omega)
      have w6 : IntKind.i64.wrap (prev + 1 + (n : Int)) = prev + 1 + (n : Int) := IntWalk.i64_in _ (by omega)
      clear hi hm
      go_enter Try.func53, Try.ntmps53
      go_wp2_with fail
      refine HNUM.out.mono ?_
      rintro r wn ⟨rfl, ro1, rc1, hd, hf, hbk⟩
      have HD := Lib.hid hd
      have HF := Lib.hid hf
      clear hd hf
      go_wp2_with fail
      go_ret
      exact ⟨by rw [HV.out]; rfl, by rw [HE.out]; exact ⟨ro1, rc1, HD.out, HF.out, hbk⟩⟩
end Go.Proofs.Ytcgndeggemceaaa
/- Chapter 28: the maps that Apply makes: int → int and the set of int. -/
namespace Go.Proofs.Ytcgndeggemceaaa
open Go.RowKit Go.Maps

theorem lawI : Keyed Try.prog 3 := int_keyed Try.underlying3
theorem zeroI (w : World) : (zeroValue 3).run Try.prog w = .ok (.int .i64 0) w := by kernel_rfl
theorem zeroU (w : World) : (zeroValue 80).run Try.prog w = .ok (.agg #[]) w := by kernel_rfl
theorem WF {k : Int} (h : bd64 k) : (Lit.int .i64 k).wf = true := WalkArith.wf_i64 h
theorem keyI {k : Int} (h : bd64 k) : keyOf Try.prog 3 (.int .i64 k) = some (.int .i64 k) := keyOf_int_mk Try.underlying3 (WF h)
/-- block b is a map of at most n entries in which just the k with hs k lie, and gv k is what k holds (zero else) -/
def IsM (w : World) (b n : Nat) (hs : Int → Bool) (gv : Int → Int) : Prop := ∃ D : DataW Unit, w.ownsMap Try.prog 3 (plainElem Try.prog 3) b n D ∧ ∀ k, bd64 k → Maps.has D (.int .i64 k) = hs k ∧ D.atKey (.int .i64 k) (.lit (.int .i64 0)) = .lit (.int .i64 (gv k))
def IsS (w : World) (b n : Nat) (hs : Int → Bool) : Prop := ∃ D : DataW Unit, w.ownsMap Try.prog 3 unitElem b n D ∧ ∀ k, bd64 k → Maps.has D (.int .i64 k) = hs k
theorem IsM.lt {w : World} {b n : Nat} {hs : Int → Bool} {gv : Int → Int} (h : IsM w b n hs gv) : b < w.heap.size := let ⟨_, h1, _⟩ := h; h1.lt
theorem IsS.lt {w : World} {b n : Nat} {hs : Int → Bool} (h : IsS w b n hs) : b < w.heap.size := let ⟨_, h1, _⟩ := h; h1.lt
theorem IsM.fr {w w' : World} {b n : Nat} {hs : Int → Bool} {gv : Int → Int} {S : List Nat} (h : IsM w b n hs gv) (hf : Fr S w w') (hb : b ∉ S) : IsM w' b n hs gv := by
  obtain ⟨D, ⟨es, clock, h1, h2⟩, h3⟩ := h
  exact ⟨D, ⟨es, clock, hf.blk h1 hb, h2⟩, h3⟩
theorem IsS.fr {w w' : World} {b n : Nat} {hs : Int → Bool} {S : List Nat} (h : IsS w b n hs) (hf : Fr S w w') (hb : b ∉ S) : IsS w' b n hs := by
  obtain ⟨D, ⟨es, clock, h1, h2⟩, h3⟩ := h
  exact ⟨D, ⟨es, clock, hf.blk h1 hb, h2⟩, h3⟩
theorem IsM.congr {w : World} {b n m : Nat} {hs hs' : Int → Bool} {gv gv' : Int → Int} (h : IsM w b n hs gv) (hn : n ≤ m) (h1 : ∀ k, bd64 k → hs k = hs' k) (h2 : ∀ k, bd64 k → gv k = gv' k) : IsM w b m hs' gv' := by
  obtain ⟨D, a, c⟩ := h
  exact ⟨D, a.mono hn, fun k hk => ⟨by rw [← h1 k hk]; exact (c k hk).1, by rw [← h2 k hk]; exact (c k hk).2⟩⟩
theorem IsS.congr {w : World} {b n m : Nat} {hs hs' : Int → Bool} (h : IsS w b n hs) (hn : n ≤ m) (h1 : ∀ k, bd64 k → hs k = hs' k) : IsS w b m hs' := by
  obtain ⟨D, a, c⟩ := h
  exact ⟨D, a.mono hn, fun k hk => by rw [← h1 k hk]; exact c k hk⟩
theorem mapTurned_fr {w w' : World} {b : Nat} (h : w.mapTurned w' b) : Fr [b] w w' := by
  obtain ⟨es, clock, es', clock', hb, rfl⟩ := h
  refine ⟨rfl, rfl, rfl, by simp [ChangeMaps.setBlock], fun k hk hn => ?_⟩
  exact ChangeMaps.heap_setBlock_other hb _ (by simpa using hn)
theorem IsM.look {w : World} {b n : Nat} {hs : Int → Bool} {gv : Int → Int} (h : IsM w b n hs gv) {k : Int} (hk : bd64 k) : (Instr.lookup 72 (.map (some b)) (.int .i64 k) true).run Try.prog w = .ok (.tuple #[.int .i64 (gv k), .bool (hs k)]) w := by
  obtain ⟨D, a, c⟩ := h
  obtain ⟨c1, c2⟩ := c k hk
  obtain ⟨v, ps, hr, hv⟩ := a.look_ok lawI Try.underlying72 (zeroI w) (plainElem_int (a := 0) Try.underlying3 (by decide)) (keyI hk)
  rw [hr, c1]
  obtain ⟨x, rfl, hx, -⟩ := plainElem_int_inv Try.underlying3 hv
  rw [c2] at hx
  cases hx
  rfl
theorem IsS.look {w : World} {b n : Nat} {hs : Int → Bool} (h : IsS w b n hs) {k : Int} (hk : bd64 k) : (Instr.lookup 76 (.map (some b)) (.int .i64 k) true).run Try.prog w = .ok (.tuple #[.agg #[], .bool (hs k)]) w := by
  obtain ⟨D, a, c⟩ := h
  obtain ⟨v, ps, hr, hv⟩ := a.look_ok lawI Try.underlying76 (zeroU w) unitElem_mk (keyI hk)
  rw [hr, c k hk]
  obtain ⟨rfl, -⟩ := unitElem_inv hv
  rfl
theorem key_is {k : Int} : WideAt.IsKeyLit (.int .i64 k) := by trivial
theorem key_ne {x k : Int} (h : x ≠ k) : (Lit.int .i64 x) ≠ (Lit.int .i64 k) := fun e => h (by cases e; rfl)
theorem IsM.store {w : World} {b n : Nat} {hs : Int → Bool} {gv : Int → Int} (h : IsM w b n hs gv) (hn : n < maxLen) {k v : Int} (hk : bd64 k) (hv : bd64 v) :
    ∃ w', (Instr.mapUpdate 72 (.map (some b)) (.int .i64 k) (.int .i64 v)).run Try.prog w = .ok () w' ∧ IsM w' b (n + 1) (fun x => x == k || hs x) (fun x => if x = k then v else gv x) ∧ Fr [b] w w' := by
  obtain ⟨D, a, c⟩ := h
  obtain ⟨w', hr, ho, ht⟩ := a.store lawI Try.underlying72 hn (keyI hk) (plainElem_int Try.underlying3 (WF hv))
  refine ⟨w', hr, ⟨_, ho, fun x hx => ?_⟩, mapTurned_fr ht⟩
  by_cases e : x = k
  · subst e
    exact ⟨by rw [has_put_same a.isMap key_is]; simp, by rw [atKey_put_same a.isMap key_is]; simp⟩
  · have e2 : (x == k) = false := beq_eq_false_iff_ne.2 e
    exact ⟨by rw [has_put_other (key_ne e)]; simp only [e2, Bool.false_or]; exact (c x hx).1, by rw [atKey_put_other (key_ne e)]; simp only [if_neg e]; exact (c x hx).2⟩
theorem IsS.store {w : World} {b n : Nat} {hs : Int → Bool} (h : IsS w b n hs) (hn : n < maxLen) {k : Int} (hk : bd64 k) :
    ∃ w', (Instr.mapUpdate 76 (.map (some b)) (.int .i64 k) (.agg #[])).run Try.prog w = .ok () w' ∧ IsS w' b (n + 1) (fun x => x == k || hs x) ∧ Fr [b] w w' := by
  obtain ⟨D, a, c⟩ := h
  obtain ⟨w', hr, ho, ht⟩ := a.store lawI Try.underlying76 hn (keyI hk) unitElem_mk
  refine ⟨w', hr, ⟨_, ho, fun x hx => ?_⟩, mapTurned_fr ht⟩
  by_cases e : x = k
  · subst e
    rw [has_put_same a.isMap key_is]; simp
  · have e2 : (x == k) = false := beq_eq_false_iff_ne.2 e
    rw [has_put_other (key_ne e)]; simp only [e2, Bool.false_or]; exact c x hx
theorem isM_made (w : World) : IsM (w.alloc (.map #[] 0)) w.heap.size 0 (fun _ => false) (fun _ => 0) := ⟨.map [], World.ownsMap_made _ _ _ _, fun _ _ => ⟨rfl, rfl⟩⟩
theorem isS_made (w : World) : IsS (w.alloc (.map #[] 0)) w.heap.size 0 (fun _ => false) := ⟨.map [], World.ownsMap_made _ _ _ _, fun _ _ => rfl⟩
end Go.Proofs.Ytcgndeggemceaaa
/- Package snapshot: the decoder: removed. -/
namespace Go.Proofs.Ytcgndeggemceaaa
open Go.RowKit Go.Maps

def preR (G : List Int) : Rdr (List Int) → Rdr (List Int)
  | .bad e => .bad e
  | .ok l r => .ok (G ++ l) r
def remR (a : List (Int × Int)) (rest : List Nat) : Rdr (List Int) := match readV rest with
  | .bad e => .bad e
  | .ok n r => remP a n (-1) r
theorem preR_nil (x : Rdr (List Int)) : preR [] x = x := by cases x <;> rfl
theorem failE_ne {e x : Nat} (h : e ≠ 0) : failE e x = e := by unfold failE; rw [if_neg h]
theorem failE_z (x : Nat) : failE 0 x = x := by unfold failE; rw [if_pos rfl]
def okE (b : Bool) (e : Nat) : Nat := if b then e else failE e 8
theorem numR_len {rest : List Nat} (e : Nat) (hb : BytesB rest) : (numR rest e).length ≤ rest.length := by
  unfold numR
  split
  · cases h : readV rest with
    | bad x => exact Nat.le_refl _
    | ok n r => rw [(readV_ok hb h).1]; simp [rdrR]
  · exact Nat.le_refl _
theorem numR_lt {rest : List Nat} (hb : BytesB rest) (h : numE rest 0 = 0) : (numR rest 0).length < rest.length := by
  unfold numE at h
  unfold numR
  rw [if_pos rfl] at h ⊢
  cases hv : readV rest with
  | bad x => rw [hv] at h; have := readV_bad hv; have h' : x = 0 := h; omega
  | ok n r =>
    have := varN_len_pos n
    have e : rest.length = (varN n).length + r.length := by rw [← List.length_append, ← (readV_ok hb hv).1]
    simp only [rdrR]
    omega
theorem ixE_zero {prev : Int} {g e : Nat} (h : ixE prev g e = 0) : e = 0 := by
  unfold ixE at h
  cases hi : idxN prev g with
  | none => rw [hi] at h; unfold failE at h; simp only at h; split at h <;> omega
  | some k => rw [hi] at h; exact h
theorem okE_zero {b : Bool} {e : Nat} (h : okE b e = 0) : e = 0 := by
  unfold okE failE at h
  split at h
  · exact h
  · split at h <;> omega
theorem rem_step (a : List (Int × Int)) (n : Nat) (prev : Int) (rest : List Nat) (G : List Int) (R : Rdr (List Int)) (h : preR G (remP a (n + 1) prev rest) = R) :
    (okE (has a (ixV prev (numN rest 0))) (ixE prev (numN rest 0) (numE rest 0)) = 0 ∧ preR (G ++ [ixV prev (numN rest 0)]) (remP a n (ixV prev (numN rest 0)) (numR rest 0)) = R) ∨
    (okE (has a (ixV prev (numN rest 0))) (ixE prev (numN rest 0) (numE rest 0)) ≠ 0 ∧ R = .bad (okE (has a (ixV prev (numN rest 0))) (ixE prev (numN rest 0) (numE rest 0)))) := by
  rw [remP] at h
  cases hv : readV rest with
  | bad e =>
    rw [hv] at h
    have he : e ≠ 0 := by have := readV_bad hv; omega
    have e1 : numE rest 0 = e := by unfold numE; rw [if_pos rfl, hv]; rfl
    have e2 : ∀ g, ixE prev g e = e := fun g => by
      unfold ixE
      cases idxN prev g with
      | none => exact failE_ne he
      | some k => rfl
    have e3 : ∀ b, okE b e = e := fun b => by unfold okE; split; rfl; exact failE_ne he
    rw [e1, e2, e3]
    exact .inr ⟨he, h.symm⟩
  | ok g r =>
    rw [hv] at h
    simp only at h
    have e1 : numE rest 0 = 0 := by unfold numE; rw [if_pos rfl, hv]; rfl
    have e2 : numN rest 0 = g := by unfold numN; rw [if_pos rfl, hv]; rfl
    have e3 : numR rest 0 = r := by unfold numR; rw [if_pos rfl, hv]; rfl
    rw [e1, e2, e3]
    cases hi : idxN prev g with
    | none =>
      rw [hi] at h
      have f1 : ixE prev g 0 = 8 := by unfold ixE; rw [hi]; rfl
      have f2 : ∀ b, okE b 8 = 8 := fun b => by unfold okE; split <;> rfl
      rw [f1, f2]
      exact .inr ⟨by omega, h.symm⟩
    | some k =>
      rw [hi] at h
      simp only at h
      have f1 : ixE prev g 0 = 0 := by unfold ixE; rw [hi]
      have f2 : ixV prev g = k := by unfold ixV; rw [hi]
      rw [f1, f2]
      cases hh : has a k with
      | false =>
        rw [hh] at h
        exact .inr ⟨by decide, h.symm⟩
      | true =>
        rw [hh] at h
        simp only [cond_true] at h
        refine .inl ⟨rfl, ?_⟩
        rw [← h]
        cases remP a n k r with
        | bad e => rfl
        | ok l r' => simp [preR]

def RemTo (w : World) (p : Nat) (ro : Option Addr) (len : Nat) (R : Rdr (List Int)) (r : Ending) (w' : World) : Prop := ∃ (G : List Int) (m : Nat) (r' : List Nat) (e' : Nat) (ro' : Option Addr) (rc' : Nat),
  r = .returned (.map (some w.heap.size)) ∧ IsDec w' p ro' r' rc' e' ∧ BytesB r' ∧ r'.length ≤ len ∧ (∀ k ∈ blk ro', k ∈ blk ro) ∧ Fr [p] w w' ∧ IsS w' w.heap.size m (inL G) ∧ ((e' = 0 ∧ R = .ok G r') ∨ (e' ≠ 0 ∧ R = .bad e'))
/-- the state at the head of a round -/
structure RemAt (w wr : World) (p : Nat) (ro : Option Addr) (len : Nat) (a : List (Int × Int)) (R : Rdr (List Int)) (prev : Int) (n : Nat) (G : List Int) (m : Nat) (r : List Nat) (e : Nat) (ro2 : Option Addr) (rc2 : Nat) : Prop where
  hp : -1 ≤ prev ∧ prev ≤ maxI
  hn : n < 18446744073709551616
  dec : IsDec wr p ro2 r rc2 e
  bts : BytesB r
  hl : r.length ≤ len
  hb : ∀ k ∈ blk ro2, k ∈ blk ro
  fr : Fr [p] w wr
  set : IsS wr w.heap.size m (inL G)
  st : (e = 0 ∧ preR G (remP a n prev r) = R ∧ m + r.length ≤ len) ∨ (e ≠ 0 ∧ R = .bad e)
theorem inL_snoc (G : List Int) (k x : Int) : (x == k || inL G x) = inL (G ++ [k]) x := by
  unfold inL
  rw [Bool.eq_iff_iff]
  simp [or_comm]
/-- a round: what the next state is -/
theorem RemAt.next {w wr w1 w2 w3 : World} {p : Nat} {ro : Option Addr} {len : Nat} {a : List (Int × Int)} {R : Rdr (List Int)} {prev : Int} {n : Nat} {G : List Int} {m : Nat} {r : List Nat} {ro2 ro3 : Option Addr} {rc2 rc3 : Nat} (h : RemAt w wr p ro len a R prev (n + 1) G m r 0 ro2 rc2) (hpw : p < w.heap.size)
    (hf1 : Fr [p] wr w1) (hbk : ∀ k ∈ blk ro3, k ∈ blk ro2) (hf2 : Fr [p] w1 w2) (hd : IsDec w2 p ro3 (numR r 0) rc3 (okE (has a (ixV prev (numN r 0))) (ixE prev (numN r 0) (numE r 0))))
    (hs : IsS w3 w.heap.size (m + 1) (fun x => x == ixV prev (numN r 0) || inL G x)) (hf3 : Fr [w.heap.size] w2 w3) (hro : w.heap.size ∉ blk ro) :
    RemAt w w3 p ro len a R (ixV prev (numN r 0)) n (G ++ [ixV prev (numN r 0)]) (m + 1) (numR r 0) (okE (has a (ixV prev (numN r 0))) (ixE prev (numN r 0) (numE r 0))) ro3 rc3 := by
  have hne : p ∉ [w.heap.size] := by simp; omega
  have hbk2 : ∀ k ∈ blk ro3, k ∈ blk ro := fun k hk => h.hb k (hbk k hk)
  refine ⟨ixV_bd _ h.hp, by have := h.hn; omega, ⟨hf3.blk hd.head hne, hd.rd.fr hf3 (fun k hk hm => ?_), hd.fit, hd.cap, hd.out⟩, numR_bytes 0 h.bts, Nat.le_trans (numR_len 0 h.bts) h.hl, hbk2, ((h.fr.trans hf1 (Ext.refl _ _)).trans hf2 (Ext.refl _ _)).trans hf3 (fun k hk => .inr (by simp at hk; omega)), hs.congr (Nat.le_refl _) (fun x _ => inL_snoc _ _ _), ?_⟩
  · simp at hm; subst hm; exact hro (hbk2 _ hk)
  · rcases h.st with ⟨-, hR, hm⟩ | ⟨h0, -⟩
    · rcases rem_step a n prev r G R hR with ⟨e1, e2⟩ | ⟨e1, e2⟩
      · exact .inl ⟨e1, e2, by have := numR_lt h.bts (ixE_zero (okE_zero e1)); omega⟩
      · exact .inr ⟨e1, e2⟩
    · exact absurd rfl h0

set_option maxRecDepth 100000 in
set_option maxHeartbeats 8000000 in
theorem removed_any {w : World} {p : Nat} {ro : Option Addr} {rest : List Nat} {rc : Nat} (h : IsDec w p ro rest rc 0) (hb : BytesB rest) (hlen : rest.length < 4611686018427387904) {a : List (Int × Int)} {bv nv : Nat} (hm : IsM w bv nv (has a) (getv a)) (hvp : bv ≠ p) (hrb : ∀ k ∈ blk ro, k < w.heap.size) :
    Calls Try.prog 37 #[.pointer (some ⟨p, 0, none⟩), .map (some bv)] w (RemTo w p ro rest.length (remR a rest)) := by
  have hpw : p < w.heap.size := lt_of_blk h.head
  have HVP := Lib.hid hvp
  have HPW := Lib.hid hpw
  have HM := Lib.hid hm
  have hro : w.heap.size ∉ blk ro := fun hk => by have := hrb _ hk; omega
  have HRO := Lib.hid hro
  have hmm := @run_makeMap Try.prog
  obtain ⟨W, hW⟩ : ∃ W, W = w.alloc (.map #[] 0) := ⟨_, rfl⟩
  have hfW : Fr [] w W := by rw [hW]; exact (Fr.refl _ _).alloc _
  have HFW := Lib.hid hfW
  have HSW := Lib.hid (by rw [hW]; exact isS_made w : IsS W w.heap.size 0 (fun _ => false))
  have HNUM := Lib.hid (number_any (h.old hfW) hb)
  have HLEN := Lib.hid hlen
  obtain ⟨R, hR⟩ : ∃ R, R = remR a rest := ⟨_, rfl⟩
  rw [← hR]
  have HR := Lib.hid hR
  have HST := Lib.hid (fun (W1 : World) (ro1 : Option Addr) (rc1 : Nat) (hd : IsDec W1 p ro1 (numR rest 0) rc1 (numE rest 0)) (hf : Fr [p] W W1) (hbk : ∀ k ∈ blk ro1, k ∈ blk ro) => (⟨by unfold maxI; omega, numN_lt 0 hb, hd, numR_bytes 0 hb, numR_len 0 hb, hbk, (hfW.mono (by simp)).trans hf (Ext.refl _ _), HSW.out.fr hf (by simp; omega), by
      rw [hR]
      unfold remR numN numR numE
      simp only [if_pos]
      cases hv : readV rest with
      | bad e => exact .inr ⟨by have := readV_bad hv; show e ≠ 0; omega, rfl⟩
      | ok n r => exact .inl ⟨rfl, preR_nil _, by have := numR_len 0 hb; unfold numR at this; rw [if_pos rfl, hv] at this; omega⟩⟩ : RemAt w W1 p ro rest.length a R (-1) (numN rest 0) [] 0 (numR rest 0) (numE rest 0) ro1 rc1))
  clear h hb hlen hm hvp hpw hro hfW hR
  obtain ⟨n0, hn0⟩ : ∃ n0, n0 = numN rest 0 := ⟨_, rfl⟩
  rw [← hn0] at HNUM HST
  clear hn0
  go_enter Try.func37, Try.ntmps37
  go_wp2_with fail
  rw [← hW]
  clear hW
  refine HNUM.out.mono ?_
  rintro r w1 ⟨rfl, ro1, rc1, hd, hf, hbk⟩
  have HS := Lib.hid (HST.out _ _ _ hd hf hbk)
  clear hd hf hbk
  go_wp2_with fail
  go_loopw [6, 7] (fun iv nv' wr => ∃ (prev : Int) (n : Nat) (G : List Int) (m : Nat) (r : List Nat) (e : Nat) (ro2 : Option Addr) (rc2 : Nat), iv = .int .i64 prev ∧ nv' = .int .u64 (n : Int) ∧ RemAt w wr p ro rest.length a R prev n G m r e ro2 rc2) (fun _ nv' _ => (intOf nv').toNat)
  case atStart => exact ⟨-1, n0, [], 0, _, _, _, _, rfl, rfl, HS.out⟩
  case round =>
    clear HS
    obtain ⟨prev, n, G, m, r, e, ro2, rc2, rfl, rfl, hat⟩ := hrel
    have HA := Lib.hid hat
    have c1 : wr.cell? ⟨p, 1, none⟩ = some (.int .i64 (e : Int)) := cell_blk hat.dec.head 1
    have hn := hat.hn
    have hmR : ∀ u : World, Fr [p] wr u → IsM u bv nv (has a) (getv a) := fun u hu => (HM.out.fr hat.fr (by simp; exact HVP.out)).fr hu (by simp; exact HVP.out)
    have HMR := Lib.hid hmR
    clear hat hmR
    have hend : (n = 0 ∨ e ≠ 0) → RemTo w p ro rest.length R (.returned (.map (some w.heap.size))) wr := fun hc => by
      refine ⟨G, m, r, e, ro2, rc2, rfl, HA.out.dec, HA.out.bts, HA.out.hl, HA.out.hb, HA.out.fr, HA.out.set, ?_⟩
      rcases HA.out.st with ⟨h1, h2, -⟩ | h1
      · have h0 : n = 0 := by rcases hc with hc | hc; exact hc; exact absurd h1 hc
        subst h0
        exact .inl ⟨h1, by rw [← h2]; simp [remP, preR]⟩
      · exact .inr h1
    have HEND := Lib.hid hend
    clear hend
    rcases Nat.eq_zero_or_pos n with h0 | h0
    · have hg0 : ¬ 0 < n := by omega
      have hc0 : decide ((0 : Int) < (n : Int)) = false := decide_eq_false (by omega)
      have HR0 := Lib.hid (HEND.out (.inl h0))
      clear h0
      go_wp2_with fail
      go_ret
      exact HR0.out
    · have hc0 : decide ((0 : Int) < (n : Int)) = true := decide_eq_true (by omega)
      by_cases he : e = 0
      · have e1 : ((e : Int) == 0) = true := beq_iff_eq.2 (by omega)
        subst he
        obtain ⟨n', rfl⟩ : ∃ n', n = n' + 1 := ⟨n - 1, by omega⟩
        have HIX := Lib.hid (index_any HA.out.dec HA.out.bts HA.out.hp)
        have hkb : bd64 (ixV prev (numN r 0)) := by have := ixV_bd (numN r 0) HA.out.hp; unfold maxI at this; unfold bd64; omega
        have hml : m < maxLen := by
          have := HLEN.out
          rcases HA.out.st with ⟨-, -, q⟩ | ⟨q, -⟩
          · unfold maxLen; omega
          · exact absurd rfl q
        have HNX := Lib.hid (fun (w1 w2 w3 : World) (ro3 : Option Addr) (rc3 : Nat) a1 a2 a3 a4 a5 a6 => HA.out.next (w1 := w1) (w2 := w2) (w3 := w3) (ro3 := ro3) (rc3 := rc3) HPW.out a1 a2 a3 a4 a5 a6 HRO.out)
        obtain ⟨k, hk⟩ : ∃ k, k = ixV prev (numN r 0) := ⟨_, rfl⟩
        obtain ⟨E, hE⟩ : ∃ E, E = ixE prev (numN r 0) (numE r 0) := ⟨_, rfl⟩
        obtain ⟨r1, hr1⟩ : ∃ r1, r1 = numR r 0 := ⟨_, rfl⟩
        rw [← hk] at HIX hkb HNX
        rw [← hE] at HIX HNX
        rw [← hr1] at HIX HNX
        have HKB := Lib.hid hkb
        have HML := Lib.hid hml
        have wn : IntKind.u64.wrap (((n' + 1 : Nat) : Int) - 1) = (n' : Int) := by rw [show ((n' + 1 : Nat) : Int) - 1 = (n' : Int) by omega]; exact IntWalk.u64_in _ (by omega)
        clear hk hE hr1 hkb hml HEND
        go_wp2_with fail
        refine HIX.out.mono ?_
        rintro rr w1 ⟨rfl, ro3, rc3, hd, hf, hbk⟩
        have hlk := (HMR.out _ hf).look HKB.out
        have HD := Lib.hid hd
        have HF := Lib.hid hf
        have HBK := Lib.hid hbk
        have HS1 := Lib.hid (HA.out.set.fr hf (by simp; have := HPW.out; omega))
        clear hd hf hbk
        cases hh : has a k with
        | true =>
          rw [hh] at hlk HNX
          obtain ⟨w3, hst, hs3, hf3⟩ := HS1.out.store HML.out HKB.out
          have HN := Lib.hid (HNX.out _ _ _ _ _ HF.out HBK.out (Fr.refl _ _) HD.out hs3 hf3)
          clear hs3 hf3
          go_wp2_with fail
          go_roundw
          case rel => exact ⟨k, n', G ++ [k], m + 1, r1, _, ro3, rc3, by go_num, by go_num, HN.out⟩
          case measure => simp [intOf]
        | false =>
          rw [hh] at hlk HNX
          go_wp2_with fail
          refine (fail_any HD.out 8).mono ?_
          rintro rr w2 ⟨rfl, hd2, hf2⟩
          obtain ⟨w3, hst, hs3, hf3⟩ := (HS1.out.fr hf2 (by simp; have := HPW.out; omega)).store HML.out HKB.out
          have HN := Lib.hid (HNX.out _ _ _ _ _ HF.out HBK.out hf2 hd2 hs3 hf3)
          clear hs3 hf3 hd2 hf2
          go_wp2_with fail
          go_roundw
          case rel => exact ⟨k, n', G ++ [k], m + 1, r1, _, ro3, rc3, by go_num, by go_num, HN.out⟩
          case measure => simp [intOf]
      · have e1 : ((e : Int) == 0) = false := beq_eq_false_iff_ne.2 (by omega)
        have HR0 := Lib.hid (HEND.out (.inr he))
        clear he
        go_wp2_with fail
        go_ret
        exact HR0.out
end Go.Proofs.Ytcgndeggemceaaa
/- Package snapshot: the decoder: changed. -/
namespace Go.Proofs.Ytcgndeggemceaaa
open Go.RowKit Go.Maps

def clV (x : Int × Int) : List Value := [.int .i64 x.1, .int .i64 x.2]
theorem infoCell : (Try.prog.info? 38).map (fun i => (i.zero, i.size, i.bytes)) = some (some (.agg #[.int .i64 0, .int .i64 0]), 2, 16) := by kernel_rfl
theorem eq_cell (u : World) (a b c d : Int) : (binOp .eql 38 (.agg #[.int .i64 a, .int .i64 b]) (.agg #[.int .i64 c, .int .i64 d])).run Try.prog u = .ok (.bool ((a == c) && (b == d))) u := by
  have hf : Try.prog.underlying 38 = some (.struct (Try.prog.fieldsOf 38)) := by unfold Program.fieldsOf; rw [Try.underlying38]
  have hp : Try.prog.stoodInHeld 38 = false := by kernel_rfl
  rw [run_eql_struct, run_equalIn_struct u _ _ _ _ hf hp]
  simp only [Program.fieldsOf, Try.underlying38]
  cases h1 : (a == c) <;> cases h2 : (b == d) <;> simp [Op.eqFields, part, run_equalIn_int u _ _ _ _ _ _ Try.underlying3, h1, h2]

def preC (C : List (Int × Int)) : Rdr (List (Int × Int)) → Rdr (List (Int × Int))
  | .bad e => .bad e
  | .ok l r => .ok (C ++ l) r
def chgR (a : List (Int × Int)) (gone : List Int) (rest : List Nat) : Rdr (List (Int × Int)) := match readV rest with
  | .bad e => .bad e
  | .ok n r => chgQ a gone n (-1) r
theorem preC_nil (x : Rdr (List (Int × Int))) : preC [] x = x := by cases x <;> rfl
theorem okE_ne {e : Nat} (h : e ≠ 0) (b : Bool) : okE b e = e := by unfold okE; split; rfl; exact failE_ne h
theorem numE_ne {e : Nat} (h : e ≠ 0) (r : List Nat) : numE r e = e := by unfold numE; rw [if_neg h]
theorem ixE_ne {e : Nat} (h : e ≠ 0) (prev : Int) (g : Nat) : ixE prev g e = e := by
  unfold ixE
  cases idxN prev g with
  | none => exact failE_ne h
  | some k => rfl
/-- the errors of a round: behind the index, behind the look into gone, behind the number, at the end -/
def ce1 (prev : Int) (r : List Nat) : Nat := ixE prev (numN r 0) (numE r 0)
def ck (prev : Int) (r : List Nat) : Int := ixV prev (numN r 0)
def ce2 (G : List Int) (prev : Int) (r : List Nat) : Nat := okE (!inL G (ck prev r)) (ce1 prev r)
def cz (G : List Int) (prev : Int) (r : List Nat) : Nat := numN (numR r 0) (ce2 G prev r)
def cr (G : List Int) (prev : Int) (r : List Nat) : List Nat := numR (numR r 0) (ce2 G prev r)
def ce3 (G : List Int) (prev : Int) (r : List Nat) : Nat := numE (numR r 0) (ce2 G prev r)
def cv (a : List (Int × Int)) (G : List Int) (prev : Int) (r : List Nat) : Int := newV a (ck prev r) (cz G prev r)
def ce4 (a : List (Int × Int)) (G : List Int) (prev : Int) (r : List Nat) : Nat := okE (!stays a (ck prev r) (cv a G prev r)) (ce3 G prev r)
theorem chg_step (a : List (Int × Int)) (G : List Int) (n : Nat) (prev : Int) (rest : List Nat) (C : List (Int × Int)) (R : Rdr (List (Int × Int))) (h : preC C (chgQ a G (n + 1) prev rest) = R) :
    (ce4 a G prev rest = 0 ∧ preC (C ++ [(ck prev rest, cv a G prev rest)]) (chgQ a G n (ck prev rest) (cr G prev rest)) = R) ∨
    (ce4 a G prev rest ≠ 0 ∧ R = .bad (ce4 a G prev rest)) := by
  rw [chgQ] at h
  cases hv : readV rest with
  | bad e =>
    rw [hv] at h
    have he : e ≠ 0 := by have := readV_bad hv; omega
    have e1 : numE rest 0 = e := by unfold numE; rw [if_pos rfl, hv]; rfl
    have e2 : ce1 prev rest = e := by unfold ce1; rw [e1, ixE_ne he]
    have e3 : ce2 G prev rest = e := by unfold ce2; rw [e2, okE_ne he]
    have e4 : ce3 G prev rest = e := by unfold ce3; rw [e3, numE_ne he]
    have e5 : ce4 a G prev rest = e := by unfold ce4; rw [e4, okE_ne he]
    rw [e5]
    exact .inr ⟨he, h.symm⟩
  | ok g r =>
    rw [hv] at h
    simp only at h
    have e1 : numE rest 0 = 0 := by unfold numE; rw [if_pos rfl, hv]; rfl
    have e2 : numN rest 0 = g := by unfold numN; rw [if_pos rfl, hv]; rfl
    have e3 : numR rest 0 = r := by unfold numR; rw [if_pos rfl, hv]; rfl
    have n8 : (8 : Nat) ≠ 0 := by omega
    cases hi : idxN prev g with
    | none =>
      rw [hi] at h
      have f1 : ce1 prev rest = 8 := by unfold ce1 ixE; rw [e2, e1, hi]; rfl
      have f3 : ce2 G prev rest = 8 := by unfold ce2; rw [f1, okE_ne n8]
      have f4 : ce3 G prev rest = 8 := by unfold ce3; rw [f3, numE_ne n8]
      have f5 : ce4 a G prev rest = 8 := by unfold ce4; rw [f4, okE_ne n8]
      rw [f5]
      exact .inr ⟨n8, h.symm⟩
    | some k =>
      rw [hi] at h
      simp only at h
      have f1 : ce1 prev rest = 0 := by unfold ce1 ixE; rw [e2, e1, hi]
      have f2 : ck prev rest = k := by unfold ck ixV; rw [e2, hi]
      cases hg : inL G k with
      | true =>
        rw [hg] at h
        have f3 : ce2 G prev rest = 8 := by unfold ce2; rw [f1, f2, hg]; rfl
        have f4 : ce3 G prev rest = 8 := by unfold ce3; rw [f3, numE_ne n8]
        have f5 : ce4 a G prev rest = 8 := by unfold ce4; rw [f4, okE_ne n8]
        rw [f5]
        exact .inr ⟨n8, h.symm⟩
      | false =>
        rw [hg] at h
        simp only [cond_false] at h
        have f3 : ce2 G prev rest = 0 := by unfold ce2; rw [f1, f2, hg]; rfl
        cases hz : readV r with
        | bad e =>
          rw [hz] at h
          have he : e ≠ 0 := by have := readV_bad hz; omega
          have f4 : ce3 G prev rest = e := by unfold ce3; rw [f3, e3]; unfold numE; rw [if_pos rfl, hz]; rfl
          have f5 : ce4 a G prev rest = e := by unfold ce4; rw [f4, okE_ne he]
          rw [f5]
          exact .inr ⟨he, h.symm⟩
        | ok z r1 =>
          rw [hz] at h
          simp only at h
          have f4 : ce3 G prev rest = 0 := by unfold ce3; rw [f3, e3]; unfold numE; rw [if_pos rfl, hz]; rfl
          have f6 : cz G prev rest = z := by unfold cz; rw [f3, e3]; unfold numN; rw [if_pos rfl, hz]; rfl
          have f7 : cr G prev rest = r1 := by unfold cr; rw [f3, e3]; unfold numR; rw [if_pos rfl, hz]; rfl
          have f8 : cv a G prev rest = newV a k z := by unfold cv; rw [f2, f6]
          cases hs : stays a k (newV a k z) with
          | true =>
            rw [hs] at h
            have f5 : ce4 a G prev rest = 8 := by unfold ce4; rw [f4, f2, f8, hs]; rfl
            rw [f5]
            exact .inr ⟨n8, h.symm⟩
          | false =>
            rw [hs] at h
            simp only [cond_false] at h
            have f5 : ce4 a G prev rest = 0 := by unfold ce4; rw [f4, f2, f8, hs]; rfl
            refine .inl ⟨f5, ?_⟩
            rw [← h, f2, f7, f8]
            cases chgQ a G n k r1 with
            | bad e => rfl
            | ok l r' => simp [preC]

def ChgTo (w : World) (p : Nat) (ro : Option Addr) (len : Nat) (R : Rdr (List (Int × Int))) (r : Ending) (w' : World) : Prop := ∃ (C : List (Int × Int)) (co : Option Addr) (cc : Nat) (r' : List Nat) (e' : Nat) (ro' : Option Addr) (rc' : Nat),
  r = .returned (.slice co C.length cc) ∧ Seg w' 38 2 co C.length cc (C.flatMap clV) ∧ (∀ k ∈ blk co, w.heap.size ≤ k) ∧ C.length ≤ len + 1 ∧ (∀ x ∈ C, bd64 x.1 ∧ bd64 x.2) ∧ IsDec w' p ro' r' rc' e' ∧ BytesB r' ∧ r'.length ≤ len ∧ (∀ k ∈ blk ro', k ∈ blk ro) ∧ Fr [p] w w' ∧ ((e' = 0 ∧ R = .ok C r') ∨ (e' ≠ 0 ∧ R = .bad e'))
/-- the state at the head of a round -/
structure ChgAt (w wr : World) (p : Nat) (ro : Option Addr) (len : Nat) (a : List (Int × Int)) (G : List Int) (R : Rdr (List (Int × Int))) (prev : Int) (n : Nat) (C : List (Int × Int)) (co : Option Addr) (cc : Nat) (r : List Nat) (e : Nat) (ro2 : Option Addr) (rc2 : Nat) : Prop where
  hp : -1 ≤ prev ∧ prev ≤ maxI
  hn : n < 18446744073709551616
  dec : IsDec wr p ro2 r rc2 e
  bts : BytesB r
  hl : r.length ≤ len
  hb : ∀ k ∈ blk ro2, k ∈ blk ro
  fr : Fr [p] w wr
  seg : Seg wr 38 2 co C.length cc (C.flatMap clV)
  hc : ∀ k ∈ blk co, w.heap.size ≤ k
  bd : ∀ x ∈ C, bd64 x.1 ∧ bd64 x.2
  cl : C.length ≤ len + 1
  st : (e = 0 ∧ preC C (chgQ a G n prev r) = R ∧ C.length + r.length ≤ len) ∨ (e ≠ 0 ∧ R = .bad e)
theorem cr_lt {a : List (Int × Int)} {G : List Int} {prev : Int} {r : List Nat} (hb : BytesB r) (h : ce4 a G prev r = 0) : (cr G prev r).length < r.length := by
  have h3 := okE_zero h
  unfold ce3 at h3
  have h2 : ce2 G prev r = 0 := by
    by_cases h0 : ce2 G prev r = 0
    · exact h0
    · rw [numE_ne h0] at h3; exact absurd h3 h0
  have h1 := ixE_zero (okE_zero h2)
  have a1 := numR_lt hb h1
  have a2 := numR_len (ce2 G prev r) (numR_bytes 0 hb)
  unfold cr
  omega
theorem cr_le (G : List Int) (prev : Int) {r : List Nat} (hb : BytesB r) : (cr G prev r).length ≤ r.length := by
  have a1 := numR_len 0 hb
  have a2 := numR_len (ce2 G prev r) (numR_bytes 0 hb)
  unfold cr
  omega
/-- a round: what the next state is -/
theorem ChgAt.next {w wr w2 w3 : World} {p : Nat} {ro : Option Addr} {len : Nat} {a : List (Int × Int)} {G : List Int} {R : Rdr (List (Int × Int))} {prev : Int} {n : Nat} {C : List (Int × Int)} {co co2 : Option Addr} {cc cc2 : Nat} {r : List Nat} {ro2 ro3 : Option Addr} {rc2 rc3 : Nat} (h : ChgAt w wr p ro len a G R prev (n + 1) C co cc r 0 ro2 rc2) (hpw : p < w.heap.size)
    (hf1 : Fr [p] wr w2) (hbk : ∀ k ∈ blk ro3, k ∈ blk ro2) (hd : IsDec w2 p ro3 (cr G prev r) rc3 (ce4 a G prev r))
    (hs : Seg w3 38 2 co2 (C.length + 1) cc2 (C.flatMap clV ++ clV (ck prev r, cv a G prev r))) (hf3 : Fr (blk co) w2 w3) (hx3 : Ext (blk co) w2 (blk co2)) (hro : ∀ k ∈ blk ro, k < w.heap.size) (hcv : bd64 (cv a G prev r)) :
    ChgAt w w3 p ro len a G R (ck prev r) n (C ++ [(ck prev r, cv a G prev r)]) co2 cc2 (cr G prev r) (ce4 a G prev r) ro3 rc3 := by
  have hne : p ∉ blk co := fun hk => by have := h.hc p hk; omega
  have hbk2 : ∀ k ∈ blk ro3, k ∈ blk ro := fun k hk => h.hb k (hbk k hk)
  have hck : -1 ≤ ck prev r ∧ ck prev r ≤ maxI := ixV_bd _ h.hp
  have hlen : (C ++ [(ck prev r, cv a G prev r)]).length = C.length + 1 := by simp
  refine ⟨hck, by have := h.hn; omega, ⟨hf3.blk hd.head hne, hd.rd.fr hf3 (fun k hk hm => ?_), hd.fit, hd.cap, hd.out⟩, numR_bytes _ (numR_bytes 0 h.bts), Nat.le_trans (cr_le G prev h.bts) h.hl, hbk2, (h.fr.trans hf1 (Ext.refl _ _)).trans hf3 (fun k hk => .inr (h.hc k hk)), ?_, fun k hk => ?_, fun x hx => ?_, ?_, ?_⟩
  · have := hro k (hbk2 k hk); have := h.hc k hm; omega
  · rw [hlen, List.flatMap_append]; simpa using hs
  · rcases hx3 k hk with q | q
    · exact h.hc k q
    · have := h.fr.size; have := hf1.size; omega
  · rcases List.mem_append.1 hx with q | q
    · exact h.bd x q
    · simp at q
      subst q
      refine ⟨?_, hcv⟩
      have := hck
      unfold maxI at this
      unfold bd64
      show -9223372036854775808 ≤ ck prev r ∧ ck prev r ≤ 9223372036854775807
      omega
  · rw [hlen]
    rcases h.st with ⟨-, -, hm⟩ | ⟨h0, -⟩
    · omega
    · exact absurd rfl h0
  · rcases h.st with ⟨-, hR, hm⟩ | ⟨h0, -⟩
    · rcases chg_step a G n prev r C R hR with ⟨e1, e2⟩ | ⟨e1, e2⟩
      · exact .inl ⟨e1, e2, by rw [hlen]; have := cr_lt h.bts e1; omega⟩
      · exact .inr ⟨e1, e2⟩
    · exact absurd rfl h0
end Go.Proofs.Ytcgndeggemceaaa
