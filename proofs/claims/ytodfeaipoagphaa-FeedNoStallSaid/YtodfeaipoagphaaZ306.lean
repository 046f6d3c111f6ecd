/- AppP28, Apl28, Put28 (merged by merge.py). -/
import Derived.Test.YtodfeaipoagphaaZ303
import Derived.Test.YtodfeaipoagphaaZ305
/- Chapter 28, plain: what Apply's first loop fills in; applyR by its two parts. -/
namespace Go.Proofs.Ytodfeaipoagphaa
open Go.RowKit Go.Maps

theorem applyR_parts (a : List (Int × Int)) (b : List Nat) : applyR a b = match remR a b with
    | .bad e => .bad e
    | .ok gone r2 => match chgR a gone r2 with
      | .bad e => .bad e
      | .ok ch r4 => match r4 with
        | [] => .ok (mv a ch gone) []
        | _ :: _ => .bad 8 := by
  unfold applyR remR chgR
  cases readV b with
  | bad e => rfl
  | ok n1 r1 =>
    simp only
    cases remP a n1 (-1) r1 with
    | bad e => rfl
    | ok gone r2 =>
      simp only
      cases readV r2 with
      | bad e => rfl
      | ok n2 r3 => rfl
theorem has_snoc (l : List (Int × Int)) (y : Int × Int) (x : Int) : has (l ++ [y]) x = (x == y.1 || has l x) := by
  unfold has
  rw [List.any_append, Bool.or_comm]
  simp only [List.any_cons, List.any_nil, Bool.or_false]
  congr 1
  rw [Bool.eq_iff_iff, beq_iff_eq, beq_iff_eq]
  exact eq_comm
theorem getv_snoc : ∀ (l : List (Int × Int)) (y : Int × Int) (x : Int), has l y.1 = false → getv (l ++ [y]) x = if x = y.1 then y.2 else getv l x
  | [], y, x, _ => by
    simp only [List.nil_append, getv]
    by_cases h : y.1 = x
    · rw [if_pos h, if_pos h.symm]
    · rw [if_neg h, if_neg (fun e => h e.symm)]
  | z :: l, y, x, h => by
    rw [has_cons, Bool.or_eq_false_iff] at h
    rw [List.cons_append, getv, getv]
    by_cases hz : z.1 = x
    · rw [if_pos hz, if_pos hz, if_neg]
      intro e
      have := h.1
      rw [← e, hz] at this
      simp at this
    · rw [if_neg hz, if_neg hz, getv_snoc l y x h.2]
theorem has_take_lt {a : List (Int × Int)} (h : Srt a) {i : Nat} (hi : i < a.length) : has (a.take i) a[i].1 = false := by
  unfold has
  rw [List.any_eq_false]
  intro x hx
  obtain ⟨j, hj, rfl⟩ := List.mem_iff_getElem.1 hx
  rw [List.length_take] at hj
  rw [List.getElem_take]
  have := List.pairwise_iff_getElem.1 h j i (by omega) hi (by omega)
  simp
  omega
theorem IsM.step {w' : World} {b : Nat} {a : List (Int × Int)} (h : Srt a) {i : Nat} (hi : i < a.length) (hm : IsM w' b (i + 1) (fun x => x == a[i].1 || has (a.take i) x) (fun x => if x = a[i].1 then a[i].2 else getv (a.take i) x)) : IsM w' b (i + 1) (has (a.take (i + 1))) (getv (a.take (i + 1))) := by
  have e : a.take (i + 1) = a.take i ++ [a[i]] := by rw [List.take_succ_eq_append_getElem hi]
  refine hm.congr (Nat.le_refl _) (fun k _ => ?_) (fun k _ => ?_)
  · rw [e, has_snoc]
  · rw [e, getv_snoc _ _ _ (has_take_lt h hi)]
theorem outP_snoc (G : List Int) (T : List Pr) (p : Pr) : (T ++ [p]).filterMap (outP G) = T.filterMap (outP G) ++ (match outP G p with | some y => [y] | none => []) := by
  rw [List.filterMap_append]
  congr 1
  cases h : outP G p <;> simp [h]
theorem mg_ikey : ∀ (a b : List (Int × Int)), (∀ x ∈ a, bd64 x.1 ∧ bd64 x.2) → (∀ x ∈ b, bd64 x.1 ∧ bd64 x.2) → ∀ p ∈ mg a b, bd64 p.bi ∧ bd64 p.bv ∧ bd64 p.ai ∧ bd64 p.av
  | [], b, _, hb, p, hp => by
    rw [mg_nil] at hp
    obtain ⟨y, hy, rfl⟩ := List.mem_map.1 hp
    exact ⟨bd0, bd0, (hb y hy).1, (hb y hy).2⟩
  | x :: a, [], ha, _, p, hp => by
    rw [mg_nil'] at hp
    obtain ⟨y, hy, rfl⟩ := List.mem_map.1 hp
    exact ⟨(ha y hy).1, (ha y hy).2, bd0, bd0⟩
  | x :: a, y :: b, ha, hb, p, hp => by
    have ha' : ∀ z ∈ a, bd64 z.1 ∧ bd64 z.2 := fun z hz => ha z (by simp [hz])
    have hb' : ∀ z ∈ b, bd64 z.1 ∧ bd64 z.2 := fun z hz => hb z (by simp [hz])
    have hx := ha x (by simp)
    have hy := hb y (by simp)
    rcases Int.lt_trichotomy x.1 y.1 with h | h | h
    · rw [mg_lt h] at hp
      rcases List.mem_cons.1 hp with rfl | hp
      · exact ⟨hx.1, hx.2, bd0, bd0⟩
      · exact mg_ikey a (y :: b) ha' hb p hp
    · rw [mg_eq h] at hp
      rcases List.mem_cons.1 hp with rfl | hp
      · exact ⟨hx.1, hx.2, hy.1, hy.2⟩
      · exact mg_ikey a b ha' hb' p hp
    · rw [mg_gt h] at hp
      rcases List.mem_cons.1 hp with rfl | hp
      · exact ⟨bd0, bd0, hy.1, hy.2⟩
      · exact mg_ikey (x :: a) b ha hb' p hp
termination_by a b => a.length + b.length
end Go.Proofs.Ytodfeaipoagphaa
/- Package snapshot: Apply. -/
namespace Go.Proofs.Ytodfeaipoagphaa
open Go.RowKit Go.Shelf Go.Maps

attribute [local go_sem] Oper.semAt_some run_store_func

def ApplyTo (w : World) (R : Rdr (List (Int × Int))) (e : Ending) (w' : World) : Prop := Fr [] w w' ∧ ((∃ x, R = .bad x ∧ e = .returned (.tuple #[.slice none 0 0, .int .i64 (x : Int)])) ∨
  (∃ l vo vc, R = .ok l [] ∧ e = .returned (.tuple #[.slice vo l.length vc, .int .i64 0]) ∧ Seg w' 48 2 vo l.length vc (l.flatMap clV) ∧ ∀ k ∈ blk vo, w.heap.size ≤ k))
/-- what the loop over the merge has gathered -/
def AplT (sv : Nat) (G : List Int) (T : List Pr) (W : World) : Prop := ∃ vo vc, W.heap[sv]? = some (.cells #[.slice vo (T.filterMap (outP G)).length vc] 30 (0, 0)) ∧
  Seg W 48 2 vo (T.filterMap (outP G)).length vc ((T.filterMap (outP G)).flatMap clV) ∧ (∀ k ∈ blk vo, sv + 3 ≤ k) ∧ sv + 3 ≤ W.heap.size
theorem AplT.kept {sv : Nat} {G : List Int} {T : List Pr} {W W' : World} (h : AplT sv G T W) (hz : W.heap.size ≤ W'.heap.size) (hk : ∀ (k : Nat) (o : Obj), W.heap[k]? = some o → o.isCells = true → W'.heap[k]? = some o) : AplT sv G T W' := by
  obtain ⟨vo, vc, h1, h2, h3, h4⟩ := h
  refine ⟨vo, vc, hk _ _ h1 rfl, h2.same (fun k hk' => ?_), h3, Nat.le_trans h4 hz⟩
  rcases h2.2.2.2 with ⟨rfl, _⟩ | ⟨g, off, cur, rfl, hg, _⟩
  · simp [blk] at hk'
  · simp [blk] at hk'
    subst hk'
    rw [hg]; exact hk _ _ hg rfl
theorem AplT.fr {sv : Nat} {G : List Int} {T : List Pr} {W W' : World} (h : AplT sv G T W) (hf : Fr [] W W') : AplT sv G T W' := h.kept hf.size fun _ _ hk _ => hf.blk hk (by simp)
theorem IsS.same {w w' : World} {b n : Nat} {hs : Int → Bool} (h : IsS w b n hs) (hb : w'.heap[b]? = w.heap[b]?) : IsS w' b n hs := by
  obtain ⟨D, ⟨es, clock, h1, h2⟩, h3⟩ := h
  exact ⟨D, ⟨es, clock, hb.trans h1, h2⟩, h3⟩
theorem makeM (n : Int) (w : World) : (Instr.makeMap 101 (some (.int .i64 n))).run Try.prog w = .ok (.map (some w.heap.size)) (w.alloc (.map #[] 0)) := by
  have h := Try.underlying101
  simp [Instr.makeMap, run_underlying h]
  rfl

theorem apply_fin {a : List (Int × Int)} {rest : List Nat} {G : List Int} {r1 r2 : List Nat} {e1 e2 : Nat} {C : List (Int × Int)} {R2 : Rdr (List (Int × Int))}
    (h1 : (e1 = 0 ∧ remR a rest = .ok G r1) ∨ (e1 ≠ 0 ∧ remR a rest = .bad e1)) (hR : (e1 = 0 ∧ R2 = chgR a G r1) ∨ (e1 ≠ 0 ∧ R2 = .bad e1)) (h2 : (e2 = 0 ∧ R2 = .ok C r2) ∨ (e2 ≠ 0 ∧ R2 = .bad e2)) :
    (0 < r2.length → failE e2 8 ≠ 0 ∧ applyR a rest = .bad (failE e2 8)) ∧ (¬ 0 < r2.length → e2 ≠ 0 → applyR a rest = .bad e2) ∧ (¬ 0 < r2.length → e2 = 0 → applyR a rest = .ok (mv a C G) []) := by
  rw [applyR_parts]
  rcases h1 with ⟨z1, q1⟩ | ⟨z1, q1⟩
  · rcases hR with ⟨-, hR⟩ | ⟨hn, -⟩
    · rw [q1]
      simp only
      rcases h2 with ⟨z2, q2⟩ | ⟨z2, q2⟩
      · rw [← hR, q2]
        simp only
        subst z2
        cases r2 with
        | nil => exact ⟨fun h => absurd h (by simp), fun _ h => absurd rfl h, fun _ _ => rfl⟩
        | cons x r2 => exact ⟨fun _ => ⟨by decide, rfl⟩, fun h => absurd (by simp) h, fun h => absurd (by simp) h⟩
      · rw [← hR, q2]
        simp only
        rw [failE_ne z2]
        exact ⟨fun _ => ⟨z2, rfl⟩, fun _ _ => by first | rfl | trivial, fun _ h => absurd h z2⟩
    · exact absurd z1 hn
  · rcases hR with ⟨hn, -⟩ | ⟨-, hR⟩
    · exact absurd hn z1
    · rw [q1]
      simp only
      rcases h2 with ⟨z2, q2⟩ | ⟨z2, q2⟩
      · rw [hR] at q2; cases q2
      · rw [hR] at q2
        cases q2
        rw [failE_ne z1]
        exact ⟨fun _ => ⟨z1, rfl⟩, fun _ _ => rfl, fun _ h => absurd h z1⟩

set_option maxRecDepth 100000 in
set_option maxHeartbeats 16000000 in
theorem apply_any (w : World) (ao : Option Addr) (ca : Nat) (a : List (Int × Int)) (hva : IsView a) (hla : a.length < 1000000) (ha : Rd w 2 ao a.length (a.flatMap clV)) (ha1 : ∀ k ∈ blk ao, k < w.heap.size)
    (ro : Option Addr) (rc : Nat) (rest : List Nat) (hr : Rd w 1 ro rest.length (bts rest)) (hb : BytesB rest) (hfit : rest.length ≤ rc) (hcap : rc ≤ maxLen) (hr1 : ∀ k ∈ blk ro, k < w.heap.size) (hlen : rest.length < 1000000000) :
    Calls Try.prog 30 #[.slice ao a.length ca, .slice ro rest.length rc] w (ApplyTo w (applyR a rest)) := by
  obtain ⟨s, hs⟩ : ∃ s, s = w.heap.size := ⟨_, rfl⟩
  have hmm := makeM (a.length : Int)
  have HVA := Lib.hid hva
  have HLA := Lib.hid hla
  have HA := Lib.hid ha
  have HA1 := Lib.hid ha1
  have HR := Lib.hid hr
  have HB := Lib.hid hb
  have HFIT := Lib.hid hfit
  have HCAP := Lib.hid hcap
  have HR1 := Lib.hid hr1
  have HLEN := Lib.hid hlen
  have HS := Lib.hid hs
  clear hva ha ha1 hr hb hfit hcap hr1 hlen hs
  refine (callsIn_wide (n := 6)).1 ?_
  refine callsIn_of_wp_marks Try.func30 rfl trivial ?_ rfl
  simp only [Try.ntmps30, List.size_toArray, List.length_cons, List.length_nil, Nat.reduceAdd, Nat.reduceSub, Array.replicate_succ, Array.replicate_zero, List.push_toArray, List.append_toArray, List.nil_append, List.cons_append]
  gi_wp2_with fail
  rw [← HS.out]
  gi_loopw [21] (fun iv wr => ∃ i : Nat, i ≤ a.length ∧ iv = .int .i64 (i : Int) ∧ IsM wr s i (has (a.take i)) (getv (a.take i)) ∧ Fr [] w wr) (fun iv _ => a.length - (intOf iv).toNat)
  case atStart => exact ⟨0, by omega, rfl, by rw [HS.out]; exact isM_made w, (Fr.refl _ _).alloc _⟩
  case round =>
    obtain ⟨i, hi, rfl, hm, hf⟩ := hrel
    have HM := Lib.hid hm
    have HF := Lib.hid hf
    clear hm hf
    by_cases hil : i < a.length
    · obtain ⟨g, off, rfl, hg, c0, c1⟩ := (HA.out.fr HF.out (by simp)).cel hil
      have hg2 : g < wr.heap.size := hg
      have hlt : ((i : Int) < (a.length : Int)) := by omega
      have hkb : bd64 a[i].1 := by have := HVA.out.idx _ (List.getElem_mem hil); unfold idxOk at this; unfold bd64; omega
      have hvb : bd64 a[i].2 := HVA.out.val _ (List.getElem_mem hil)
      obtain ⟨w3, hst, hm3, hf3⟩ := (HM.out.fr ((Fr.refl [] wr).alloc (.cells #[.int .i64 a[i].1, .int .i64 a[i].2] 48)) (by simp)).store (by unfold maxLen; omega) hkb hvb
      have HM3 := Lib.hid (hm3.step HVA.out.srt hil)
      have HF3 := Lib.hid ((HF.out.alloc (.cells #[.int .i64 a[i].1, .int .i64 a[i].2] 48)).trans hf3 (fun k hk => .inr (by simp at hk; have := HS.out; omega)))
      obtain ⟨k, hk⟩ : ∃ k, k = a[i].1 := ⟨_, rfl⟩
      obtain ⟨v, hv⟩ : ∃ v, v = a[i].2 := ⟨_, rfl⟩
      rw [← hk, ← hv] at hst
      rw [← hk] at c0
      rw [← hv] at c1
      clear hm3 hf3 hkb hvb hk hv
      gi_wp2
      go_roundw
      case rel => exact ⟨i + 1, by omega, by go_num, HM3.out, HF3.out⟩
      case measure => simp [intOf]; omega
    · have hnlt : ¬ ((i : Int) < (a.length : Int)) := by omega
      have hmE : IsM wr s a.length (has a) (getv a) := by
        have h := HM.out
        rw [List.take_of_length_le (by omega)] at h
        exact h.congr hi (fun _ _ => rfl) (fun _ _ => rfl)
      have HME := Lib.hid hmE
      clear hmE HM hil
      obtain ⟨W1, hW1⟩ : ∃ W1, W1 = wr.alloc (.cells #[.slice ro rest.length rc, .int .i64 0] 104) := ⟨_, rfl⟩
      obtain ⟨p, hp⟩ : ∃ p, p = wr.heap.size := ⟨_, rfl⟩
      have hwp : w.heap.size ≤ p := by rw [hp]; exact HF.out.size
      have hF1 : Fr [] w W1 := by rw [hW1]; exact HF.out.alloc _
      have hD1 : IsDec W1 p ro rest rc 0 := ⟨by rw [hW1, hp]; exact alloc_new wr _, HR.out.fr hF1 (by simp), HFIT.out, HCAP.out, fun hm => by have := HR1.out _ hm; omega⟩
      have hz1 : W1.heap.size = p + 1 := by rw [hW1, hp]; simp
      have hsp : s < p := by rw [hp]; exact HME.out.lt
      have hM1 : IsM W1 s a.length (has a) (getv a) := by rw [hW1]; exact HME.out.fr ((Fr.refl [] _).alloc _) (by simp)
      have hc1 := removed_any hD1 HB.out (by have := HLEN.out; omega) hM1 (by omega) (fun k hk => by have := HR1.out k hk; omega)
      have HC1 := Lib.hid hc1
      have HF1 := Lib.hid hF1
      have HM1 := Lib.hid hM1
      have HW1 := Lib.hid hW1
      have HP := Lib.hid hp
      have HZ1 := Lib.hid hz1
      have HWP := Lib.hid hwp
      have HSP := Lib.hid hsp
      clear hW1 hp hwp hF1 hD1 hz1 hsp hM1 hc1 hi
      gi_wp2_with fail
      rw [← HP.out]
      rw [← HW1.out]
      refine ⟨trivial, ?_⟩
      refine (callsIn_wide.2 HC1.out).mono ?_
      rintro e w2 ⟨G, m, r1, e1, ro1, rc1, rfl, hd1, hb1, hl1, hbk1, hf1, hs1, hcase1⟩
      rw [HZ1.out] at hs1 ⊢
      obtain ⟨mb, hmb⟩ : ∃ mb, mb = p + 1 := ⟨_, rfl⟩
      rw [← hmb] at hs1 ⊢
      have HD1 := Lib.hid hd1
      have HB1 := Lib.hid hb1
      have HL1 := Lib.hid hl1
      have HBK1 := Lib.hid hbk1
      have HFA := Lib.hid hf1
      have HS1 := Lib.hid hs1
      have HCASE1 := Lib.hid hcase1
      have HMB := Lib.hid hmb
      clear hd1 hb1 hl1 hbk1 hf1 hs1 hcase1 hmb
      gi_upto_region 9 with fail
      obtain ⟨w3, hw3⟩ : ∃ w3, w3 = w2.alloc (.cells #[.map (some mb)] 105) := ⟨_, rfl⟩
      rw [← hw3]
      obtain ⟨gb, hgb⟩ : ∃ gb, gb = w2.heap.size := ⟨_, rfl⟩
      rw [← hgb]
      have hFB : Fr [] w2 w3 := by rw [hw3]; exact (Fr.refl [] _).alloc _
      have hF3 : Fr [] w w3 := (HF1.out.trans HFA.out (fun k hk => .inr (by simp at hk; have := HWP.out; omega))).trans hFB (by simp [Ext])
      have hG3 : w3.heap[gb]? = some (.cells #[.map (some mb)] 105 (0, 0)) := by rw [hw3, hgb]; exact alloc_new _ _
      have hz3 : w3.heap.size = gb + 1 := by rw [hw3, hgb]; simp
      have hmg : mb < gb := by rw [hgb]; exact HS1.out.lt
      have hD3 := HD1.out.old hFB
      have hM3 : IsM w3 s a.length (has a) (getv a) := (HM1.out.fr HFA.out (by simp; have := HSP.out; omega)).fr hFB (by simp)
      have hS3 := HS1.out.fr hFB (by simp)
      obtain ⟨R2, hR2⟩ : ∃ R2 : Rdr (List (Int × Int)), R2 = if e1 = 0 then chgR a G r1 else .bad e1 := ⟨_, rfl⟩
      have hR2' : (e1 = 0 ∧ R2 = chgR a G r1) ∨ (e1 ≠ 0 ∧ R2 = .bad e1) := by
        by_cases h0 : e1 = 0
        · exact .inl ⟨h0, by rw [hR2, if_pos h0]⟩
        · exact .inr ⟨h0, by rw [hR2, if_neg h0]⟩
      have HC2 := Lib.hid (changed_any hD3 HB1.out (by have := HL1.out; have := HLEN.out; omega) hM3 hS3 (by have := HSP.out; omega) (by have := HMB.out; omega) (fun k hk => by have := HR1.out k (HBK1.out k hk); have := hF3.size; omega) hR2')
      have c10 : w3.cell? ⟨gb, 0, none⟩ = some (.map (some mb)) := cell_blk hG3 0
      have HFB := Lib.hid hFB
      have HF3 := Lib.hid hF3
      have HG3 := Lib.hid hG3
      have HZ3 := Lib.hid hz3
      have HMG := Lib.hid hmg
      have HS3 := Lib.hid hS3
      have HR2 := Lib.hid hR2'
      clear hw3 hgb hFB hF3 hG3 hz3 hmg hD3 hM3 hS3 hR2 hR2'
      gi_wp2_with fail
      refine ⟨trivial, ?_⟩
      refine (callsIn_wide.2 HC2.out).mono ?_
      rintro e w4 ⟨C, co, cc, r2, e2, ro2, rc2, rfl, hsC, hcN, hCl, hCb, hd2, hb2, hl2, hbk2, hf2, hcase2⟩
      have hfin := apply_fin HCASE1.out HR2.out hcase2
      have c0 : w4.cell? ⟨p, 0, none⟩ = some (.slice ro2 r2.length rc2) := cell_blk hd2.head 0
      have HSC := Lib.hid hsC
      have HCN := Lib.hid hcN
      have HCL := Lib.hid hCl
      have HCB := Lib.hid hCb
      have HD2 := Lib.hid hd2
      have HF4 := Lib.hid (HF3.out.trans hf2 (fun k hk => .inr (by simp at hk; have := HWP.out; omega)))
      have HG4 := Lib.hid (hf2.blk HG3.out (by simp; have := HMG.out; have := HMB.out; omega))
      have HS4 := Lib.hid (HS3.out.fr hf2 (by simp; have := HMB.out; omega))
      have HZ4 := Lib.hid (by have := hf2.size; have := HZ3.out; omega : gb < w4.heap.size)
      have HF34 := Lib.hid hf2
      clear hsC hcN hCl hCb hd2 hb2 hl2 hbk2 hf2 hcase2 c10
      by_cases hr2 : 0 < r2.length
      case' pos =>
        have hq : (0 : Int) < (r2.length : Int) := by omega
        have hbad := hfin.1 hr2
        obtain ⟨E, hE⟩ : ∃ E, E = failE e2 8 := ⟨_, rfl⟩
        rw [← hE] at hbad
        have HBAD := Lib.hid hbad
        have HFL := Lib.hid (by have h := fail_any HD2.out 8; rw [← hE] at h; exact h)
        have en : ((E : Int) != 0) = true := by have := hbad.1; simp; omega
        clear hfin hbad hE
        gi_upto_region 12 with (refine ⟨trivial, ?_⟩; gi_at_call 51; refine (callsIn_wide.2 HFL.out).mono ?_; rintro e w5 ⟨rfl, hd5, hf5⟩)
        have c1 : w5.cell? ⟨p, 1, none⟩ = some (.int .i64 (E : Int)) := cell_blk hd5.head 1
        have HF5 := Lib.hid (HF4.out.trans hf5 (fun k hk => .inr (by simp at hk; have := HWP.out; omega)))
        clear hd5 hf5 c0
        gi_wp2
        refine wpIn_wide.2 ?_
        go_region
        gi_wp2
        exact ⟨_, results_tmp2 rfl _ _ _, HF5.out.drew, .inl ⟨E, HBAD.out.2, rfl⟩⟩
      case' neg =>
        have hq : ¬ (0 : Int) < (r2.length : Int) := by omega
        have c1 : w4.cell? ⟨p, 1, none⟩ = some (.int .i64 (e2 : Int)) := cell_blk HD2.out.head 1
        by_cases he2 : e2 = 0
        case' neg =>
          have HBAD := Lib.hid (hfin.2.1 hr2 he2)
          have en : ((e2 : Int) != 0) = true := by simp; omega
          clear hfin
          gi_wp2
          refine wpIn_wide.2 ?_
          go_region
          gi_wp2
          exact ⟨_, results_tmp2 rfl _ _ _, HF4.out.drew, .inl ⟨e2, HBAD.out, rfl⟩⟩
        case' pos =>
          have HOKR := Lib.hid (hfin.2.2 hr2 he2)
          have en : ((e2 : Int) != 0) = false := by simp; omega
          clear hfin
          gi_upto_region 14 with fail
          gi_wp2_with (refine ⟨trivial, ?_⟩; gi_at_call 41; refine (merge_in _ _ _ _ _ _ _ _).mono ?_; rintro e w' ⟨rfl, rfl⟩)
          obtain ⟨sv, hsv⟩ : ∃ sv, sv = w4.heap.size := ⟨_, rfl⟩
          obtain ⟨L, hL⟩ : ∃ L : List Obj, L = [.cells #[.slice none 0 0] 30, .cells #[.slice ao a.length ca] 30, .cells #[.slice co C.length cc] 30] := ⟨_, rfl⟩
          obtain ⟨W0, hW0⟩ : ∃ W0, W0 = L.foldl World.alloc w4 := ⟨_, rfl⟩
          have hll : L.length = 3 := by rw [hL]; rfl
          have hsz : W0.heap.size = sv + 3 := by rw [hW0, allocs_size, hll, hsv]
          have hFW0 : Fr [] w4 W0 := by rw [hW0]; exact allocs_fr _ _
          have hget : ∀ (i : Nat) (o : Obj), L[i]? = some o → W0.heap[sv + i]? = some o := fun i o ho => by
            obtain ⟨h1, h2⟩ := List.getElem?_eq_some_iff.1 ho
            rw [hW0, hsv, allocs_get _ _ _ h1, h2]
          have hv0 : W0.heap[sv]? = some (.cells #[.slice none 0 0] 30 (0, 0)) := hget 0 _ (by rw [hL]; rfl)
          have hb1 : W0.cell? ⟨sv + 1, 0, none⟩ = some (.slice ao a.length ca) := cell_blk (hget 1 (.cells #[.slice ao a.length ca] 30) (by rw [hL]; rfl)) 0
          have hb2 : W0.cell? ⟨sv + 2, 0, none⟩ = some (.slice co C.length cc) := cell_blk (hget 2 (.cells #[.slice co C.length cc] 30) (by rw [hL]; rfl)) 0
          have eW : ((w4.alloc (.cells #[.slice none 0 0] 30)).alloc (.cells #[.slice ao a.length ca] 30)).alloc (.cells #[.slice co C.length cc] 30) = W0 := by rw [hW0, hL]; rfl
          rw [eW]
          rw [← hsv]
          simp only [Nat.add_assoc, Nat.reduceAdd]
          have HV0 := Lib.hid hv0
          have HFW0 := Lib.hid hFW0
          have HF0 := Lib.hid (HF4.out.trans hFW0 (by simp [Ext]))
          have HSZ := Lib.hid hsz
          have HB1 := Lib.hid hb1
          have HB2 := Lib.hid hb2
          have HSV := Lib.hid hsv
          clear hL hW0 hll hget eW hv0 hFW0 hsz hb1 hb2 hsv c0 c1
          obtain ⟨t, ht⟩ : ∃ t, t = mg a C := ⟨_, rfl⟩
          have HT := Lib.hid ht
          have hOK : ∀ x : Fin t.length, bd64 t[x].bi ∧ bd64 t[x].bv ∧ bd64 t[x].ai ∧ bd64 t[x].av := fun x => mg_ikey a C (fun y hy => ⟨by have := HVA.out.idx y hy; unfold idxOk at this; unfold bd64; omega, HVA.out.val y hy⟩) HCB.out _ (by rw [← ht]; exact List.getElem_mem _)
          have HOK := Lib.hid hOK
          have htl : t.length ≤ 2000000000 := by rw [ht]; have := mg_len a C; have := HLA.out; have := HCL.out; have := HLEN.out; have := HL1.out; omega
          have HTL := Lib.hid htl
          clear hOK htl
          have hsw : w.heap.size ≤ sv := by rw [HSV.out]; exact HF4.out.size
          have HSW := Lib.hid hsw
          have HSEQ : Hid (SeqStopsK Fence.wide (6 - 1) Try.prog 56 #[.pointer (some ⟨sv + 1, 0, none⟩), .pointer (some ⟨sv + 2, 0, none⟩)] (encP t) (FrB W0.heap.size [sv]) (fun ys => ys = fw t.length t.length) (fun _ => True) t.length W0) := by
            have h := merge_stops (6 - 1) (by omega) (sv + 1) (sv + 2) [sv] ao co ca cc a C W0 HB1.out HB2.out ⟨by rw [HSZ.out]; omega, by simp⟩ ⟨by rw [HSZ.out]; omega, by simp⟩ (HA.out.fr HF0.out (by simp)) (HSC.out.rd.fr HFW0.out (by simp))
              (fun k hk => ⟨by rw [HSZ.out]; have := HA1.out k hk; omega, by have := HA1.out k hk; simp; omega⟩) (fun k hk => ⟨by rw [HSZ.out]; have := HSC.out.lt k hk; rw [← HSV.out] at this; omega, by have := HSC.out.lt k hk; rw [← HSV.out] at this; simp; omega⟩)
            rw [← ht] at h
            exact Lib.hid h
          clear ht hsw
          refine wpIn_rangeFunc_ownH rfl (by omega) (gf := 56) (lb := #[.pointer (some ⟨sv + 1, 0, none⟩), .pointer (some ⟨sv + 2, 0, none⟩)]) rfl trivial (enters_of Try.func56 (by kernel_rfl) rfl)
            HSEQ.out
            frB_t (frB_b (Nat.le_refl _)) (Below.refl _ _) (fun _ => rfl)
            (fun (pre : List (Fin t.length)) W => AplT sv G (pre.map fun i => t[i]) W ∧ FrB W0.heap.size [sv] W0 W)
            (fun _ _ _ => False)
            ?own (fun _ _ _ _ _ hs _ _ => hs) ⟨⟨none, 0, HV0.out, Seg.nil _ _ _, by simp [blk], by rw [HSZ.out]; omega⟩, FrB.refl _ _ _⟩
            (fun (x : Fin t.length) a' W => ∃ (Bx : Nat) (p' : Pr), p' = t[x] ∧ W0.heap.size ≤ Bx ∧ W.heap[Bx]? = some (pC p') ∧ a' = { tmps := #[.slice ao a.length ca, .slice ro rest.length rc, undef, undef, .slice none 0 0, .int .i64 0, .map (some s), undef, u8, .pointer (some ⟨p, 0, none⟩), .pointer (some ⟨gb, 0, none⟩), .slice co C.length cc, .pointer (some ⟨sv, 0, none⟩), .pointer (some ⟨Bx, 0, none⟩), undef, undef, .slice ao a.length ca, .int .i64 (a.length : Int), .map (some s), .slice ao a.length ca, .int .i64 (a.length : Int), .int .i64 (i : Int), .bool false, u23, u24, u25, u26, u27, u28, u29, u30, .slice ro rest.length rc, .agg #[.slice ro rest.length rc, .int .i64 0], .pointer (some ⟨p, 0, none⟩), .pointer (some ⟨p, 0, none⟩), .map (some s), .map (some mb), .pointer (some ⟨p, 0, none⟩), .map (some s), .map (some mb), .slice co C.length cc, .pointer (some ⟨p, 0, none⟩), .pointer (some ⟨p, 0, none⟩), .pointer (some ⟨p, 0, none⟩), .slice ro2 r2.length rc2, .int .i64 (r2.length : Int), .bool false, undef, undef, .pointer (some ⟨p, 0, none⟩), .pointer (some ⟨p, 0, none⟩), .pointer (some ⟨p, 1, none⟩), .int .i64 0, .bool false, undef, undef, undef, undef, .slice ao a.length ca, .slice co C.length cc, .func (.func 56) #[] #[.pointer (some ⟨sv + 1, 0, none⟩), .pointer (some ⟨sv + 2, 0, none⟩)], .agg #[.int .i64 p'.bi, .int .i64 p'.bv, .int .i64 p'.ai, .int .i64 p'.av, .bool p'.ib, .bool p'.ia], undef, undef, undef, undef, undef, undef, undef, undef, undef, undef, undef, undef, undef, undef, undef, undef, undef, undef, undef, undef, undef, undef, undef], defers := [] })
            ?ownA ?assign ?body ?done ?stop
          case own =>
            rintro pre A B row ⟨h1, h3⟩ hg hr
            refine ⟨h1.kept hg.size fun k o hk ho => (hg.block k (lt_of_blk hk) (fun e => ?_)).trans hk, h3.trans (FrB.grown hg (by have := h3.size; omega) (fun r e => (hr r e).1))⟩
            obtain ⟨_, o', ho', hc⟩ := hr k e.symm
            rw [hk] at ho'; cases ho'; rw [ho] at hc; cases hc
          case ownA =>
            rintro x a' _ A B row ⟨Bx, p', hp, h1, h2, h3⟩ hg hr
            refine ⟨Bx, p', hp, h1, (hg.block Bx (lt_of_blk h2) (fun e => ?_)).trans h2, h3⟩
            obtain ⟨_, o, ho, hc⟩ := hr Bx e.symm
            rw [h2] at ho; cases ho; simp [pC, Obj.isCells] at hc
          case assign =>
            rintro l pre x W K ⟨h1, h3⟩ hK
            simp only [encP, pV]
            obtain ⟨p', hp⟩ : ∃ p, p = t[x] := ⟨_, rfl⟩
            rw [← hp]
            have HK := Lib.hid hK
            clear hK
            have hx : FrB W0.heap.size [sv] W (W.alloc (pC p')) := FrB.ofFr (Fr.alloc (Fr.refl _ W) _) h3.size
            have HI1 := Lib.hid (h1.fr ((Fr.refl [] W).alloc (pC p')))
            have H3 := Lib.hid h3
            have HP' := Lib.hid hp
            clear h1 h3 hp
            gi_wp2
            exact HK.out _ _ ((KeepsOthers.alloc _ _).from _) hx ⟨HI1.out, H3.out.trans hx⟩ ⟨W.heap.size, p', HP'.out, H3.out.size, alloc_new _ _, rfl⟩
          case body =>
            rintro l pre x a' W hl ⟨r, hr⟩ ⟨⟨vo, vc, h1, h2, hvn, hvs⟩, h3⟩ ⟨Bx, p', hp, hBx, bX, rfl⟩ hlt
            obtain ⟨T, hT⟩ : ∃ T, T = pre.map (fun i => t[i]) := ⟨_, rfl⟩
            have hTe : (pre ++ [x]).map (fun i => t[i]) = T ++ [p'] := by rw [List.map_append, ← hT, List.map_cons, List.map_nil, hp]
            have hTl : T.length ≤ 2000000000 := by rw [hT, List.length_map]; have := HTL.out; omega
            have hok := HOK.out x
            rw [← hp] at hok
            rw [← hT] at h1 h2
            have hVl : (T.filterMap (outP G)).length ≤ 2000000000 := Nat.le_trans (List.length_filterMap_le _ _) hTl
            have hN : W0.heap.size ≤ W.heap.size := h3.size
            have HFIN := Lib.hid (fun (W' : World) (hS : Stp W0.heap.size [sv] W W') (hD : AplT sv G (T ++ [p']) W') => (⟨hS.others.from _, hS.frB, by rw [hTe]; exact hD, h3.trans hS.frB⟩ : KeepsFrom W0.heap.size W W' ∧ FrB W0.heap.size [sv] W W' ∧ AplT sv G ((pre ++ [x]).map fun i => t[i]) W' ∧ FrB W0.heap.size [sv] W0 W'))
            have hEX : ∀ (y : Int × Int), outP G p' = some y → ∀ (vo' : Option Addr) (vc' : Nat) (W' : World), W'.heap[sv]? = some (.cells #[.slice vo' ((T.filterMap (outP G)).length + 1) vc'] 30 (0, 0)) → Seg W' 48 2 vo' ((T.filterMap (outP G)).length + 1) vc' ((T.filterMap (outP G)).flatMap clV ++ clV y) → (∀ k ∈ blk vo', sv + 3 ≤ k) → sv + 3 ≤ W'.heap.size → AplT sv G (T ++ [p']) W' := fun y hy vo' vc' W' q1 q2 q3 q4 => by
              have e : (T ++ [p']).filterMap (outP G) = T.filterMap (outP G) ++ [y] := by rw [outP_snoc, hy]
              refine ⟨vo', vc', ?_, ?_, q3, q4⟩
              · rw [e, List.length_append]; exact q1
              · rw [e, List.length_append, List.flatMap_append]
                simpa using q2
            have HNON := Lib.hid (fun (hy : outP G p' = none) (W' : World) (hf : Fr [] W W') => (by
              have e : (T ++ [p']).filterMap (outP G) = T.filterMap (outP G) := by rw [outP_snoc, hy, List.append_nil]
              have h : AplT sv G T W' := AplT.fr ⟨vo, vc, h1, h2, hvn, hvs⟩ hf
              unfold AplT at h ⊢
              rw [e]
              exact h : AplT sv G (T ++ [p']) W'))
            obtain ⟨V, hV⟩ : ∃ V, V = T.filterMap (outP G) := ⟨_, rfl⟩
            rw [← hV] at h1 h2 hVl hEX
            have hsb : sv ∉ blk vo := fun hm => by have := hvn _ hm; omega
            have HOUT := Lib.hid (fun (y : Int × Int) (hy : outP G p' = some y) (vo' : Option Addr) (vc' : Nat) (W5 w6 : World) (hfA : Fr [] W W5) (hs6 : Seg w6 48 2 vo' (V.length + 1) vc' (V.flatMap clV ++ clV y)) (hf6 : Fr (blk vo) W5 w6) (hx6 : Ext (blk vo) W5 (blk vo')) (hb6 : w6.heap[sv]? = some (.cells #[.slice vo V.length vc] 30 (0, 0))) => (by
              have hn' : ∀ k ∈ blk vo', sv + 3 ≤ k := fun k hk => by
                rcases hx6 k hk with q | q
                · exact hvn k q
                · have := hfA.size; omega
              have hS5 : Stp W0.heap.size [sv] W W5 := ⟨hfA.others (by simp), FrB.ofFr (hfA.mono (by simp)) hN⟩
              have hS6 : Stp W0.heap.size [sv] W w6 := hS5.app hN (h2.fr hfA (by simp)) (fun k hk => by rw [HSZ.out]; exact hvn k hk) hf6
              refine HFIN.out _ (hS6.set (by simp) _) (hEX y hy vo' vc' _ (setCell_blk hb6 0 _) (hs6.setCell_other (fun hm => by have := hn' _ hm; simp at this; omega)) hn' ?_)
              simp
              have := hfA.size
              have := hf6.size
              omega : KeepsFrom W0.heap.size W (w6.setCell ⟨sv, 0, none⟩ (.slice vo' (V.length + 1) vc')) ∧ FrB W0.heap.size [sv] W (w6.setCell ⟨sv, 0, none⟩ (.slice vo' (V.length + 1) vc')) ∧ AplT sv G ((pre ++ [x]).map fun i => t[i]) (w6.setCell ⟨sv, 0, none⟩ (.slice vo' (V.length + 1) vc')) ∧ FrB W0.heap.size [sv] W0 (w6.setCell ⟨sv, 0, none⟩ (.slice vo' (V.length + 1) vc'))))
            have HSG := Lib.hid (fun (W5 : World) (o : Obj) (hf : Fr [] W W5) => (h2.fr hf (by simp)).alloc o)
            have hgsv : gb < sv := by rw [HSV.out]; exact HZ4.out
            have cg : W.cell? ⟨gb, 0, none⟩ = some (.map (some mb)) := cell_blk ((h3.block gb (by rw [HSZ.out]; omega) (by simp; omega)).trans (HFW0.out.blk HG4.out (by simp))) 0
            have hsm : IsS W mb m (inL G) := by
              have h := HS4.out.fr HFW0.out (by simp)
              have hml := HMG.out
              exact h.same (h3.block mb (by rw [HSZ.out]; omega) (by simp; omega))
            have hlk := hsm.look hok.1
            have z0 : W.cell? ⟨Bx, 0, none⟩ = some (.int .i64 p'.bi) := cell_blk bX 0
            have z1 : W.cell? ⟨Bx, 1, none⟩ = some (.int .i64 p'.bv) := cell_blk bX 1
            have z2 : W.cell? ⟨Bx, 2, none⟩ = some (.int .i64 p'.ai) := cell_blk bX 2
            have z3 : W.cell? ⟨Bx, 3, none⟩ = some (.int .i64 p'.av) := cell_blk bX 3
            have z5 : W.cell? ⟨Bx, 5, none⟩ = some (.bool p'.ia) := cell_blk bX 5
            have cv : W.cell? ⟨sv, 0, none⟩ = some (.slice vo V.length vc) := cell_blk h1 0
            obtain ⟨ic, hic, hcz0, hcz1, hcz2⟩ := info_parts infoCell
            have H1 := Lib.hid h1
            have HSB := Lib.hid hsb
            have HN := Lib.hid hN
            have HBX := Lib.hid bX
            clear h1 h2 hvn hvs h3 hp bX hT hTe hTl hok hEX hV hsb hsm hN hlt hr hl hBx
            cases hia : p'.ia with
            | true =>
              rw [hia] at z5
              have HIA := Lib.hid hia
              clear hia
              gi_upto_region 18 with fail
              refine wpIn_round_list (by kernel_rfl) ?_
              go_wp2_with (at_builtin; refine wpList_append_seg rfl _ _ 30 rfl 48 ic _ 2 16 Try.underlying30 hic hcz0 hcz1 hcz2 rfl (by decide) vo V.length vc (V.flatMap clV) rfl (HSG.out _ _ (Fr.refl _ _)) ⟨_, 0, none⟩ 1 1 (clV (p'.ai, p'.av)) rfl rfl (fun j u hu => by rw [Addr.add_mid, Nat.zero_add, World.cell?_alloc_new]; simpa [clV] using hu) (by simp [clV, Value.oneCell']) (by unfold maxLen; omega) (by omega) ?_; intro vo' vc' w6 hs6 hf6 hx6; have HFA6 := Lib.hid ((Fr.refl [] W).alloc (.cells #[.int .i64 p'.ai, .int .i64 p'.av] 48)); have b6 := hf6.blk (HFA6.out.blk H1.out (by simp)) HSB.out; have c6 : w6.cell? ⟨sv, 0, none⟩ = some (.slice vo V.length vc) := cell_blk b6 0; have f6 : w6.frozen? ⟨sv, 0, none⟩ = false := frozen_blk b6 0; have HS6 := Lib.hid hs6; have HF6 := Lib.hid hf6; have HX6 := Lib.hid hx6; have HB6 := Lib.hid b6; clear hs6 hf6 hx6 b6)
              refine ⟨rfl, ?_⟩
              go_wp2
              exact HOUT.out (p'.ai, p'.av) (by unfold outP; rw [HIA.out]; rfl) _ _ _ _ HFA6.out HS6.out HF6.out HX6.out HB6.out
            | false =>
              rw [hia] at z5
              have HIA := Lib.hid hia
              clear hia
              cases hin : inL G p'.bi with
              | true =>
                rw [hin] at hlk
                have HIN := Lib.hid hin
                clear hin
                gi_wp2
                exact HFIN.out _ ⟨KeepsOthers.alloc _ _, FrB.ofFr ((Fr.refl _ _).alloc _) HN.out⟩ (HNON.out (by unfold outP; rw [HIA.out, HIN.out]; rfl) _ ((Fr.refl _ _).alloc _))
              | false =>
                rw [hin] at hlk
                have HIN := Lib.hid hin
                clear hin
                gi_upto_region 21 with fail
                obtain ⟨W5, hW5⟩ : ∃ W5, W5 = W.alloc (.cells #[] 109) := ⟨_, rfl⟩
                rw [← hW5]
                have hf5 : Fr [] W W5 := by rw [hW5]; exact (Fr.refl _ _).alloc _
                have HF5 := Lib.hid hf5
                have k0 : W5.cell? ⟨Bx, 0, none⟩ = some (.int .i64 p'.bi) := cell_blk (hf5.blk HBX.out (by simp)) 0
                have k1 : W5.cell? ⟨Bx, 1, none⟩ = some (.int .i64 p'.bv) := cell_blk (hf5.blk HBX.out (by simp)) 1
                have kv : W5.cell? ⟨sv, 0, none⟩ = some (.slice vo V.length vc) := cell_blk (hf5.blk H1.out (by simp)) 0
                clear z0 z1 z2 z3 z5 cv hW5 hf5 hlk cg
                refine wpIn_round_list (by kernel_rfl) ?_
                go_wp2_with (at_builtin; refine wpList_append_seg rfl _ _ 30 rfl 48 ic _ 2 16 Try.underlying30 hic hcz0 hcz1 hcz2 rfl (by decide) vo V.length vc (V.flatMap clV) rfl (HSG.out _ _ HF5.out) ⟨_, 0, none⟩ 1 1 (clV (p'.bi, p'.bv)) rfl rfl (fun j u hu => by rw [Addr.add_mid, Nat.zero_add, World.cell?_alloc_new]; simpa [clV] using hu) (by simp [clV, Value.oneCell']) (by unfold maxLen; omega) (by omega) ?_; intro vo' vc' w6 hs6 hf6 hx6; have HFA6 := Lib.hid (HF5.out.alloc (.cells #[.int .i64 p'.bi, .int .i64 p'.bv] 48)); have b6 := hf6.blk (HFA6.out.blk H1.out (by simp)) HSB.out; have c6 : w6.cell? ⟨sv, 0, none⟩ = some (.slice vo V.length vc) := cell_blk b6 0; have f6 : w6.frozen? ⟨sv, 0, none⟩ = false := frozen_blk b6 0; have HS6 := Lib.hid hs6; have HF6 := Lib.hid hf6; have HX6 := Lib.hid hx6; have HB6 := Lib.hid b6; clear hs6 hf6 hx6 b6)
                refine ⟨rfl, ?_⟩
                go_wp2
                exact HOUT.out (p'.bi, p'.bv) (by unfold outP; rw [HIA.out, HIN.out]; rfl) _ _ _ _ HFA6.out HS6.out HF6.out HX6.out HB6.out
          case done =>
            rintro D ys W hD rfl ⟨⟨vo, vc, h1, h2, hvn, hvs⟩, h3⟩ hK
            rw [fw_map] at h1 h2
            have hmv : mv a C G = t.filterMap (outP G) := by rw [HT.out]; rfl
            rw [← hmv] at h1 h2
            have cv : W.cell? ⟨sv, 0, none⟩ = some (.slice vo (mv a C G).length vc) := cell_blk h1 0
            have hFW : Fr [] w W := ⟨h3.os.trans HF0.out.os, h3.tape.trans HF0.out.tape, h3.output.trans HF0.out.output, Nat.le_trans HF0.out.size h3.size, fun k hk _ => (h3.block k (by have := HF0.out.size; omega) (by have := HSW.out; simp; omega)).trans (HF0.out.block k hk (by simp))⟩
            have hDw : w.heap.size ≤ D := by have := HF0.out.size; omega
            have HH2 := Lib.hid h2
            have HVN := Lib.hid hvn
            have HFW := Lib.hid hFW
            have HDW := Lib.hid hDw
            have HKK := Lib.hid hK
            clear h1 h2 hvn hvs h3 hK hmv hFW hDw
            gi_wp2
            refine ⟨by simp, .inl ⟨_, _, rfl, run_takeDeferred HKK.out, ?_⟩⟩
            refine ⟨_, results_tmp2 rfl _ _ _, HFW.out.putObjD HDW.out _, .inr ⟨mv a C G, vo, vc, HOKR.out, rfl, ?_, fun k hk => ?_⟩⟩
            · refine HH2.out.same (fun k hk => World.putObj_heap_other ?_)
              intro e
              subst e
              rcases HH2.out.2.2.2 with ⟨rfl, _⟩ | ⟨g, off, cur, rfl, hg, _⟩
              · simp [blk] at hk
              · simp [blk] at hk
                subst hk
                rw [HKK.out] at hg
                cases hg
            · have := HVN.out k hk
              have := HSW.out
              omega
          case stop =>
            rintro D c pre W _ _ h _
            exact h.elim
end Go.Proofs.Ytodfeaipoagphaa
/- arenanetref28.put; and a view with one more cell (plain). -/
namespace Go.Proofs.Ytodfeaipoagphaa
open Go.RowKit

/-- what put goes through -/
def putF (c : Int × Int) : Bool → List (Int × Int) → List (Int × Int)
  | d, [] => if d then [] else [c]
  | d, x :: r => (if !d && decide (c.1 ≤ x.1) then [c] else []) ++ (if x.1 != c.1 then [x] else []) ++ putF c (d || decide (c.1 ≤ x.1)) r
theorem putF_done (c : Int × Int) : ∀ (l : List (Int × Int)), (∀ x ∈ l, c.1 < x.1) → putF c true l = l
  | [], _ => rfl
  | x :: r, h => by
    have h1 := h x (by simp)
    have e : (x.1 != c.1) = true := by simp; omega
    rw [putF, e, Bool.true_or, putF_done c r (fun y hy => h y (by simp [hy]))]
    rfl
theorem putF_view {c : Int × Int} (hc : idxOk c.1 ∧ bd64 c.2) : ∀ {l : List (Int × Int)}, IsView l → IsView (putF c false l) ∧ (∀ x ∈ putF c false l, x = c ∨ x ∈ l)
  | [], _ => ⟨⟨List.pairwise_singleton _ _, by simpa [putF] using hc.1, by simpa [putF] using hc.2⟩, by simp [putF]⟩
  | x :: r, h => by
    have hr : IsView r := ⟨h.srt.tail, fun y hy => h.idx y (by simp [hy]), fun y hy => h.val y (by simp [hy])⟩
    have hx := h.srt.head
    rcases Int.lt_trichotomy x.1 c.1 with q | q | q
    · have e1 : decide (c.1 ≤ x.1) = false := by simp; omega
      have e2 : (x.1 != c.1) = true := by simp; omega
      obtain ⟨i1, i2⟩ := putF_view hc hr
      have e : putF c false (x :: r) = x :: putF c false r := by rw [putF, e1, e2]; rfl
      rw [e]
      refine ⟨⟨List.pairwise_cons.2 ⟨fun y hy => ?_, i1.srt⟩, fun y hy => ?_, fun y hy => ?_⟩, fun y hy => ?_⟩
      · rcases i2 y hy with rfl | h2
        · exact q
        · exact hx y h2
      · rcases List.mem_cons.1 hy with rfl | h2
        · exact h.idx _ (by simp)
        · exact i1.idx y h2
      · rcases List.mem_cons.1 hy with rfl | h2
        · exact h.val _ (by simp)
        · exact i1.val y h2
      · rcases List.mem_cons.1 hy with rfl | h2
        · exact .inr (by simp)
        · rcases i2 y h2 with h3 | h3
          · exact .inl h3
          · exact .inr (by simp [h3])
    · have e1 : decide (c.1 ≤ x.1) = true := by simp; omega
      have e2 : (x.1 != c.1) = false := by simp; omega
      have e : putF c false (x :: r) = c :: r := by
        rw [putF, e1, e2]
        simp only [Bool.not_false, Bool.and_self, if_pos, Bool.false_or, List.append_nil]
        rw [putF_done c r (fun y hy => by have := hx y hy; omega)]
        rfl
      rw [e]
      refine ⟨⟨List.pairwise_cons.2 ⟨fun y hy => by have := hx y hy; omega, hr.srt⟩, fun y hy => ?_, fun y hy => ?_⟩, fun y hy => ?_⟩
      · rcases List.mem_cons.1 hy with rfl | h2
        · exact hc.1
        · exact hr.idx y h2
      · rcases List.mem_cons.1 hy with rfl | h2
        · exact hc.2
        · exact hr.val y h2
      · rcases List.mem_cons.1 hy with rfl | h2
        · exact .inl rfl
        · exact .inr (by simp [h2])
    · have e1 : decide (c.1 ≤ x.1) = true := by simp; omega
      have e2 : (x.1 != c.1) = true := by simp; omega
      have e : putF c false (x :: r) = c :: x :: r := by
        rw [putF, e1, e2]
        simp only [Bool.not_false, Bool.and_self, if_pos, Bool.false_or]
        rw [putF_done c r (fun y hy => by have := hx y hy; omega)]
        rfl
      rw [e]
      refine ⟨⟨List.pairwise_cons.2 ⟨fun y hy => ?_, h.srt⟩, fun y hy => ?_, fun y hy => ?_⟩, fun y hy => ?_⟩
      · rcases List.mem_cons.1 hy with rfl | h2
        · exact q
        · have := hx y h2; omega
      · rcases List.mem_cons.1 hy with rfl | h2
        · exact hc.1
        · exact h.idx y h2
      · rcases List.mem_cons.1 hy with rfl | h2
        · exact hc.2
        · exact h.val y h2
      · rcases List.mem_cons.1 hy with rfl | h2
        · exact .inl rfl
        · exact .inr h2
theorem putF_len (c : Int × Int) : ∀ (l : List (Int × Int)) (d : Bool), (putF c d l).length ≤ l.length + (if d then 0 else 1)
  | [], d => by cases d <;> simp [putF]
  | x :: r, d => by
    have ih := putF_len c r
    rw [putF, List.length_append, List.length_append, List.length_cons]
    have h3 := ih (d || decide (c.1 ≤ x.1))
    cases d <;> cases hd : decide (c.1 ≤ x.1) <;> cases he : (x.1 != c.1) <;> simp [hd] at h3 ⊢ <;> omega

def CelTo (w : World) (L : List (Int × Int)) (e : Ending) (w' : World) : Prop := ∃ ao ca, e = .returned (.slice ao L.length ca) ∧ Seg w' 48 2 ao L.length ca (L.flatMap clV) ∧ Fr [] w w' ∧ ∀ k ∈ blk ao, w.heap.size ≤ k

attribute [local irreducible] wpStill
set_option maxRecDepth 100000 in
set_option maxHeartbeats 8000000 in
theorem put_any (w : World) (lo : Option Addr) (lc : Nat) (l : List (Int × Int)) (k v : Int) (hr : Rd w 2 lo l.length (l.flatMap clV)) (hl : l.length ≤ 1000) :
    Calls Try.prog 32 #[.slice lo l.length lc, .agg #[.int .i64 k, .int .i64 v]] w (CelTo w (putF (k, v) false l)) := by
  obtain ⟨ic, hic, hcz0, hcz1, hcz2⟩ := info_parts infoCell
  have HR := Lib.hid hr
  obtain ⟨b, hb⟩ : ∃ b, b = w.heap.size := ⟨_, rfl⟩
  obtain ⟨W1, hW1⟩ : ∃ W1, W1 = w.alloc (.cells #[.int .i64 k, .int .i64 v] 48) := ⟨_, rfl⟩
  have HBK := Lib.hid (by rw [hW1, hb]; exact alloc_new w _ : W1.heap[b]? = some (.cells #[.int .i64 k, .int .i64 v] 48 (0, 0)))
  have HF1 := Lib.hid (by rw [hW1]; exact (Fr.refl _ _).alloc _ : Fr [] w W1)
  have HZ1 := Lib.hid (by rw [hW1, hb]; simp : W1.heap.size = b + 1)
  have HB := Lib.hid hb
  have HW1 := Lib.hid hW1
  clear hr hb hW1
  go_enter Try.func32, Try.ntmps32
  go_wp2_with fail
  rw [← HB.out, ← HW1.out]
  go_loopw [5, 6, 7] (fun ov dv iv wr => ∃ (i : Nat) (O : List (Int × Int)) (oo : Option Addr) (oc : Nat) (d : Bool), ov = .slice oo O.length oc ∧ dv = .bool d ∧ iv = .int .i64 (i : Int) ∧ i ≤ l.length ∧ O.length ≤ 2 * i ∧ O ++ putF (k, v) d (l.drop i) = putF (k, v) false l ∧ Seg wr 48 2 oo O.length oc (O.flatMap clV) ∧ (∀ q ∈ blk oo, b + 1 ≤ q) ∧ Fr [] W1 wr) (fun _ _ iv _ => l.length - (intOf iv).toNat)
  case atStart => exact ⟨0, [], none, 0, false, rfl, rfl, rfl, by omega, by simp, rfl, Seg.nil _ _ _, by simp [blk], Fr.refl _ _⟩
  case round =>
    obtain ⟨i, O, oo, oc, d, rfl, rfl, rfl, hi, hO, hpf, hs, hbk, hf⟩ := hrel
    have HPF := Lib.hid hpf
    have HS := Lib.hid hs
    have HBO := Lib.hid hbk
    have HF := Lib.hid hf
    have b0 : wr.cell? ⟨b, 0, none⟩ = some (.int .i64 k) := cell_blk (hf.blk HBK.out (by simp)) 0
    have b1 : wr.cell? ⟨b, 1, none⟩ = some (.int .i64 v) := cell_blk (hf.blk HBK.out (by simp)) 1
    clear hpf hs hbk hf
    by_cases hil : i < l.length
    · obtain ⟨g, off, rfl, hg, c0, c1⟩ := ((HR.out.fr HF1.out (by simp)).fr HF.out (by simp)).cel hil
      have hlt : (i : Int) < (l.length : Int) := by omega
      have hdr : l.drop i = l[i] :: l.drop (i + 1) := List.drop_eq_getElem_cons hil
      obtain ⟨x, hx⟩ : ∃ x, x = l[i] := ⟨_, rfl⟩
      rw [← hx] at c0 c1 hdr
      have HDR := Lib.hid hdr
      have HXE := Lib.hid hx
      clear hx hdr
      cases d
      case' true =>
        go_upto_region 6 with fail
        refine wp_still_tail 11 (by kernel_rfl) (by kernel_rfl) ?_
        simp only [List.take_succ_cons, List.take_zero, List.drop_succ_cons, List.drop_zero]
        repeat still_step
        refine wpStill_nil ?_
        obtain ⟨w9, hww⟩ : ∃ w9, w9 = wr.drew := ⟨_, rfl⟩
        have e0 : w9.cell? ⟨b, 0, none⟩ = some (.int .i64 k) := by rw [hww]; exact b0
        have e1 : w9.cell? ⟨b, 1, none⟩ = some (.int .i64 v) := by rw [hww]; exact b1
        have e2 : w9.cell? ⟨g, off + i * 2, none⟩ = some (.int .i64 x.1) := by rw [hww]; exact c0
        have e3 : w9.cell? ⟨g, off + i * 2 + 1, none⟩ = some (.int .i64 x.2) := by rw [hww]; exact c1
        have HSw9 : Hid (Seg w9 48 2 oo O.length oc (O.flatMap clV)) := Lib.hid (by rw [hww]; exact HS.out.drew)
        have HFw9 : Hid (Fr [] W1 w9) := Lib.hid (by rw [hww]; exact HF.out.drew)
        rw [← hww]
        clear hww b0 b1 c0 c1
        go_upto_region 9 with fail
        obtain ⟨O9, rfl⟩ : ∃ z, z = O := ⟨_, rfl⟩
        obtain ⟨o9, rfl⟩ : ∃ z, z = oo := ⟨_, rfl⟩
        obtain ⟨k9, rfl⟩ : ∃ z, z = oc := ⟨_, rfl⟩
        have HPF9 : Hid (O9 ++ (if x.1 != k then [x] else []) ++ putF (k, v) true (l.drop (i + 1)) = putF (k, v) false l) := Lib.hid (by rw [← HPF.out, HDR.out, putF, Bool.true_or]; simp [List.append_assoc])
        have hO9l : O9.length ≤ 2 * i + 1 := by omega
        have HS9 := HSw9
        have HF9 := HFw9
        have HBO9 := HBO
        clear e0 e1 e2 e3
      case' false =>
        by_cases hge : k ≤ x.1
        case' pos =>
          have hdg : decide (x.1 ≥ k) = true := decide_eq_true hge
          go_upto_region 6 with fail
          refine wp_still_tail 11 (by kernel_rfl) (by kernel_rfl) ?_
          simp only [List.take_succ_cons, List.take_zero, List.drop_succ_cons, List.drop_zero]
          repeat still_step
          refine wpStill_nil ?_
          obtain ⟨w6, hww⟩ : ∃ w6, w6 = wr.drew := ⟨_, rfl⟩
          have e0 : w6.cell? ⟨b, 0, none⟩ = some (.int .i64 k) := by rw [hww]; exact b0
          have e1 : w6.cell? ⟨b, 1, none⟩ = some (.int .i64 v) := by rw [hww]; exact b1
          have e2 : w6.cell? ⟨g, off + i * 2, none⟩ = some (.int .i64 x.1) := by rw [hww]; exact c0
          have e3 : w6.cell? ⟨g, off + i * 2 + 1, none⟩ = some (.int .i64 x.2) := by rw [hww]; exact c1
          have HSw6 : Hid (Seg w6 48 2 oo O.length oc (O.flatMap clV)) := Lib.hid (by rw [hww]; exact HS.out.drew)
          have HFw6 : Hid (Fr [] W1 w6) := Lib.hid (by rw [hww]; exact HF.out.drew)
          rw [← hww]
          clear hww b0 b1 c0 c1
          go_upto_region 9 with (at_builtin; refine wpList_append_seg rfl _ _ 30 rfl 48 ic _ 2 16 Try.underlying30 hic hcz0 hcz1 hcz2 rfl (by decide) oo O.length oc (O.flatMap clV) rfl (HSw6.out.alloc _) ⟨_, 0, none⟩ 1 1 (clV (k, v)) rfl rfl (fun j u hu => by rw [Addr.add_mid, Nat.zero_add, World.cell?_alloc_new]; simpa [clV] using hu) (by simp [clV, Value.oneCell']) (by unfold maxLen; omega) (by omega) ?_; intro o9 k9 w9 hs9 hf9 hx9)
          obtain ⟨O9, hO9⟩ : ∃ O9, O9 = O ++ [(k, v)] := ⟨_, rfl⟩
          have hk1 : decide (k ≤ x.1) = true := decide_eq_true hge
          have HPF9 : Hid (O9 ++ (if x.1 != k then [x] else []) ++ putF (k, v) true (l.drop (i + 1)) = putF (k, v) false l) := Lib.hid (by rw [← HPF.out, HDR.out, hO9, putF, hk1]; simp [List.append_assoc])
          have hO9l : O9.length ≤ 2 * i + 1 := by rw [hO9]; simp; omega
          have hO9n : O.length + 1 = O9.length := by rw [hO9]; simp
          have HS9 : Hid (Seg w9 48 2 o9 O9.length k9 (O9.flatMap clV)) := Lib.hid (by rw [hO9, List.length_append, List.flatMap_append]; simpa using hs9)
          have hbz := HBO.out
          have HBO9 : Hid (∀ q ∈ blk o9, b + 1 ≤ q) := Lib.hid (fun q hq => by
            rcases hx9 q hq with q1 | q1
            · exact hbz q q1
            · have := HFw6.out.size; have := HZ1.out; simp at q1; omega)
          have HF9 : Hid (Fr [] W1 w9) := Lib.hid ((HFw6.out.alloc _).trans hf9 (fun q hq => .inr (by have := hbz q hq; have := HZ1.out; omega)))
          rw [hO9n]
          clear hO9 hO9n hbz hs9 hf9 hx9 hk1 e0 e1 e2 e3 hdg hge
        case' neg =>
          have hdg : decide (x.1 ≥ k) = false := decide_eq_false (by omega)
          have hk1 : decide (k ≤ x.1) = false := decide_eq_false (by omega)
          have HK1 := Lib.hid hk1
          clear hk1
          go_upto_region 6 with fail
          refine wp_still_tail 11 (by kernel_rfl) (by kernel_rfl) ?_
          simp only [List.take_succ_cons, List.take_zero, List.drop_succ_cons, List.drop_zero]
          repeat still_step
          refine wpStill_nil ?_
          obtain ⟨w9, hww⟩ : ∃ w9, w9 = wr.drew := ⟨_, rfl⟩
          have e0 : w9.cell? ⟨b, 0, none⟩ = some (.int .i64 k) := by rw [hww]; exact b0
          have e1 : w9.cell? ⟨b, 1, none⟩ = some (.int .i64 v) := by rw [hww]; exact b1
          have e2 : w9.cell? ⟨g, off + i * 2, none⟩ = some (.int .i64 x.1) := by rw [hww]; exact c0
          have e3 : w9.cell? ⟨g, off + i * 2 + 1, none⟩ = some (.int .i64 x.2) := by rw [hww]; exact c1
          have HSw9 : Hid (Seg w9 48 2 oo O.length oc (O.flatMap clV)) := Lib.hid (by rw [hww]; exact HS.out.drew)
          have HFw9 : Hid (Fr [] W1 w9) := Lib.hid (by rw [hww]; exact HF.out.drew)
          rw [← hww]
          clear hww b0 b1 c0 c1
          go_upto_region 9 with fail
          obtain ⟨O9, rfl⟩ : ∃ z, z = O := ⟨_, rfl⟩
          obtain ⟨o9, rfl⟩ : ∃ z, z = oo := ⟨_, rfl⟩
          obtain ⟨k9, rfl⟩ : ∃ z, z = oc := ⟨_, rfl⟩
          have HPF9 : Hid (O9 ++ (if x.1 != k then [x] else []) ++ putF (k, v) false (l.drop (i + 1)) = putF (k, v) false l) := Lib.hid (by rw [← HPF.out, HDR.out, putF, HK1.out, Bool.or_false]; simp [List.append_assoc])
          have hO9l : O9.length ≤ 2 * i + 1 := by omega
          have HS9 := HSw9
          have HF9 := HFw9
          have HBO9 := HBO
          clear e0 e1 e2 e3
          clear hdg hge
      all_goals
        obtain ⟨g', off', he, hg', c0, c1⟩ := ((HR.out.fr HF1.out (by simp)).fr HF9.out (by simp)).cel hil
        cases he
        rw [← HXE.out] at c0 c1
        have b0 : w9.cell? ⟨b, 0, none⟩ = some (.int .i64 k) := cell_blk (HF9.out.blk HBK.out (by simp)) 0
        by_cases hxk : x.1 = k
        case' pos =>
          have hne : (x.1 != k) = false := by simp [hxk]
          have HPX : Hid (O9 ++ putF (k, v) _ (l.drop (i + 1)) = putF (k, v) false l) := Lib.hid (by have h := HPF9.out; rw [hne] at h; simpa using h)
          clear hxk
          refine wp_still_tail 7 (by kernel_rfl) (by kernel_rfl) ?_
          simp only [List.take_succ_cons, List.take_zero, List.drop_succ_cons, List.drop_zero]
          repeat still_step
          refine wpStill_nil ?_
          go_wp2_with fail
          go_roundw
          case rel => exact ⟨i + 1, O9, o9, k9, _, rfl, rfl, by go_num, by omega, by omega, HPX.out, HS9.out.drew, HBO9.out, HF9.out.drew⟩
          case measure => simp [intOf]; omega
        case' neg =>
          have hne : (x.1 != k) = true := by simp [hxk]
          have HPX : Hid (O9 ++ [x] ++ putF (k, v) _ (l.drop (i + 1)) = putF (k, v) false l) := Lib.hid (by have h := HPF9.out; rw [hne] at h; simpa using h)
          clear hxk
          refine wp_still_tail 7 (by kernel_rfl) (by kernel_rfl) ?_
          simp only [List.take_succ_cons, List.take_zero, List.drop_succ_cons, List.drop_zero]
          repeat still_step
          refine wpStill_nil ?_
          obtain ⟨wa, hwa⟩ : ∃ wa, wa = w9.drew := ⟨_, rfl⟩
          rw [← hwa]
          have c0' : wa.cell? ⟨g, off + i * 2, none⟩ = some (.int .i64 x.1) := by rw [hwa]; exact c0
          have c1' : wa.cell? ⟨g, off + i * 2 + 1, none⟩ = some (.int .i64 x.2) := by rw [hwa]; exact c1
          have HSA : Hid (Seg wa 48 2 o9 O9.length k9 (O9.flatMap clV)) := Lib.hid (by rw [hwa]; exact HS9.out.drew)
          have HFA : Hid (Fr [] W1 wa) := Lib.hid (by rw [hwa]; exact HF9.out.drew)
          clear hwa c0 c1 b0
          go_wp2_with (at_builtin; refine wpList_append_seg rfl _ _ 30 rfl 48 ic _ 2 16 Try.underlying30 hic hcz0 hcz1 hcz2 rfl (by decide) o9 O9.length k9 (O9.flatMap clV) rfl (HSA.out.alloc _) ⟨_, 0, none⟩ 1 1 (clV x) rfl rfl (fun j u hu => by rw [Addr.add_mid, Nat.zero_add, World.cell?_alloc_new]; simpa [clV] using hu) (by simp [clV, Value.oneCell']) (by unfold maxLen; omega) (by omega) ?_; intro oz kz wz hsz hfz hxz)
          have hbz := HBO9.out
          have HFZ : Hid (Fr [] W1 wz) := Lib.hid ((HFA.out.alloc _).trans hfz (fun q hq => .inr (by have := hbz q hq; have := HZ1.out; omega)))
          have HBZ : Hid (∀ q ∈ blk oz, b + 1 ≤ q) := Lib.hid (fun q hq => by
            rcases hxz q hq with q1 | q1
            · exact hbz q q1
            · have := HFA.out.size; have := HZ1.out; simp at q1; omega)
          have HSZ : Hid (Seg wz 48 2 oz (O9 ++ [x]).length kz ((O9 ++ [x]).flatMap clV)) := Lib.hid (by rw [List.length_append, List.flatMap_append]; simpa using hsz)
          clear hbz hsz hfz hxz
          go_roundw
          case rel => exact ⟨i + 1, O9 ++ [x], oz, kz, _, by simp, rfl, by go_num, by omega, by simp; omega, HPX.out, HSZ.out, HBZ.out, HFZ.out⟩
          case measure => simp [intOf]; omega
    · have hnlt : ¬ (i : Int) < (l.length : Int) := by omega
      have hdr : l.drop i = [] := List.drop_of_length_le (by omega)
      have hpf := HPF.out
      rw [hdr] at hpf
      have HS0 := Lib.hid (fun q (hq : q ∈ blk oo) => (by have := HBO.out q hq; have := HB.out; omega : w.heap.size ≤ q))
      have HFE := Lib.hid (HF1.out.trans HF.out (by simp [Ext]))
      cases d with
      | true =>
        have HE := Lib.hid (by rw [← hpf]; simp [putF] : putF (k, v) false l = O)
        clear hpf hdr
        go_wp2_with fail
        go_ret
        exact ⟨oo, oc, by rw [HE.out]; rfl, by rw [HE.out]; exact HS.out, HFE.out, HS0.out⟩
      | false =>
        have HE := Lib.hid (by rw [← hpf]; simp [putF] : putF (k, v) false l = O ++ [(k, v)])
        clear hpf hdr
        go_wp2_with (at_builtin; refine wpList_append_seg rfl _ _ 30 rfl 48 ic _ 2 16 Try.underlying30 hic hcz0 hcz1 hcz2 rfl (by decide) oo O.length oc (O.flatMap clV) rfl (HS.out.alloc _) ⟨_, 0, none⟩ 1 1 (clV (k, v)) rfl rfl (fun j u hu => by rw [Addr.add_mid, Nat.zero_add, World.cell?_alloc_new]; simpa [clV] using hu) (by simp [clV, Value.oneCell']) (by unfold maxLen; omega) (by omega) ?_; intro oz kz wz hsz hfz hxz)
        go_ret
        have hbz := HBO.out
        refine ⟨oz, kz, by rw [HE.out, List.length_append]; rfl, by rw [HE.out, List.length_append, List.flatMap_append]; simpa using hsz, HF1.out.trans ((HF.out.alloc _).trans hfz (fun q hq => .inr (by have := hbz q hq; have := HZ1.out; omega))) (by simp [Ext]), fun q hq => ?_⟩
        rcases hxz q hq with q1 | q1
        · exact HS0.out q q1
        · have := HFE.out.size; simp at q1; omega
end Go.Proofs.Ytodfeaipoagphaa
