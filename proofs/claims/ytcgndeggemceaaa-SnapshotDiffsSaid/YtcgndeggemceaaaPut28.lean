/- arenanetref28.put; and a view with one more cell (plain). -/
import Derived.Test.YtcgndeggemceaaaApl28
namespace Go.Proofs.Ytcgndeggemceaaa
open Go.RowKit

/-- what put goes through -/
def putF (c : Int × Int) : Bool → List (Int × Int) → List (Int × Int)
  | d, [] => if d then [] else [c]
  | d, x :: r => (if !d && decide (c.1 ≤ x.1) then [c] else []) ++ (if x.1 != c.1 then [x] else []) ++ putF c (d || decide (c.1 ≤ x.1)) r
theorem putF_done (c : Int × Int) : ∀ (l : List (Int × Int)), (∀ x ∈ l, c.1 < x.1) → putF c true l = l
  | [], _ => rfl
  | x :: r, h => by
    have h1 := h x (by simp)
    have e : (x.1 != c.1) = true := by simp; omega
    rw [putF, e, Bool.true_or, putF_done c r (fun y hy => h y (by simp [hy]))]
    rfl
theorem putF_view {c : Int × Int} (hc : idxOk c.1 ∧ bd64 c.2) : ∀ {l : List (Int × Int)}, IsView l → IsView (putF c false l) ∧ (∀ x ∈ putF c false l, x = c ∨ x ∈ l)
  | [], _ => ⟨⟨List.pairwise_singleton _ _, by simpa [putF] using hc.1, by simpa [putF] using hc.2⟩, by simp [putF]⟩
  | x :: r, h => by
    have hr : IsView r := ⟨h.srt.tail, fun y hy => h.idx y (by simp [hy]), fun y hy => h.val y (by simp [hy])⟩
    have hx := h.srt.head
    rcases Int.lt_trichotomy x.1 c.1 with q | q | q
    · have e1 : decide (c.1 ≤ x.1) = false := by simp; omega
      have e2 : (x.1 != c.1) = true := by simp; omega
      obtain ⟨i1, i2⟩ := putF_view hc hr
      have e : putF c false (x :: r) = x :: putF c false r := by rw [putF, e1, e2]; rfl
      rw [e]
      refine ⟨⟨List.pairwise_cons.2 ⟨fun y hy => ?_, i1.srt⟩, fun y hy => ?_, fun y hy => ?_⟩, fun y hy => ?_⟩
      · rcases i2 y hy with rfl | h2
        · exact q
        · exact hx y h2
      · rcases List.mem_cons.1 hy with rfl | h2
        · exact h.idx _ (by simp)
        · exact i1.idx y h2
      · rcases List.mem_cons.1 hy with rfl | h2
        · exact h.val _ (by simp)
        · exact i1.val y h2
      · rcases List.mem_cons.1 hy with rfl | h2
        · exact .inr (by simp)
        · rcases i2 y h2 with h3 | h3
          · exact .inl h3
          · exact .inr (by simp [h3])
    · have e1 : decide (c.1 ≤ x.1) = true := by simp; omega
      have e2 : (x.1 != c.1) = false := by simp; omega
      have e : putF c false (x :: r) = c :: r := by
        rw [putF, e1, e2]
        simp only [Bool.not_false, Bool.and_self, if_pos, Bool.false_or, List.append_nil]
        rw [putF_done c r (fun y hy => by have := hx y hy; omega)]
        rfl
      rw [e]
      refine ⟨⟨List.pairwise_cons.2 ⟨fun y hy => by have := hx y hy; omega, hr.srt⟩, fun y hy => ?_, fun y hy => ?_⟩, fun y hy => ?_⟩
      · rcases List.mem_cons.1 hy with rfl | h2
        · exact hc.1
        · exact hr.idx y h2
      · rcases List.mem_cons.1 hy with rfl | h2
        · exact hc.2
        · exact hr.val y h2
      · rcases List.mem_cons.1 hy with rfl | h2
        · exact .inl rfl
        · exact .inr (by simp [h2])
    · have e1 : decide (c.1 ≤ x.1) = true := by simp; omega
      have e2 : (x.1 != c.1) = true := by simp; omega
      have e : putF c false (x :: r) = c :: x :: r := by
        rw [putF, e1, e2]
        simp only [Bool.not_false, Bool.and_self, if_pos, Bool.false_or]
        rw [putF_done c r (fun y hy => by have := hx y hy; omega)]
        rfl
      rw [e]
      refine ⟨⟨List.pairwise_cons.2 ⟨fun y hy => ?_, h.srt⟩, fun y hy => ?_, fun y hy => ?_⟩, fun y hy => ?_⟩
      · rcases List.mem_cons.1 hy with rfl | h2
        · exact q
        · have := hx y h2; omega
      · rcases List.mem_cons.1 hy with rfl | h2
        · exact hc.1
        · exact h.idx y h2
      · rcases List.mem_cons.1 hy with rfl | h2
        · exact hc.2
        · exact h.val y h2
      · rcases List.mem_cons.1 hy with rfl | h2
        · exact .inl rfl
        · exact .inr h2
theorem putF_len (c : Int × Int) : ∀ (l : List (Int × Int)) (d : Bool), (putF c d l).length ≤ l.length + (if d then 0 else 1)
  | [], d => by cases d <;> simp [putF]
  | x :: r, d => by
    have ih := putF_len c r
    rw [putF, List.length_append, List.length_append, List.length_cons]
    have h3 := ih (d || decide (c.1 ≤ x.1))
    cases d <;> cases hd : decide (c.1 ≤ x.1) <;> cases he : (x.1 != c.1) <;> simp [hd] at h3 ⊢ <;> omega

def CelTo (w : World) (L : List (Int × Int)) (e : Ending) (w' : World) : Prop := ∃ ao ca, e = .returned (.slice ao L.length ca) ∧ Seg w' 38 2 ao L.length ca (L.flatMap clV) ∧ Fr [] w w' ∧ ∀ k ∈ blk ao, w.heap.size ≤ k

attribute [local irreducible] wpStill
set_option maxRecDepth 100000 in
set_option maxHeartbeats 8000000 in
theorem put_any (w : World) (lo : Option Addr) (lc : Nat) (l : List (Int × Int)) (k v : Int) (hr : Rd w 2 lo l.length (l.flatMap clV)) (hl : l.length ≤ 1000) :
    Calls Try.prog 29 #[.slice lo l.length lc, .agg #[.int .i64 k, .int .i64 v]] w (CelTo w (putF (k, v) false l)) := by
  obtain ⟨ic, hic, hcz0, hcz1, hcz2⟩ := info_parts infoCell
  have HR := Lib.hid hr
  obtain ⟨b, hb⟩ : ∃ b, b = w.heap.size := ⟨_, rfl⟩
  obtain ⟨W1, hW1⟩ : ∃ W1, W1 = w.alloc (.cells #[.int .i64 k, .int .i64 v] 38) := ⟨_, rfl⟩
  have HBK := Lib.hid (by rw [hW1, hb]; exact alloc_new w _ : W1.heap[b]? = some (.cells #[.int .i64 k, .int .i64 v] 38 (0, 0)))
  have HF1 := Lib.hid (by rw [hW1]; exact (Fr.refl _ _).alloc _ : Fr [] w W1)
  have HZ1 := Lib.hid (by rw [hW1, hb]; simp : W1.heap.size = b + 1)
  have HB := Lib.hid hb
  have HW1 := Lib.hid hW1
  clear hr hb hW1
  go_enter Try.func29, Try.ntmps29
  go_wp2_with fail
  rw [← HB.out, ← HW1.out]
  go_loopw [5, 6, 7] (fun ov dv iv wr => ∃ (i : Nat) (O : List (Int × Int)) (oo : Option Addr) (oc : Nat) (d : Bool), ov = .slice oo O.length oc ∧ dv = .bool d ∧ iv = .int .i64 (i : Int) ∧ i ≤ l.length ∧ O.length ≤ 2 * i ∧ O ++ putF (k, v) d (l.drop i) = putF (k, v) false l ∧ Seg wr 38 2 oo O.length oc (O.flatMap clV) ∧ (∀ q ∈ blk oo, b + 1 ≤ q) ∧ Fr [] W1 wr) (fun _ _ iv _ => l.length - (intOf iv).toNat)
  case atStart => exact ⟨0, [], none, 0, false, rfl, rfl, rfl, by omega, by simp, rfl, Seg.nil _ _ _, by simp [blk], Fr.refl _ _⟩
  case round =>
    obtain ⟨i, O, oo, oc, d, rfl, rfl, rfl, hi, hO, hpf, hs, hbk, hf⟩ := hrel
    have HPF := Lib.hid hpf
    have HS := Lib.hid hs
    have HBO := Lib.hid hbk
    have HF := Lib.hid hf
    have b0 : wr.cell? ⟨b, 0, none⟩ = some (.int .i64 k) := cell_blk (hf.blk HBK.out (by simp)) 0
    have b1 : wr.cell? ⟨b, 1, none⟩ = some (.int .i64 v) := cell_blk (hf.blk HBK.out (by simp)) 1
    clear hpf hs hbk hf
    by_cases hil : i < l.length
    · obtain ⟨g, off, rfl, hg, c0, c1⟩ := ((HR.out.fr HF1.out (by simp)).fr HF.out (by simp)).cel hil
      have hlt : (i : Int) < (l.length : Int) := by omega
      have hdr : l.drop i = l[i] :: l.drop (i + 1) := List.drop_eq_getElem_cons hil
      obtain ⟨x, hx⟩ : ∃ x, x = l[i] := ⟨_, rfl⟩
      rw [← hx] at c0 c1 hdr
      have HDR := Lib.hid hdr
      have HXE := Lib.hid hx
      clear hx hdr
      cases d
      case' true =>
        go_upto_region 6 with fail
        refine wp_still_tail 11 (by kernel_rfl) (by kernel_rfl) ?_
        simp only [List.take_succ_cons, List.take_zero, List.drop_succ_cons, List.drop_zero]
        repeat still_step
        refine wpStill_nil ?_
        obtain ⟨w9, hww⟩ : ∃ w9, w9 = wr.drew := ⟨_, rfl⟩
        have e0 : w9.cell? ⟨b, 0, none⟩ = some (.int .i64 k) := by rw [hww]; exact b0
        have e1 : w9.cell? ⟨b, 1, none⟩ = some (.int .i64 v) := by rw [hww]; exact b1
        have e2 : w9.cell? ⟨g, off + i * 2, none⟩ = some (.int .i64 x.1) := by rw [hww]; exact c0
        have e3 : w9.cell? ⟨g, off + i * 2 + 1, none⟩ = some (.int .i64 x.2) := by rw [hww]; exact c1
        have HSw9 : Hid (Seg w9 38 2 oo O.length oc (O.flatMap clV)) := Lib.hid (by rw [hww]; exact HS.out.drew)
        have HFw9 : Hid (Fr [] W1 w9) := Lib.hid (by rw [hww]; exact HF.out.drew)
        rw [← hww]
        clear hww b0 b1 c0 c1
        go_upto_region 9 with fail
        obtain ⟨O9, rfl⟩ : ∃ z, z = O := ⟨_, rfl⟩
        obtain ⟨o9, rfl⟩ : ∃ z, z = oo := ⟨_, rfl⟩
        obtain ⟨k9, rfl⟩ : ∃ z, z = oc := ⟨_, rfl⟩
        have HPF9 : Hid (O9 ++ (if x.1 != k then [x] else []) ++ putF (k, v) true (l.drop (i + 1)) = putF (k, v) false l) := Lib.hid (by rw [← HPF.out, HDR.out, putF, Bool.true_or]; simp [List.append_assoc])
        have hO9l : O9.length ≤ 2 * i + 1 := by omega
        have HS9 := HSw9
        have HF9 := HFw9
        have HBO9 := HBO
        clear e0 e1 e2 e3
      case' false =>
        by_cases hge : k ≤ x.1
        case' pos =>
          have hdg : decide (x.1 ≥ k) = true := decide_eq_true hge
          go_upto_region 6 with fail
          refine wp_still_tail 11 (by kernel_rfl) (by kernel_rfl) ?_
          simp only [List.take_succ_cons, List.take_zero, List.drop_succ_cons, List.drop_zero]
          repeat still_step
          refine wpStill_nil ?_
          obtain ⟨w6, hww⟩ : ∃ w6, w6 = wr.drew := ⟨_, rfl⟩
          have e0 : w6.cell? ⟨b, 0, none⟩ = some (.int .i64 k) := by rw [hww]; exact b0
          have e1 : w6.cell? ⟨b, 1, none⟩ = some (.int .i64 v) := by rw [hww]; exact b1
          have e2 : w6.cell? ⟨g, off + i * 2, none⟩ = some (.int .i64 x.1) := by rw [hww]; exact c0
          have e3 : w6.cell? ⟨g, off + i * 2 + 1, none⟩ = some (.int .i64 x.2) := by rw [hww]; exact c1
          have HSw6 : Hid (Seg w6 38 2 oo O.length oc (O.flatMap clV)) := Lib.hid (by rw [hww]; exact HS.out.drew)
          have HFw6 : Hid (Fr [] W1 w6) := Lib.hid (by rw [hww]; exact HF.out.drew)
          rw [← hww]
          clear hww b0 b1 c0 c1
          go_upto_region 9 with (at_builtin; refine wpList_append_seg rfl _ _ 23 rfl 38 ic _ 2 16 Try.underlying23 hic hcz0 hcz1 hcz2 rfl (by decide) oo O.length oc (O.flatMap clV) rfl (HSw6.out.alloc _) ⟨_, 0, none⟩ 1 1 (clV (k, v)) rfl rfl (fun j u hu => by rw [Addr.add_mid, Nat.zero_add, World.cell?_alloc_new]; simpa [clV] using hu) (by simp [clV, Value.oneCell']) (by unfold maxLen; omega) (by omega) ?_; intro o9 k9 w9 hs9 hf9 hx9)
          obtain ⟨O9, hO9⟩ : ∃ O9, O9 = O ++ [(k, v)] := ⟨_, rfl⟩
          have hk1 : decide (k ≤ x.1) = true := decide_eq_true hge
          have HPF9 : Hid (O9 ++ (if x.1 != k then [x] else []) ++ putF (k, v) true (l.drop (i + 1)) = putF (k, v) false l) := Lib.hid (by rw [← HPF.out, HDR.out, hO9, putF, hk1]; simp [List.append_assoc])
          have hO9l : O9.length ≤ 2 * i + 1 := by rw [hO9]; simp; omega
          have hO9n : O.length + 1 = O9.length := by rw [hO9]; simp
          have HS9 : Hid (Seg w9 38 2 o9 O9.length k9 (O9.flatMap clV)) := Lib.hid (by rw [hO9, List.length_append, List.flatMap_append]; simpa using hs9)
          have hbz := HBO.out
          have HBO9 : Hid (∀ q ∈ blk o9, b + 1 ≤ q) := Lib.hid (fun q hq => by
            rcases hx9 q hq with q1 | q1
            · exact hbz q q1
            · have := HFw6.out.size; have := HZ1.out; simp at q1; omega)
          have HF9 : Hid (Fr [] W1 w9) := Lib.hid ((HFw6.out.alloc _).trans hf9 (fun q hq => .inr (by have := hbz q hq; have := HZ1.out; omega)))
          rw [hO9n]
          clear hO9 hO9n hbz hs9 hf9 hx9 hk1 e0 e1 e2 e3 hdg hge
        case' neg =>
          have hdg : decide (x.1 ≥ k) = false := decide_eq_false (by omega)
          have hk1 : decide (k ≤ x.1) = false := decide_eq_false (by omega)
          have HK1 := Lib.hid hk1
          clear hk1
          go_upto_region 6 with fail
          refine wp_still_tail 11 (by kernel_rfl) (by kernel_rfl) ?_
          simp only [List.take_succ_cons, List.take_zero, List.drop_succ_cons, List.drop_zero]
          repeat still_step
          refine wpStill_nil ?_
          obtain ⟨w9, hww⟩ : ∃ w9, w9 = wr.drew := ⟨_, rfl⟩
          have e0 : w9.cell? ⟨b, 0, none⟩ = some (.int .i64 k) := by rw [hww]; exact b0
          have e1 : w9.cell? ⟨b, 1, none⟩ = some (.int .i64 v) := by rw [hww]; exact b1
          have e2 : w9.cell? ⟨g, off + i * 2, none⟩ = some (.int .i64 x.1) := by rw [hww]; exact c0
          have e3 : w9.cell? ⟨g, off + i * 2 + 1, none⟩ = some (.int .i64 x.2) := by rw [hww]; exact c1
          have HSw9 : Hid (Seg w9 38 2 oo O.length oc (O.flatMap clV)) := Lib.hid (by rw [hww]; exact HS.out.drew)
          have HFw9 : Hid (Fr [] W1 w9) := Lib.hid (by rw [hww]; exact HF.out.drew)
          rw [← hww]
          clear hww b0 b1 c0 c1
          go_upto_region 9 with fail
          obtain ⟨O9, rfl⟩ : ∃ z, z = O := ⟨_, rfl⟩
          obtain ⟨o9, rfl⟩ : ∃ z, z = oo := ⟨_, rfl⟩
          obtain ⟨k9, rfl⟩ : ∃ z, z = oc := ⟨_, rfl⟩
          have HPF9 : Hid (O9 ++ (if x.1 != k then [x] else []) ++ putF (k, v) false (l.drop (i + 1)) = putF (k, v) false l) := Lib.hid (by rw [← HPF.out, HDR.out, putF, HK1.out, Bool.or_false]; simp [List.append_assoc])
          have hO9l : O9.length ≤ 2 * i + 1 := by omega
          have HS9 := HSw9
          have HF9 := HFw9
          have HBO9 := HBO
          clear e0 e1 e2 e3
          clear hdg hge
      all_goals
        obtain ⟨g', off', he, hg', c0, c1⟩ := ((HR.out.fr HF1.out (by simp)).fr HF9.out (by simp)).cel hil
        cases he
        rw [← HXE.out] at c0 c1
        have b0 : w9.cell? ⟨b, 0, none⟩ = some (.int .i64 k) := cell_blk (HF9.out.blk HBK.out (by simp)) 0
        by_cases hxk : x.1 = k
        case' pos =>
          have hne : (x.1 != k) = false := by simp [hxk]
          have HPX : Hid (O9 ++ putF (k, v) _ (l.drop (i + 1)) = putF (k, v) false l) := Lib.hid (by have h := HPF9.out; rw [hne] at h; simpa using h)
          clear hxk
          refine wp_still_tail 7 (by kernel_rfl) (by kernel_rfl) ?_
          simp only [List.take_succ_cons, List.take_zero, List.drop_succ_cons, List.drop_zero]
          repeat still_step
          refine wpStill_nil ?_
          go_wp2_with fail
          go_roundw
          case rel => exact ⟨i + 1, O9, o9, k9, _, rfl, rfl, by go_num, by omega, by omega, HPX.out, HS9.out.drew, HBO9.out, HF9.out.drew⟩
          case measure => simp [intOf]; omega
        case' neg =>
          have hne : (x.1 != k) = true := by simp [hxk]
          have HPX : Hid (O9 ++ [x] ++ putF (k, v) _ (l.drop (i + 1)) = putF (k, v) false l) := Lib.hid (by have h := HPF9.out; rw [hne] at h; simpa using h)
          clear hxk
          refine wp_still_tail 7 (by kernel_rfl) (by kernel_rfl) ?_
          simp only [List.take_succ_cons, List.take_zero, List.drop_succ_cons, List.drop_zero]
          repeat still_step
          refine wpStill_nil ?_
          obtain ⟨wa, hwa⟩ : ∃ wa, wa = w9.drew := ⟨_, rfl⟩
          rw [← hwa]
          have c0' : wa.cell? ⟨g, off + i * 2, none⟩ = some (.int .i64 x.1) := by rw [hwa]; exact c0
          have c1' : wa.cell? ⟨g, off + i * 2 + 1, none⟩ = some (.int .i64 x.2) := by rw [hwa]; exact c1
          have HSA : Hid (Seg wa 38 2 o9 O9.length k9 (O9.flatMap clV)) := Lib.hid (by rw [hwa]; exact HS9.out.drew)
          have HFA : Hid (Fr [] W1 wa) := Lib.hid (by rw [hwa]; exact HF9.out.drew)
          clear hwa c0 c1 b0
          go_wp2_with (at_builtin; refine wpList_append_seg rfl _ _ 23 rfl 38 ic _ 2 16 Try.underlying23 hic hcz0 hcz1 hcz2 rfl (by decide) o9 O9.length k9 (O9.flatMap clV) rfl (HSA.out.alloc _) ⟨_, 0, none⟩ 1 1 (clV x) rfl rfl (fun j u hu => by rw [Addr.add_mid, Nat.zero_add, World.cell?_alloc_new]; simpa [clV] using hu) (by simp [clV, Value.oneCell']) (by unfold maxLen; omega) (by omega) ?_; intro oz kz wz hsz hfz hxz)
          have hbz := HBO9.out
          have HFZ : Hid (Fr [] W1 wz) := Lib.hid ((HFA.out.alloc _).trans hfz (fun q hq => .inr (by have := hbz q hq; have := HZ1.out; omega)))
          have HBZ : Hid (∀ q ∈ blk oz, b + 1 ≤ q) := Lib.hid (fun q hq => by
            rcases hxz q hq with q1 | q1
            · exact hbz q q1
            · have := HFA.out.size; have := HZ1.out; simp at q1; omega)
          have HSZ : Hid (Seg wz 38 2 oz (O9 ++ [x]).length kz ((O9 ++ [x]).flatMap clV)) := Lib.hid (by rw [List.length_append, List.flatMap_append]; simpa using hsz)
          clear hbz hsz hfz hxz
          go_roundw
          case rel => exact ⟨i + 1, O9 ++ [x], oz, kz, _, by simp, rfl, by go_num, by omega, by simp; omega, HPX.out, HSZ.out, HBZ.out, HFZ.out⟩
          case measure => simp [intOf]; omega
    · have hnlt : ¬ (i : Int) < (l.length : Int) := by omega
      have hdr : l.drop i = [] := List.drop_of_length_le (by omega)
      have hpf := HPF.out
      rw [hdr] at hpf
      have HS0 := Lib.hid (fun q (hq : q ∈ blk oo) => (by have := HBO.out q hq; have := HB.out; omega : w.heap.size ≤ q))
      have HFE := Lib.hid (HF1.out.trans HF.out (by simp [Ext]))
      cases d with
      | true =>
        have HE := Lib.hid (by rw [← hpf]; simp [putF] : putF (k, v) false l = O)
        clear hpf hdr
        go_wp2_with fail
        go_ret
        exact ⟨oo, oc, by rw [HE.out]; rfl, by rw [HE.out]; exact HS.out, HFE.out, HS0.out⟩
      | false =>
        have HE := Lib.hid (by rw [← hpf]; simp [putF] : putF (k, v) false l = O ++ [(k, v)])
        clear hpf hdr
        go_wp2_with (at_builtin; refine wpList_append_seg rfl _ _ 23 rfl 38 ic _ 2 16 Try.underlying23 hic hcz0 hcz1 hcz2 rfl (by decide) oo O.length oc (O.flatMap clV) rfl (HS.out.alloc _) ⟨_, 0, none⟩ 1 1 (clV (k, v)) rfl rfl (fun j u hu => by rw [Addr.add_mid, Nat.zero_add, World.cell?_alloc_new]; simpa [clV] using hu) (by simp [clV, Value.oneCell']) (by unfold maxLen; omega) (by omega) ?_; intro oz kz wz hsz hfz hxz)
        go_ret
        have hbz := HBO.out
        refine ⟨oz, kz, by rw [HE.out, List.length_append]; rfl, by rw [HE.out, List.length_append, List.flatMap_append]; simpa using hsz, HF1.out.trans ((HF.out.alloc _).trans hfz (fun q hq => .inr (by have := hbz q hq; have := HZ1.out; omega))) (by simp [Ext]), fun q hq => ?_⟩
        rcases hxz q hq with q1 | q1
        · exact HS0.out q q1
        · have := HFE.out.size; simp at q1; omega
end Go.Proofs.Ytcgndeggemceaaa
