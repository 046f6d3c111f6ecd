/- Put28, Cel28, SameB (merged by merge.py). -/
import Derived.Test.YtcgndeggemceaaaZ2812
import Derived.Test.YtcgndeggemceaaaZ282
import Derived.Test.YtcgndeggemceaaaZ287
import Derived.Test.YtcgndeggemceaaaZ283
/- arenanetref28.put; and a view with one more cell (plain). -/
namespace Go.Proofs.Ytcgndeggemceaaa
open Go.RowKit

/-- what put goes through -/
def putF (c : Int × Int) : Bool → List (Int × Int) → List (Int × Int)
  | d, [] => if d then [] else [c]
  | d, x :: r => (if !d && decide (c.1 ≤ x.1) then [c] else []) ++ (if x.1 != c.1 then [x] else []) ++ putF c (d || decide (c.1 ≤ x.1)) r
theorem putF_done (c : Int × Int) : ∀ (l : List (Int × Int)), (∀ x ∈ l, c.1 < x.1) → putF c true l = l
  | [], _ => rfl
  | x :: r, h => by
    have h1 := h x (by simp)
    have e : (x.1 != c.1) = true := by simp; omega
    rw [putF, e, Bool.true_or, putF_done c r (fun y hy => h y (by simp [hy]))]
    rfl
theorem putF_view {c : Int × Int} (hc : idxOk c.1 ∧ bd64 c.2) : ∀ {l : List (Int × Int)}, IsView l → IsView (putF c false l) ∧ (∀ x ∈ putF c false l, x = c ∨ x ∈ l)
  | [], _ => ⟨⟨List.pairwise_singleton _ _, by simpa [putF] using hc.1, by simpa [putF] using hc.2⟩, by simp [putF]⟩
  | x :: r, h => by
    have hr : IsView r := ⟨h.srt.tail, fun y hy => h.idx y (by simp [hy]), fun y hy => h.val y (by simp [hy])⟩
    have hx := h.srt.head
    rcases Int.lt_trichotomy x.1 c.1 with q | q | q
    · have e1 : decide (c.1 ≤ x.1) = false := by simp; omega
      have e2 : (x.1 != c.1) = true := by simp; omega
      obtain ⟨i1, i2⟩ := putF_view hc hr
      have e : putF c false (x :: r) = x :: putF c false r := by rw [putF, e1, e2]; rfl
      rw [e]
      refine ⟨⟨List.pairwise_cons.2 ⟨fun y hy => ?_, i1.srt⟩, fun y hy => ?_, fun y hy => ?_⟩, fun y hy => ?_⟩
      · rcases i2 y hy with rfl | h2
        · exact q
        · exact hx y h2
      · rcases List.mem_cons.1 hy with rfl | h2
        · exact h.idx _ (by simp)
        · exact i1.idx y h2
      · rcases List.mem_cons.1 hy with rfl | h2
        · exact h.val _ (by simp)
        · exact i1.val y h2
      · rcases List.mem_cons.1 hy with rfl | h2
        · exact .inr (by simp)
        · rcases i2 y h2 with h3 | h3
          · exact .inl h3
          · exact .inr (by simp [h3])
    · have e1 : decide (c.1 ≤ x.1) = true := by simp; omega
      have e2 : (x.1 != c.1) = false := by simp; omega
      have e : putF c false (x :: r) = c :: r := by
        rw [putF, e1, e2]
        simp only [Bool.not_false, Bool.and_self, if_pos, Bool.false_or, List.append_nil]
        rw [putF_done c r (fun y hy => by have := hx y hy; omega)]
        rfl
      rw [e]
      refine ⟨⟨List.pairwise_cons.2 ⟨fun y hy => by have := hx y hy; omega, hr.srt⟩, fun y hy => ?_, fun y hy => ?_⟩, fun y hy => ?_⟩
      · rcases List.mem_cons.1 hy with rfl | h2
        · exact hc.1
        · exact hr.idx y h2
      · rcases List.mem_cons.1 hy with rfl | h2
        · exact hc.2
        · exact hr.val y h2
      · rcases List.mem_cons.1 hy with rfl | h2
        · exact .inl rfl
        · exact .inr (by simp [h2])
    · have e1 : decide (c.1 ≤ x.1) = true := by simp; omega
      have e2 : (x.1 != c.1) = true := by simp; omega
      have e : putF c false (x :: r) = c :: x :: r := by
        rw [putF, e1, e2]
        simp only [Bool.not_false, Bool.and_self, if_pos, Bool.false_or]
        rw [putF_done c r (fun y hy => by have := hx y hy; omega)]
        rfl
      rw [e]
      refine ⟨⟨List.pairwise_cons.2 ⟨fun y hy => ?_, h.srt⟩, fun y hy => ?_, fun y hy => ?_⟩, fun y hy => ?_⟩
      · rcases List.mem_cons.1 hy with rfl | h2
        · exact q
        · have := hx y h2; omega
      · rcases List.mem_cons.1 hy with rfl | h2
        · exact hc.1
        · exact h.idx y h2
      · rcases List.mem_cons.1 hy with rfl | h2
        · exact hc.2
        · exact h.val y h2
      · rcases List.mem_cons.1 hy with rfl | h2
        · exact .inl rfl
        · exact .inr h2
theorem putF_len (c : Int × Int) : ∀ (l : List (Int × Int)) (d : Bool), (putF c d l).length ≤ l.length + (if d then 0 else 1)
  | [], d => by cases d <;> simp [putF]
  | x :: r, d => by
    have ih := putF_len c r
    rw [putF, List.length_append, List.length_append, List.length_cons]
    have h3 := ih (d || decide (c.1 ≤ x.1))
    cases d <;> cases hd : decide (c.1 ≤ x.1) <;> cases he : (x.1 != c.1) <;> simp [hd] at h3 ⊢ <;> omega

def CelTo (w : World) (L : List (Int × Int)) (e : Ending) (w' : World) : Prop := ∃ ao ca, e = .returned (.slice ao L.length ca) ∧ Seg w' 38 2 ao L.length ca (L.flatMap clV) ∧ Fr [] w w' ∧ ∀ k ∈ blk ao, w.heap.size ≤ k

attribute [local irreducible] wpStill
set_option maxRecDepth 100000 in
set_option maxHeartbeats 8000000 in
theorem put_any (w : World) (lo : Option Addr) (lc : Nat) (l : List (Int × Int)) (k v : Int) (hr : Rd w 2 lo l.length (l.flatMap clV)) (hl : l.length ≤ 1000) :
    Calls Try.prog 29 #[.slice lo l.length lc, .agg #[.int .i64 k, .int .i64 v]] w (CelTo w (putF (k, v) false l)) := by
  obtain ⟨ic, hic, hcz0, hcz1, hcz2⟩ := info_parts infoCell
  have HR := Lib.hid hr
  obtain ⟨b, hb⟩ : ∃ b, b = w.heap.size := ⟨_, rfl⟩
  obtain ⟨W1, hW1⟩ : ∃ W1, W1 = w.alloc (.cells #[.int .i64 k, .int .i64 v] 38) := ⟨_, rfl⟩
  have HBK := Lib.hid (by rw [hW1, hb]; exact alloc_new w _ : W1.heap[b]? = some (.cells #[.int .i64 k, .int .i64 v] 38 (0, 0)))
  have HF1 := Lib.hid (by rw [hW1]; exact (Fr.refl _ _).alloc _ : Fr [] w W1)
  have HZ1 := Lib.hid (by rw [hW1, hb]; simp : W1.heap.size = b + 1)
  have HB := Lib.hid hb
  have HW1 := Lib.hid hW1
  clear hr hb hW1
  go_enter Try.func29, Try.ntmps29
  go_wp2_with fail
  rw [← HB.out, ← HW1.out]
  go_loopw [5, 6, 7] (fun ov dv iv wr => ∃ (i : Nat) (O : List (Int × Int)) (oo : Option Addr) (oc : Nat) (d : Bool), ov = .slice oo O.length oc ∧ dv = .bool d ∧ iv = .int .i64 (i : Int) ∧ i ≤ l.length ∧ O.length ≤ 2 * i ∧ O ++ putF (k, v) d (l.drop i) = putF (k, v) false l ∧ Seg wr 38 2 oo O.length oc (O.flatMap clV) ∧ (∀ q ∈ blk oo, b + 1 ≤ q) ∧ Fr [] W1 wr) (fun _ _ iv _ => l.length - (intOf iv).toNat)
  case atStart => exact ⟨0, [], none, 0, false, rfl, rfl, rfl, by omega, by simp, rfl, Seg.nil _ _ _, by simp [blk], Fr.refl _ _⟩
  case round =>
    obtain ⟨i, O, oo, oc, d, rfl, rfl, rfl, hi, hO, hpf, hs, hbk, hf⟩ := hrel
    have HPF := Lib.hid hpf
    have HS := Lib.hid hs
    have HBO := Lib.hid hbk
    have HF := Lib.hid hf
    have b0 : wr.cell? ⟨b, 0, none⟩ = some (.int .i64 k) := cell_blk (hf.blk HBK.out (by simp)) 0
    have b1 : wr.cell? ⟨b, 1, none⟩ = some (.int .i64 v) := cell_blk (hf.blk HBK.out (by simp)) 1
    clear hpf hs hbk hf
    by_cases hil : i < l.length
    · obtain ⟨g, off, rfl, hg, c0, c1⟩ := ((HR.out.fr HF1.out (by simp)).fr HF.out (by simp)).cel hil
      have hlt : (i : Int) < (l.length : Int) := by omega
      have hdr : l.drop i = l[i] :: l.drop (i + 1) := List.drop_eq_getElem_cons hil
      obtain ⟨x, hx⟩ : ∃ x, x = l[i] := ⟨_, rfl⟩
      rw [← hx] at c0 c1 hdr
      have HDR := Lib.hid hdr
      have HXE := Lib.hid hx
      clear hx hdr
      cases d
      case' true =>
        go_upto_region 6 with fail
        refine wp_still_tail 11 (by kernel_rfl) (by kernel_rfl) ?_
        simp only [List.take_succ_cons, List.take_zero, List.drop_succ_cons, List.drop_zero]
        repeat still_step
        refine wpStill_nil ?_
        obtain ⟨w9, hww⟩ : ∃ w9, w9 = wr.drew := ⟨_, rfl⟩
        have e0 : w9.cell? ⟨b, 0, none⟩ = some (.int .i64 k) := by rw [hww]; exact b0
        have e1 : w9.cell? ⟨b, 1, none⟩ = some (.int .i64 v) := by rw [hww]; exact b1
        have e2 : w9.cell? ⟨g, off + i * 2, none⟩ = some (.int .i64 x.1) := by rw [hww]; exact c0
        have e3 : w9.cell? ⟨g, off + i * 2 + 1, none⟩ = some (.int .i64 x.2) := by rw [hww]; exact c1
        have HSw9 : Hid (Seg w9 38 2 oo O.length oc (O.flatMap clV)) := Lib.hid (by rw [hww]; exact HS.out.drew)
        have HFw9 : Hid (Fr [] W1 w9) := Lib.hid (by rw [hww]; exact HF.out.drew)
        rw [← hww]
        clear hww b0 b1 c0 c1
        go_upto_region 9 with fail
        obtain ⟨O9, rfl⟩ : ∃ z, z = O := ⟨_, rfl⟩
        obtain ⟨o9, rfl⟩ : ∃ z, z = oo := ⟨_, rfl⟩
        obtain ⟨k9, rfl⟩ : ∃ z, z = oc := ⟨_, rfl⟩
        have HPF9 : Hid (O9 ++ (if x.1 != k then [x] else []) ++ putF (k, v) true (l.drop (i + 1)) = putF (k, v) false l) := Lib.hid (by rw [← HPF.out, HDR.out, putF, Bool.true_or]; simp [List.append_assoc])
        have hO9l : O9.length ≤ 2 * i + 1 := by omega
        have HS9 := HSw9
        have HF9 := HFw9
        have HBO9 := HBO
        clear e0 e1 e2 e3
      case' false =>
        by_cases hge : k ≤ x.1
        case' pos =>
          have hdg : decide (x.1 ≥ k) = true := decide_eq_true hge
          go_upto_region 6 with fail
          refine wp_still_tail 11 (by kernel_rfl) (by kernel_rfl) ?_
          simp only [List.take_succ_cons, List.take_zero, List.drop_succ_cons, List.drop_zero]
          repeat still_step
          refine wpStill_nil ?_
          obtain ⟨w6, hww⟩ : ∃ w6, w6 = wr.drew := ⟨_, rfl⟩
          have e0 : w6.cell? ⟨b, 0, none⟩ = some (.int .i64 k) := by rw [hww]; exact b0
          have e1 : w6.cell? ⟨b, 1, none⟩ = some (.int .i64 v) := by rw [hww]; exact b1
          have e2 : w6.cell? ⟨g, off + i * 2, none⟩ = some (.int .i64 x.1) := by rw [hww]; exact c0
          have e3 : w6.cell? ⟨g, off + i * 2 + 1, none⟩ = some (.int .i64 x.2) := by rw [hww]; exact c1
          have HSw6 : Hid (Seg w6 38 2 oo O.length oc (O.flatMap clV)) := Lib.hid (by rw [hww]; exact HS.out.drew)
          have HFw6 : Hid (Fr [] W1 w6) := Lib.hid (by rw [hww]; exact HF.out.drew)
          rw [← hww]
          clear hww b0 b1 c0 c1
          go_upto_region 9 with (at_builtin; refine wpList_append_seg rfl _ _ 23 rfl 38 ic _ 2 16 Try.underlying23 hic hcz0 hcz1 hcz2 rfl (by decide) oo O.length oc (O.flatMap clV) rfl (HSw6.out.alloc _) ⟨_, 0, none⟩ 1 1 (clV (k, v)) rfl rfl (fun j u hu => by rw [Addr.add_mid, Nat.zero_add, World.cell?_alloc_new]; simpa [clV] using hu) (by simp [clV, Value.oneCell']) (by unfold maxLen; omega) (by omega) ?_; intro o9 k9 w9 hs9 hf9 hx9)
          obtain ⟨O9, hO9⟩ : ∃ O9, O9 = O ++ [(k, v)] := ⟨_, rfl⟩
          have hk1 : decide (k ≤ x.1) = true := decide_eq_true hge
          have HPF9 : Hid (O9 ++ (if x.1 != k then [x] else []) ++ putF (k, v) true (l.drop (i + 1)) = putF (k, v) false l) := Lib.hid (by rw [← HPF.out, HDR.out, hO9, putF, hk1]; simp [List.append_assoc])
          have hO9l : O9.length ≤ 2 * i + 1 := by rw [hO9]; simp; omega
          have hO9n : O.length + 1 = O9.length := by rw [hO9]; simp
          have HS9 : Hid (Seg w9 38 2 o9 O9.length k9 (O9.flatMap clV)) := Lib.hid (by rw [hO9, List.length_append, List.flatMap_append]; simpa using hs9)
          have hbz := HBO.out
          have HBO9 : Hid (∀ q ∈ blk o9, b + 1 ≤ q) := Lib.hid (fun q hq => by
            rcases hx9 q hq with q1 | q1
            · exact hbz q q1
            · have := HFw6.out.size; have := HZ1.out; simp at q1; omega)
          have HF9 : Hid (Fr [] W1 w9) := Lib.hid ((HFw6.out.alloc _).trans hf9 (fun q hq => .inr (by have := hbz q hq; have := HZ1.out; omega)))
          rw [hO9n]
          clear hO9 hO9n hbz hs9 hf9 hx9 hk1 e0 e1 e2 e3 hdg hge
        case' neg =>
          have hdg : decide (x.1 ≥ k) = false := decide_eq_false (by omega)
          have hk1 : decide (k ≤ x.1) = false := decide_eq_false (by omega)
          have HK1 := Lib.hid hk1
          clear hk1
          go_upto_region 6 with fail
          refine wp_still_tail 11 (by kernel_rfl) (by kernel_rfl) ?_
          simp only [List.take_succ_cons, List.take_zero, List.drop_succ_cons, List.drop_zero]
          repeat still_step
          refine wpStill_nil ?_
          obtain ⟨w9, hww⟩ : ∃ w9, w9 = wr.drew := ⟨_, rfl⟩
          have e0 : w9.cell? ⟨b, 0, none⟩ = some (.int .i64 k) := by rw [hww]; exact b0
          have e1 : w9.cell? ⟨b, 1, none⟩ = some (.int .i64 v) := by rw [hww]; exact b1
          have e2 : w9.cell? ⟨g, off + i * 2, none⟩ = some (.int .i64 x.1) := by rw [hww]; exact c0
          have e3 : w9.cell? ⟨g, off + i * 2 + 1, none⟩ = some (.int .i64 x.2) := by rw [hww]; exact c1
          have HSw9 : Hid (Seg w9 38 2 oo O.length oc (O.flatMap clV)) := Lib.hid (by rw [hww]; exact HS.out.drew)
          have HFw9 : Hid (Fr [] W1 w9) := Lib.hid (by rw [hww]; exact HF.out.drew)
          rw [← hww]
          clear hww b0 b1 c0 c1
          go_upto_region 9 with fail
          obtain ⟨O9, rfl⟩ : ∃ z, z = O := ⟨_, rfl⟩
          obtain ⟨o9, rfl⟩ : ∃ z, z = oo := ⟨_, rfl⟩
          obtain ⟨k9, rfl⟩ : ∃ z, z = oc := ⟨_, rfl⟩
          have HPF9 : Hid (O9 ++ (if x.1 != k then [x] else []) ++ putF (k, v) false (l.drop (i + 1)) = putF (k, v) false l) := Lib.hid (by rw [← HPF.out, HDR.out, putF, HK1.out, Bool.or_false]; simp [List.append_assoc])
          have hO9l : O9.length ≤ 2 * i + 1 := by omega
          have HS9 := HSw9
          have HF9 := HFw9
          have HBO9 := HBO
          clear e0 e1 e2 e3
          clear hdg hge
      all_goals
        obtain ⟨g', off', he, hg', c0, c1⟩ := ((HR.out.fr HF1.out (by simp)).fr HF9.out (by simp)).cel hil
        cases he
        rw [← HXE.out] at c0 c1
        have b0 : w9.cell? ⟨b, 0, none⟩ = some (.int .i64 k) := cell_blk (HF9.out.blk HBK.out (by simp)) 0
        by_cases hxk : x.1 = k
        case' pos =>
          have hne : (x.1 != k) = false := by simp [hxk]
          have HPX : Hid (O9 ++ putF (k, v) _ (l.drop (i + 1)) = putF (k, v) false l) := Lib.hid (by have h := HPF9.out; rw [hne] at h; simpa using h)
          clear hxk
          refine wp_still_tail 7 (by kernel_rfl) (by kernel_rfl) ?_
          simp only [List.take_succ_cons, List.take_zero, List.drop_succ_cons, List.drop_zero]
          repeat still_step
          refine wpStill_nil ?_
          go_wp2_with fail
          go_roundw
          case rel => exact ⟨i + 1, O9, o9, k9, _, rfl, rfl, by go_num, by omega, by omega, HPX.out, HS9.out.drew, HBO9.out, HF9.out.drew⟩
          case measure => simp [intOf]; omega
        case' neg =>
          have hne : (x.1 != k) = true := by simp [hxk]
          have HPX : Hid (O9 ++ [x] ++ putF (k, v) _ (l.drop (i + 1)) = putF (k, v) false l) := Lib.hid (by have h := HPF9.out; rw [hne] at h; simpa using h)
          clear hxk
          refine wp_still_tail 7 (by kernel_rfl) (by kernel_rfl) ?_
          simp only [List.take_succ_cons, List.take_zero, List.drop_succ_cons, List.drop_zero]
          repeat still_step
          refine wpStill_nil ?_
          obtain ⟨wa, hwa⟩ : ∃ wa, wa = w9.drew := ⟨_, rfl⟩
          rw [← hwa]
          have c0' : wa.cell? ⟨g, off + i * 2, none⟩ = some (.int .i64 x.1) := by rw [hwa]; exact c0
          have c1' : wa.cell? ⟨g, off + i * 2 + 1, none⟩ = some (.int .i64 x.2) := by rw [hwa]; exact c1
          have HSA : Hid (Seg wa 38 2 o9 O9.length k9 (O9.flatMap clV)) := Lib.hid (by rw [hwa]; exact HS9.out.drew)
          have HFA : Hid (Fr [] W1 wa) := Lib.hid (by rw [hwa]; exact HF9.out.drew)
          clear hwa c0 c1 b0
          go_wp2_with (at_builtin; refine wpList_append_seg rfl _ _ 23 rfl 38 ic _ 2 16 Try.underlying23 hic hcz0 hcz1 hcz2 rfl (by decide) o9 O9.length k9 (O9.flatMap clV) rfl (HSA.out.alloc _) ⟨_, 0, none⟩ 1 1 (clV x) rfl rfl (fun j u hu => by rw [Addr.add_mid, Nat.zero_add, World.cell?_alloc_new]; simpa [clV] using hu) (by simp [clV, Value.oneCell']) (by unfold maxLen; omega) (by omega) ?_; intro oz kz wz hsz hfz hxz)
          have hbz := HBO9.out
          have HFZ : Hid (Fr [] W1 wz) := Lib.hid ((HFA.out.alloc _).trans hfz (fun q hq => .inr (by have := hbz q hq; have := HZ1.out; omega)))
          have HBZ : Hid (∀ q ∈ blk oz, b + 1 ≤ q) := Lib.hid (fun q hq => by
            rcases hxz q hq with q1 | q1
            · exact hbz q q1
            · have := HFA.out.size; have := HZ1.out; simp at q1; omega)
          have HSZ : Hid (Seg wz 38 2 oz (O9 ++ [x]).length kz ((O9 ++ [x]).flatMap clV)) := Lib.hid (by rw [List.length_append, List.flatMap_append]; simpa using hsz)
          clear hbz hsz hfz hxz
          go_roundw
          case rel => exact ⟨i + 1, O9 ++ [x], oz, kz, _, by simp, rfl, by go_num, by omega, by simp; omega, HPX.out, HSZ.out, HBZ.out, HFZ.out⟩
          case measure => simp [intOf]; omega
    · have hnlt : ¬ (i : Int) < (l.length : Int) := by omega
      have hdr : l.drop i = [] := List.drop_of_length_le (by omega)
      have hpf := HPF.out
      rw [hdr] at hpf
      have HS0 := Lib.hid (fun q (hq : q ∈ blk oo) => (by have := HBO.out q hq; have := HB.out; omega : w.heap.size ≤ q))
      have HFE := Lib.hid (HF1.out.trans HF.out (by simp [Ext]))
      cases d with
      | true =>
        have HE := Lib.hid (by rw [← hpf]; simp [putF] : putF (k, v) false l = O)
        clear hpf hdr
        go_wp2_with fail
        go_ret
        exact ⟨oo, oc, by rw [HE.out]; rfl, by rw [HE.out]; exact HS.out, HFE.out, HS0.out⟩
      | false =>
        have HE := Lib.hid (by rw [← hpf]; simp [putF] : putF (k, v) false l = O ++ [(k, v)])
        clear hpf hdr
        go_wp2_with (at_builtin; refine wpList_append_seg rfl _ _ 23 rfl 38 ic _ 2 16 Try.underlying23 hic hcz0 hcz1 hcz2 rfl (by decide) oo O.length oc (O.flatMap clV) rfl (HS.out.alloc _) ⟨_, 0, none⟩ 1 1 (clV (k, v)) rfl rfl (fun j u hu => by rw [Addr.add_mid, Nat.zero_add, World.cell?_alloc_new]; simpa [clV] using hu) (by simp [clV, Value.oneCell']) (by unfold maxLen; omega) (by omega) ?_; intro oz kz wz hsz hfz hxz)
        go_ret
        have hbz := HBO.out
        refine ⟨oz, kz, by rw [HE.out, List.length_append]; rfl, by rw [HE.out, List.length_append, List.flatMap_append]; simpa using hsz, HF1.out.trans ((HF.out.alloc _).trans hfz (fun q hq => .inr (by have := hbz q hq; have := HZ1.out; omega))) (by simp [Ext]), fun q hq => ?_⟩
        rcases hxz q hq with q1 | q1
        · exact HS0.out q q1
        · have := HFE.out.size; simp at q1; omega
end Go.Proofs.Ytcgndeggemceaaa
/- arenanetref28.Cells: a view of at most twelve cells. -/
namespace Go.Proofs.Ytcgndeggemceaaa
open Go.RowKit

def ViewTo (w : World) (e : Ending) (w' : World) : Prop := ∃ V ao ca, e = .returned (.slice ao V.length ca) ∧ IsView V ∧ V.length ≤ 12 ∧ Seg w' 38 2 ao V.length ca (V.flatMap clV) ∧ Fr [] w w' ∧ ∀ k ∈ blk ao, w.heap.size ≤ k

set_option maxRecDepth 100000 in
set_option maxHeartbeats 8000000 in
theorem cells_any (w : World) (lo : Option Addr) (lc : Nat) (l : List Int) (hr : Rd w 1 lo l.length (ints l)) (hb : ∀ x ∈ l, bounded x) :
    Calls Try.prog 10 #[.slice lo l.length lc] w (ViewTo w) := by
  have hlen : l.length ≤ 9223372036854775807 := by have := hr.2.1; unfold maxLen at this; omega
  have HR := Lib.hid hr
  have HB := Lib.hid hb
  clear hr hb
  go_enter Try.func10, Try.ntmps10
  go_wp2_with fail
  go_loopw [3, 4] (fun ov iv wr => ∃ (i : Nat) (V : List (Int × Int)) (oo : Option Addr) (oc : Nat), ov = .slice oo V.length oc ∧ iv = .int .i64 (i : Int) ∧ i ≤ 24 ∧ i % 2 = 0 ∧ 2 * V.length ≤ i ∧ i ≤ l.length ∧ IsView V ∧ Seg wr 38 2 oo V.length oc (V.flatMap clV) ∧ (∀ q ∈ blk oo, w.heap.size ≤ q) ∧ Fr [] w wr) (fun _ iv _ => 26 - (intOf iv).toNat)
  case atStart => exact ⟨0, [], none, 0, rfl, rfl, by omega, rfl, by simp, by omega, ⟨List.Pairwise.nil, by simp, by simp⟩, Seg.nil _ _ _, by simp [blk], Fr.refl _ _⟩
  case round =>
    obtain ⟨i, V, oo, oc, rfl, rfl, hi, hi2, hV, hil, hv, hs, hbk, hf⟩ := hrel
    have HV := Lib.hid hv
    have HS := Lib.hid hs
    have HBO := Lib.hid hbk
    have HF := Lib.hid hf
    clear hv hs hbk hf
    have w1 : IntKind.i64.wrap ((i : Int) + 1) = (i : Int) + 1 := IntWalk.i64_in _ (by omega)
    have w2 : IntKind.i64.wrap ((i : Int) + 2) = (i : Int) + 2 := IntWalk.i64_in _ (by omega)
    by_cases h1 : i + 1 < l.length
    · have hd1 : decide ((i : Int) + 1 < (l.length : Int)) = true := decide_eq_true (by omega)
      by_cases h2 : i < 24
      · have hd2 : decide ((i : Int) < 24) = true := decide_eq_true (by omega)
        obtain ⟨g, off, rfl, hg, hc⟩ := (HR.out.fr HF.out (by simp)).at (by omega)
        have c0 : wr.cell? ⟨g, off + i, none⟩ = some (.int .i64 l[i]) := by rw [hc i (by omega), ints_get, List.getElem?_eq_getElem (by omega)]; rfl
        have c1 : wr.cell? ⟨g, off + (i + 1), none⟩ = some (.int .i64 l[i + 1]) := by rw [hc (i + 1) (by omega), ints_get, List.getElem?_eq_getElem h1]; rfl
        have hb0 : bounded l[i] := HB.out _ (List.getElem_mem _)
        have hb1 : bounded l[i + 1] := HB.out _ (List.getElem_mem _)
        obtain ⟨n, hn, -, hA⟩ := around_nat l[i] 100000 hb0 (by omega) (by omega)
        obtain ⟨x, hx⟩ : ∃ x, x = l[i] := ⟨_, rfl⟩
        obtain ⟨v, hv⟩ : ∃ v, v = l[i + 1] := ⟨_, rfl⟩
        rw [← hx] at c0 hA
        rw [← hv] at c1 hb1
        have HA := Lib.hid hA
        have HBV := Lib.hid hb1
        have hi0 : i < l.length := by omega
        have hi22 : i ≤ 22 := by omega
        clear hc hx hv hA hb0 hb1 h2
        go_upto_region 7 with (go_at_call 18; refine (HA.out _).mono ?_; rintro e w' ⟨rfl, rfl⟩)
        obtain ⟨j, hj⟩ : ∃ j, j = n / 11 % 6 := ⟨_, rfl⟩
        have hj6 : j < 6 := by omega
        have hji : (n : Int) / 11 % 6 = (j : Int) := by omega
        obtain ⟨A6, hA6⟩ : ∃ A6 : List Int, A6 = [127, 128, 300, 70000, 2147483646, 2147483647] := ⟨_, rfl⟩
        have hzb : idxOk (A6.getD j 0) := by
          rw [hA6]
          have : j = 0 ∨ j = 1 ∨ j = 2 ∨ j = 3 ∨ j = 4 ∨ j = 5 := by omega
          rcases this with rfl | rfl | rfl | rfl | rfl | rfl <;> (unfold idxOk; decide)
        have ca : (wr.alloc (.cells #[.int .i64 127, .int .i64 128, .int .i64 300, .int .i64 70000, .int .i64 2147483646, .int .i64 2147483647] 3)).cell? ⟨wr.heap.size, j, none⟩ = some (.int .i64 (A6.getD j 0)) := by
          rw [hA6, cell_blk (alloc_new _ _)]
          have : j = 0 ∨ j = 1 ∨ j = 2 ∨ j = 3 ∨ j = 4 ∨ j = 5 := by omega
          rcases this with rfl | rfl | rfl | rfl | rfl | rfl <;> rfl
        obtain ⟨z, hz⟩ : ∃ z, z = A6.getD j 0 := ⟨_, rfl⟩
        rw [← hz] at ca hzb
        have HZB := Lib.hid hzb
        have HK0 := Lib.hid (by unfold idxOk; omega : idxOk ((n : Int) % 20))
        clear hA6 hz hzb hj A6
        cases h11 : ((n : Int) % 11 == 3)
        case' true =>
          go_upto_region 9 with fail
          obtain ⟨wq, hwq⟩ : ∃ wq, wq = wr.alloc (.cells #[.int .i64 127, .int .i64 128, .int .i64 300, .int .i64 70000, .int .i64 2147483646, .int .i64 2147483647] 3) := ⟨_, rfl⟩
          rw [← hwq]
          have hfq : Fr [] wr wq := by rw [hwq]; exact (Fr.refl _ _).alloc _
          have HKK := HZB
          obtain ⟨kk, hkk⟩ : ∃ kk, kk = z := ⟨_, rfl⟩
          rw [← hkk] at HKK ⊢
          clear hkk hwq ca
        case' false =>
          go_upto_region 9 with fail
          obtain ⟨wq, hwq⟩ : ∃ wq, wq = wr := ⟨_, rfl⟩
          have hfq : Fr [] wr wq := by rw [hwq]; exact Fr.refl _ _
          rw [← hwq]
          have HKK := HK0
          obtain ⟨kk, hkk⟩ : ∃ kk, kk = (n : Int) % 20 := ⟨_, rfl⟩
          rw [← hkk] at HKK ⊢
          clear hkk hwq ca
        all_goals
          have c1q : wq.cell? ⟨g, off + (i + 1), none⟩ = some (.int .i64 v) := by rw [← c1]; exact World.cell?_of_block (a := ⟨g, off + (i + 1), none⟩) (hfq.block g hg (by simp))
          have HFQ := Lib.hid hfq
          clear hfq
          obtain ⟨n2, hn2, -, hA2⟩ := around_nat v 9 HBV.out (by omega) (by omega)
          have HA2 := Lib.hid hA2
          have w4 : IntKind.i64.wrap ((n2 : Int) - 4) = (n2 : Int) - 4 := IntWalk.i64_in _ (by omega)
          clear hA2
          by_cases hn3 : 0 < (n : Int) % 3
          case' pos =>
            go_upto_region 12 with (go_at_call 18; refine (HA2.out _).mono ?_; rintro e w' ⟨rfl, rfl⟩)
            have HVV := Lib.hid (by unfold bd64; omega : bd64 ((n2 : Int) - 4))
            obtain ⟨vv, hvv⟩ : ∃ vv, vv = (n2 : Int) - 4 := ⟨_, rfl⟩
            rw [← hvv] at HVV ⊢
            clear hvv w4
          case' neg =>
            go_upto_region 12 with fail
            have HVV : Hid (bd64 v) := HBV
            obtain ⟨vv, hvv⟩ : ∃ vv, vv = v := ⟨_, rfl⟩
            rw [← hvv] at HVV ⊢
            clear hvv w4
          all_goals
            have hsq := HS.out.fr HFQ.out (by simp)
            have HPUT := Lib.hid (put_any wq oo oc V kk vv hsq.rd (by omega))
            have HPV := Lib.hid (putF_view (c := (kk, vv)) ⟨HKK.out, HVV.out⟩ HV.out).1
            have HPL := Lib.hid (by have h := putF_len (kk, vv) V false; simpa using h : (putF (kk, vv) false V).length ≤ V.length + 1)
            obtain ⟨V2, hV2⟩ : ∃ V2, V2 = putF (kk, vv) false V := ⟨_, rfl⟩
            rw [← hV2] at HPUT HPV HPL
            clear hV2 hsq
            go_wp2_with (go_at_call 29; refine HPUT.out.mono ?_; rintro e w7 ⟨o7, k7, rfl, hs7, hf7, hx7⟩; have HS7 := Lib.hid hs7; have HF7 := Lib.hid ((HF.out.trans HFQ.out (by simp [Ext])).trans hf7 (by simp [Ext])); have HX7 := Lib.hid (fun q hq => (by have := hx7 q hq; have := (HF.out.trans HFQ.out (by simp [Ext])).size; omega : w.heap.size ≤ q)); clear hs7 hf7 hx7)
            go_roundw
            case rel => exact ⟨i + 2, V2, o7, k7, rfl, by go_num, by omega, by omega, by have := HPL.out; omega, by omega, HPV.out, HS7.out, HX7.out, HF7.out⟩
            case measure => simp [intOf]; omega
      · have hd2 : decide ((i : Int) < 24) = false := decide_eq_false (by omega)
        clear h1 h2
        go_wp2_with fail
        go_ret
        exact ⟨V, oo, oc, rfl, HV.out, by omega, HS.out, HF.out, HBO.out⟩
    · have hd1 : decide ((i : Int) + 1 < (l.length : Int)) = false := decide_eq_false (by omega)
      clear h1
      go_wp2_with fail
      go_ret
      exact ⟨V, oo, oc, rfl, HV.out, by omega, HS.out, HF.out, HBO.out⟩
end Go.Proofs.Ytcgndeggemceaaa
/- arenanetref01.SameBytes. -/
namespace Go.Proofs.Ytcgndeggemceaaa
open Go.RowKit

set_option maxHeartbeats 1000000 in
theorem sameB_any (w : World) (ao bo : Option Addr) (ca cb : Nat) (a b : List Nat) (ha : Rd w 1 ao a.length (bts a)) (hb : Rd w 1 bo b.length (bts b)) :
    Calls Try.prog 11 #[.slice ao a.length ca, .slice bo b.length cb] w fun e w' => e = .returned (.bool (decide (a = b))) ∧ Fr [] w w' := by
  have hla : a.length ≤ 9223372036854775807 := by have := ha.2.1; unfold maxLen at this; omega
  have hlb : b.length ≤ 9223372036854775807 := by have := hb.2.1; unfold maxLen at this; omega
  have HA := Lib.hid ha
  have HB := Lib.hid hb
  clear ha hb
  by_cases hl : a.length = b.length
  · have hne : ((a.length : Int) != (b.length : Int)) = false := by rw [hl]; simp
    have HL := Lib.hid hl
    clear hl
    go_enter Try.func11, Try.ntmps11
    go_wp2_with fail
    go_loopw [5] (fun i wr => ∃ k : Nat, k ≤ a.length ∧ i = .int .i64 k ∧ a.take k = b.take k ∧ Fr [] w wr) (fun i _ => a.length - (intOf i).toNat)
    case atStart => exact ⟨0, Nat.zero_le _, rfl, rfl, Fr.refl _ _⟩
    case round =>
      obtain ⟨k, hk, rfl, ht, hf⟩ := hrel
      have HT := Lib.hid ht
      have HF := Lib.hid hf
      by_cases hkn : k < a.length
      · have hkb : k < b.length := by have := HL.out; omega
        have hcx : ∃ g off g2 off2, ao = some ⟨g, off, none⟩ ∧ bo = some ⟨g2, off2, none⟩ ∧ wr.cell? ⟨g, off + k, none⟩ = some (.int .u8 ((a[k] : Nat) : Int)) ∧ wr.cell? ⟨g2, off2 + k, none⟩ = some (.int .u8 ((b[k] : Nat) : Int)) := by
          obtain ⟨g, off, h1, g1, h2⟩ := HA.out.at (by omega)
          obtain ⟨g2, off2, h3, g3, h4⟩ := HB.out.at (by omega)
          refine ⟨g, off, g2, off2, h1, h3, ?_, ?_⟩
          · rw [World.cell?_of_block (a := ⟨g, off + k, none⟩) (hf.block g g1 (by simp)), h2 k (by omega), bts_get, List.getElem?_eq_getElem hkn]; rfl
          · rw [World.cell?_of_block (a := ⟨g2, off2 + k, none⟩) (hf.block g2 g3 (by simp)), h4 k (by omega), bts_get, List.getElem?_eq_getElem hkb]; rfl
        obtain ⟨g, off, g2, off2, rfl, rfl, c1, c2⟩ := hcx
        obtain ⟨x, hx⟩ : ∃ x, x = a[k] := ⟨_, rfl⟩
        obtain ⟨y, hy⟩ : ∃ y, y = b[k] := ⟨_, rfl⟩
        rw [← hx] at c1
        rw [← hy] at c2
        have HX := Lib.hid hx
        have HY := Lib.hid hy
        have hki : (k : Int) < (a.length : Int) := by omega
        have hkj : (k : Int) < (b.length : Int) := by omega
        clear ht hf hx hy
        by_cases hxy : x = y
        · have hb : ((x : Int) != (y : Int)) = false := by rw [hxy]; simp
          have HXY := Lib.hid hxy
          clear hxy
          go_wp2_with fail
          go_quiet (fail)
          go_wp2_with fail
          go_roundw
          case rel => exact ⟨k + 1, by omega, by go_num, by rw [List.take_succ_eq_append_getElem hkn, List.take_succ_eq_append_getElem hkb, HT.out, ← HX.out, ← HY.out, HXY.out], HF.out.trans ((Fr.refl [] _).drewN _) (by simp [Ext])⟩
          case measure => simp [intOf]; omega
        · have hb : ((x : Int) != (y : Int)) = true := bne_iff_ne.2 (by omega)
          have HXY := Lib.hid hxy
          clear hxy
          go_wp2_with fail
          go_quiet (fail)
          go_wp2_with fail
          go_ret
          exact ⟨ret_bool (by
            symm
            refine decide_eq_false fun h => HXY.out ?_
            rw [HX.out, HY.out]
            simp only [h]), HF.out.trans ((Fr.refl [] _).drewN _) (by simp [Ext])⟩
      · have hke : k = a.length := by omega
        have hab : a = b := by
          have := HT.out
          rw [hke, List.take_of_length_le (Nat.le_refl _), HL.out, List.take_of_length_le (Nat.le_refl _)] at this
          exact this
        have HAB := Lib.hid hab
        clear ht hf hke hab
        go_wp2_with fail
        go_ret
        exact ⟨ret_bool (decide_eq_true HAB.out).symm, HF.out⟩
  · have hne : ((a.length : Int) != (b.length : Int)) = true := bne_iff_ne.2 (by omega)
    have HL := Lib.hid hl
    clear hl
    go_enter Try.func11, Try.ntmps11
    go_wp2_with fail
    go_ret
    exact ⟨ret_bool (decide_eq_false fun h => HL.out (by rw [h])).symm, Fr.refl _ _⟩
end Go.Proofs.Ytcgndeggemceaaa
