/- BroadphaseOwn returns true. -/
import Derived.Test.YtoplpmkcfgadlaaBroadB
import Derived.Test.YtoplpmkcfgadlaaBroadL
import Derived.Test.YtoplpmkcfgadlaaAppRd
namespace Go.Proofs.Ytoplpmkcfgadlaa
open Go.RowKit

theorem ne_box (u : World) (a b : BX) : (binOp .neq 23 (bxV a) (bxV b)).run Try.prog u = .ok (.bool (!((a.x0 == b.x0) && ((a.y0 == b.y0) && ((a.x1 == b.x1) && (a.y1 == b.y1)))))) u := by
  have hf : Try.prog.underlying 23 = some (.struct (Try.prog.fieldsOf 23)) := by unfold Program.fieldsOf; rw [Try.underlying23]
  have hp : Try.prog.stoodInHeld 23 = false := by kernel_rfl
  unfold bxV
  rw [run_neq_struct, run_equalIn_struct u _ _ _ _ hf hp]
  simp only [Program.fieldsOf, Try.underlying23]
  cases h1 : (a.x0 == b.x0) <;> cases h2 : (a.y0 == b.y0) <;> cases h3 : (a.x1 == b.x1) <;> cases h4 : (a.y1 == b.y1) <;> simp [Op.eqFields, part, run_equalIn_int u _ _ _ _ _ _ Try.underlying3, h1, h2, h3, h4]
theorem cl_one (t : List BX) : ∀ u ∈ t.flatMap BX.cl, u.oneCell' = true := by
  intro u hu
  obtain ⟨x, -, hx⟩ := List.mem_flatMap.1 hu
  simp [BX.cl] at hx
  rcases hx with rfl | rfl | rfl | rfl <;> rfl

set_option maxRecDepth 100000 in
set_option maxHeartbeats 8000000 in
theorem bown_walk (w : World) (lo : Option Addr) (lc : Nat) (l : List Int) (hr : Rd w 1 lo l.length (ints l)) (hb : ∀ x ∈ l, bounded x) :
    Calls Try.prog 8 #[.slice lo l.length lc] w fun e w' => e = .returned (.bool true) ∧ Fr [] w w' := by
  obtain ⟨ib, hib, hb0, hb1, hb2⟩ := info_parts infoBox
  have HBX := Lib.hid (boxes_any w lo lc l hr hb)
  clear hr hb
  go_enter Try.func8, Try.ntmps8
  go_wp2_with fail
  refine HBX.out.mono ?_
  rintro e w1 ⟨bs, bo, bc, rfl, h20, -, hfi, hs1, hn1, hf1⟩
  have HOK := Lib.hid (fun b hb => (hfi b hb).1 : ∀ b ∈ bs, b.ok)
  have HS1 := Lib.hid hs1
  have HN1 := Lib.hid hn1
  have HF1 := Lib.hid hf1
  have HO := Lib.hid (Seg.one w1.heap.size #[] 23 4 0 (alloc_new w1 (.cells #[] 23)) rfl (by unfold maxLen; omega))
  clear hfi hs1 hn1 hf1 HBX
  go_upto_region 3 with (at_builtin; refine wpList_append_rd rfl _ _ 27 rfl 23 ib _ 4 32 Try.underlying27 hib hb0 hb1 hb2 rfl (by decide) (some ⟨w1.heap.size, 0, none⟩) 0 0 [] rfl HO.out bo bs.length bc (bs.flatMap BX.cl) rfl (HS1.out.alloc _).rd (cl_one bs) (by unfold maxLen; omega) (by omega) ?_; intro o2 k2 w2 hs2 hf2 hx2)
  rw [Nat.zero_add, List.nil_append] at hs2
  have HF2 := Lib.hid (((Fr.refl [] w1).alloc _).trans hf2 (fun k hk => .inr (by simp [blk] at hk; omega)))
  have HX2 := Lib.hid (fun k (hk : k ∈ blk o2) => (by
    rcases hx2 k hk with h | h
    · simp [blk] at h; omega
    · simp at h; omega : w1.heap.size ≤ k))
  have HOS2 := Lib.hid hs2
  have HS2 := Lib.hid (HS1.out.fr HF2.out (by simp))
  have HPA := Lib.hid (pairs_any w2 o2 k2 bs hs2.rd hs2.lt (by omega) HOK.out)
  clear hs2 hf2 hx2 HO HS1
  go_wp2_with fail
  refine HPA.out.mono ?_
  rintro e w3 ⟨po, pc, rfl, hs3, hn3, hf3⟩
  have HPS := Lib.hid hs3
  have HPN := Lib.hid hn3
  have HOS3 := Lib.hid (HOS2.out.fr hf3 (by simp))
  have HS3 := Lib.hid (HS2.out.fr hf3 (by simp))
  have HF3 := Lib.hid ((HF1.out.trans HF2.out (by simp [Ext])).trans hf3 (by simp [Ext]))
  have HPD1 := Lib.hid (hs3.disj HOS3.out (by decide))
  have HPD2 := Lib.hid (hs3.disj HS3.out (by decide))
  have HPW := Lib.hid (fun q hq => by have h1 := HF1.out.size; have h2 := HF2.out.size; have h3 := hn3 q hq; omega : ∀ q ∈ blk po, w.heap.size ≤ q)
  obtain ⟨n, hn⟩ : ∃ n, n = (pairsB bs).length := ⟨_, rfl⟩
  have hnl : n ≤ 400 := by
    have := upB_len bs bs.length
    have h2 := Nat.mul_le_mul h20 h20
    rw [hn]
    exact Nat.le_trans this h2
  rw [← hn] at HPS ⊢
  clear hs3 hn3 hf3 HPA HOS2 HS2 hn
  go_wp2_with fail
  go_loopw [6] (fun iv u => ∃ (i : Nat) (ys : List Value), iv = .int .i64 (i : Int) ∧ i ≤ n ∧ Seg u 39 2 po n pc ys ∧ Fr (blk po) w3 u) (fun iv _ => n - (intOf iv).toNat)
  case atStart => exact ⟨0, _, rfl, by omega, HPS.out, Fr.refl _ _⟩
  case round =>
    obtain ⟨i, ys, rfl, hi, hys, hfu⟩ := hrel
    by_cases hin : i < n
    · have hlt : (i : Int) < (n : Int) := by omega
      have wi : IntKind.i64.wrap ((i : Int) + 1) = (i : Int) + 1 := IntWalk.i64_in _ (by omega)
      obtain ⟨g, off, cur, rfl, hg, -, hc, hz⟩ := hys.at (by have := hys.2.2.1; omega)
      have e0 := hc (i * 2) (by omega)
      have e1 := hc (i * 2 + 1) (by omega)
      have z0 := hz (off + i * 2)
      have z1 := hz (off + i * 2 + 1)
      obtain ⟨v0, hv0⟩ : ∃ v, ys[i * 2]? = some v := ⟨_, List.getElem?_eq_getElem (by rw [hys.1]; omega)⟩
      obtain ⟨v1, hv1⟩ : ∃ v, ys[i * 2 + 1]? = some v := ⟨_, List.getElem?_eq_getElem (by rw [hys.1]; omega)⟩
      rw [hv0] at e0
      rw [← Nat.add_assoc, hv1] at e1
      have HYS := Lib.hid (by
        have h := (hys.store (i := i * 2) (by omega) (.int .i64 (-1))).store (i := i * 2 + 1) (by omega) (.int .i64 (-1))
        rw [← Nat.add_assoc] at h
        exact h : Seg ((wr.setCell ⟨g, off + i * 2, none⟩ (.int .i64 (-1))).setCell ⟨g, off + i * 2 + 1, none⟩ (.int .i64 (-1))) 39 2 (some ⟨g, off, none⟩) n pc _)
      have HFU := Lib.hid ((hfu.setCell (p := ⟨g, off + i * 2, none⟩) (.inl (by simp [blk])) (.int .i64 (-1))).setCell (p := ⟨g, off + i * 2 + 1, none⟩) (.inl (by simp [blk])) (.int .i64 (-1)))
      clear hys hfu hc hz hg hv0 hv1
      go_wp2_with fail
      go_roundw
      case rel => exact ⟨i + 1, _, by go_num, by omega, HYS.out, HFU.out⟩
      case measure => simp [intOf]; omega
    · have hlt : ¬ (i : Int) < (n : Int) := by omega
      obtain ⟨w4, rfl⟩ : ∃ u : World, u = wr := ⟨_, rfl⟩
      have HF4 := Lib.hid (HF3.out.trans hfu (fun q hq => .inr (HPW.out q hq)))
      have HOS4 := Lib.hid (HOS3.out.fr hfu (fun q hq h => HPD1.out q h hq))
      have HS4 := Lib.hid (HS3.out.fr hfu (fun q hq h => HPD2.out q h hq))
      clear hys hfu
      go_wp2_with fail
      go_loopw [7] (fun iv u => ∃ (j : Nat), iv = .int .i64 (j : Int) ∧ j ≤ bs.length ∧ Fr [] w4 u) (fun iv _ => bs.length - (intOf iv).toNat)
      case atStart => exact ⟨0, rfl, by omega, Fr.refl _ _⟩
      case round =>
        obtain ⟨j, rfl, hj, hfu⟩ := hrel
        have HFU := Lib.hid hfu
        clear hfu
        by_cases hjl : j < bs.length
        · have hlt2 : (j : Int) < (bs.length : Int) := by omega
          have wj : IntKind.i64.wrap ((j : Int) + 1) = (j : Int) + 1 := IntWalk.i64_in _ (by omega)
          obtain ⟨g, off, hgo, c0, c1, c2, c3⟩ := ((HOS4.out.fr HFU.out (by simp)).rd).box hjl
          obtain ⟨g2, off2, hgo2, d0, d1, d2, d3⟩ := ((HS4.out.fr HFU.out (by simp)).rd).box hjl
          obtain ⟨X, hX⟩ : ∃ X, X = bs[j]! := ⟨_, rfl⟩
          rw [← hX] at c0 c1 c2 c3 d0 d1 d2 d3
          have hb : ∀ u, (binOp .neq 23 (.agg #[.int .i64 X.x0, .int .i64 X.y0, .int .i64 X.x1, .int .i64 X.y1]) (.agg #[.int .i64 X.x0, .int .i64 X.y0, .int .i64 X.x1, .int .i64 X.y1])).run Try.prog u = .ok (.bool false) u := fun u => by
            have h := ne_box u X X
            simp only [beq_self_eq_true, Bool.and_self, Bool.not_true] at h
            exact h
          have HG := Lib.hid (And.intro hgo hgo2)
          clear hX
          subst hgo
          subst hgo2
          go_wp2_with fail
          go_quiet (fail)
          go_wp2_with fail
          go_roundw
          case rel => exact ⟨j + 1, by go_num, by omega, HFU.out.trans ((Fr.refl [] _).drewN _) (by simp [Ext])⟩
          case measure => simp [intOf]; omega
        · have hlt2 : ¬ (j : Int) < (bs.length : Int) := by omega
          obtain ⟨w5, rfl⟩ : ∃ u : World, u = wr := ⟨_, rfl⟩
          have HOS5 := Lib.hid (HOS4.out.fr HFU.out (by simp))
          have HS5 := Lib.hid (HS4.out.fr HFU.out (by simp))
          have HF5 := Lib.hid (HF4.out.trans HFU.out (by simp [Ext]))
          clear HFU HOS4 HS4 HF4
          go_wp2_with (first
            | (go_at_call 13; refine (lives04_any _).mono ?_; rintro e w9 ⟨rfl, f9⟩; have HF9 := Lib.hid (HF8.out.trans f9 (by simp [Ext])); clear f9)
            | (go_at_call 15; refine ((samep_any _ _ _ _ _ (pairsB bs) (pairsB bs) HP7.out HQ7.out).mono ?_); rintro e w8 ⟨he, f8⟩; rw [decide_eq_true rfl] at he; subst he; have HF8 := Lib.hid (HF7.out.trans f8 (by simp [Ext])); clear f8)
            | (go_at_call 17; refine (rpairs_any w6 bo bc bs HS6.out.rd (by omega) HOK.out).mono ?_; rintro e w7 ⟨qo, qc, rfl, hq7, -, f7⟩; have HQ7 := Lib.hid hq7.rd; have HP7 := Lib.hid (HP6.out.fr f7 (by simp)).rd; have HF7 := Lib.hid (HF6.out.trans f7 (by simp [Ext])); clear hq7 f7)
            | (go_at_call 16; refine (pairs_any w5 o2 k2 bs HOS5.out.rd HOS5.out.lt (by omega) HOK.out).mono ?_; rintro e w6 ⟨ro, rc, rfl, hp6, -, f6⟩; have HP6 := Lib.hid hp6; have HS6 := Lib.hid (HS5.out.fr f6 (by simp)); have HF6 := Lib.hid (HF5.out.trans f6 (by simp [Ext])); clear hp6 f6))
          go_ret
          exact ⟨rfl, HF9.out⟩
end Go.Proofs.Ytoplpmkcfgadlaa
