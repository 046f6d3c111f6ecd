/- BroadphaseHelly returns true: the walk. -/
import Derived.Deep.RegionHeld3
import Derived.Test.YtoplpmkcfgadlaaBContP
import Derived.Test.YtoplpmkcfgadlaaBroadL
namespace Go.Proofs.Ytoplpmkcfgadlaa
open Go.RowKit

/-- the table of what meets -/
def meetV (S : List (Nat × Nat)) : Array Value := ((List.range 400).map fun j => Value.bool (decide ((j / 20, j % 20) ∈ S))).toArray
theorem meetV_get (S : List (Nat × Nat)) {a b : Nat} (ha : a < 20) (hb : b < 20) : (meetV S)[a * 20 + b]? = some (.bool (decide ((a, b) ∈ S))) := by
  unfold meetV
  rw [List.getElem?_toArray, List.getElem?_map, List.getElem?_range (by omega)]
  rw [Option.map_some, show (a * 20 + b) / 20 = a by omega, show (a * 20 + b) % 20 = b by omega]
theorem meetV_set (S : List (Nat × Nat)) {a b : Nat} (ha : a < 20) (hb : b < 20) : (meetV S).setIfInBounds (a * 20 + b) (.bool true) = meetV (S ++ [(a, b)]) := by
  apply Array.ext_getElem?
  intro j
  rw [Array.getElem?_setIfInBounds]
  have hs : ∀ S, (meetV S).size = 400 := fun S => by unfold meetV; simp
  by_cases hj : j < 400
  · have e : j = j / 20 * 20 + j % 20 := by omega
    have g : ∀ S : List (Nat × Nat), (meetV S)[j]? = some (.bool (decide ((j / 20, j % 20) ∈ S))) := fun S => by
      have h := meetV_get S (a := j / 20) (b := j % 20) (by omega) (by omega)
      rwa [← e] at h
    split
    · rename_i h
      rw [if_pos (by rw [hs]; omega), g]
      rw [show j / 20 = a by omega, show j % 20 = b by omega]
      simp
    · rename_i h
      rw [g, g]
      congr 2
      rw [Bool.eq_iff_iff, decide_eq_true_eq, decide_eq_true_eq, List.mem_append]
      constructor
      · exact .inl
      · rintro (q | q)
        · exact q
        · simp at q; omega
  · rw [Array.getElem?_eq_none (by rw [hs]; omega), Array.getElem?_eq_none (by rw [hs]; omega)]
    split
    · rename_i h; omega
    · rfl
theorem zeroMeet (w : World) : (zeroValue 38).run Try.prog w = .ok (.agg (meetV [])) w := by kernel_rfl
theorem if3 {A B C x : Int} (h : (if (if A < B then B else A) < C then C else if A < B then B else A) = x) : x = max (max A B) C := by
  rw [← h]
  by_cases h1 : A < B
  · simp only [if_pos h1]
    by_cases h2 : B < C
    · rw [if_pos h2]; omega
    · rw [if_neg h2]; omega
  · simp only [if_neg h1]
    by_cases h2 : A < C
    · rw [if_pos h2]; omega
    · rw [if_neg h2]; omega
theorem helly_pt {A B C : BX} (hA : A.ok) (hB : B.ok) (hC : C.ok) (h1 : A.ov B = true) (h2 : A.ov C = true) (h3 : B.ov C = true) {x y : Int} (hx : x = max (max A.x0 B.x0) C.x0) (hy : y = max (max A.y0 B.y0) C.y0) : A.ov ⟨x, y, x, y⟩ = true ∧ B.ov ⟨x, y, x, y⟩ = true ∧ C.ov ⟨x, y, x, y⟩ = true := by
  unfold BX.ok at hA hB hC
  unfold BX.ov meetB at *
  simp only [Bool.and_eq_true, decide_eq_true_eq] at *
  omega

set_option maxRecDepth 100000 in
set_option maxHeartbeats 16000000 in
theorem bhelly_walk (w : World) (lo : Option Addr) (lc : Nat) (l : List Int) (hr : Rd w 1 lo l.length (ints l)) (hb : ∀ x ∈ l, bounded x) :
    Calls Try.prog 6 #[.slice lo l.length lc] w fun e w' => e = .returned (.bool true) ∧ Fr [] w w' := by
  have HBX := Lib.hid (boxes_any w lo lc l hr hb)
  clear hr hb
  go_enter Try.func6, Try.ntmps6
  go_wp2_with fail
  refine HBX.out.mono ?_
  rintro e w1 ⟨bs, bo, bc, rfl, h20, -, hfi, hs1, hn1, hf1⟩
  have HOK := Lib.hid (fun b hb => (hfi b hb).1 : ∀ b ∈ bs, b.ok)
  have HS1 := Lib.hid hs1
  have HF1 := Lib.hid hf1
  have HPA := Lib.hid (pairs_any w1 bo bc bs hs1.rd hs1.lt (by omega) HOK.out)
  clear hfi hs1 hn1 hf1 HBX
  go_wp2_with fail
  refine HPA.out.mono ?_
  rintro e w2 ⟨po, pc, rfl, hs2, -, hf2⟩
  have HPS := Lib.hid hs2
  have HS2 := Lib.hid (HS1.out.fr hf2 (by simp))
  have HF2 := Lib.hid (HF1.out.trans hf2 (by simp [Ext]))
  obtain ⟨n, hn⟩ : ∃ n, n = bs.length := ⟨_, rfl⟩
  have HN := Lib.hid hn
  obtain ⟨P, hP⟩ : ∃ P, P = pairsB bs := ⟨_, rfl⟩
  have HP := Lib.hid hP
  have hpl : P.length ≤ 400 := by
    have := upB_len bs bs.length
    have h2 := Nat.mul_le_mul h20 h20
    rw [hP]
    exact Nat.le_trans this h2
  have hz := zeroMeet
  obtain ⟨Z, hZ⟩ : ∃ Z, Z = meetV [] := ⟨_, rfl⟩
  rw [← hZ] at hz
  rw [← hn] at h20 HS2 ⊢
  rw [← hP] at HPS ⊢
  have HZ := Lib.hid hZ
  clear hs2 hf2 HPA HS1 HF1 hn hP hZ
  go_upto_region 4 with fail
  obtain ⟨bm, hbm⟩ : ∃ x, x = w2.heap.size := ⟨_, rfl⟩
  obtain ⟨w3, hw3⟩ : ∃ u, u = w2.alloc (.cells Z 38) := ⟨_, rfl⟩
  rw [← hbm, ← hw3]
  have HB3 := Lib.hid (by rw [hw3, hbm, ← HZ.out]; exact alloc_new _ _ : w3.heap[bm]? = some (.cells (meetV []) 38 (0, 0)))
  have hf3 : Fr [] w2 w3 := by rw [hw3]; exact (Fr.refl [] w2).alloc _
  have HPS3 := Lib.hid (HPS.out.fr hf3 (by simp))
  have HS3 := Lib.hid (HS2.out.fr hf3 (by simp))
  have HF3 := Lib.hid (HF2.out.trans hf3 (by simp [Ext]))
  have HBM := Lib.hid (by have := HF2.out.size; omega : w.heap.size ≤ bm)
  have HNP := Lib.hid (HPS3.out.ne_type HB3.out (by decide))
  have HNS := Lib.hid (HS3.out.ne_type HB3.out (by decide))
  clear hbm hw3 hf3 hz HZ HPS HS2 HF2
  go_wp2_with fail
  go_loopw [6] (fun iv wr => ∃ i : Nat, iv = .int .i64 (i : Int) ∧ i ≤ P.length ∧ wr.heap[bm]? = some (.cells (meetV (P.take i)) 38 (0, 0)) ∧ Fr [bm] w3 wr) (fun iv _ => P.length - (intOf iv).toNat)
  case atStart => exact ⟨0, rfl, by omega, HB3.out, Fr.refl _ _⟩
  case round =>
    obtain ⟨i, rfl, hi, hb, hf⟩ := hrel
    have HB := Lib.hid hb
    have HF := Lib.hid hf
    by_cases hil : i < P.length
    · have hlt : (i : Int) < (P.length : Int) := by omega
      have wi : IntKind.i64.wrap ((i : Int) + 1) = (i : Int) + 1 := IntWalk.i64_in _ (by omega)
      obtain ⟨g, off, hpo, -, c0, c1⟩ := (HPS3.out.fr hf (fun q hq h => by simp at h; subst h; exact HNP.out hq)).rd.pr hil
      have hm := mem_pairsB.1 (by rw [← HP.out]; exact List.getElem_mem hil : P[i] ∈ pairsB bs)
      obtain ⟨a, ha⟩ : ∃ a, a = P[i].1 := ⟨_, rfl⟩
      obtain ⟨b, hbb⟩ : ∃ b, b = P[i].2 := ⟨_, rfl⟩
      have htk : P.take (i + 1) = P.take i ++ [(a, b)] := by rw [ha, hbb]; exact List.take_succ_eq_append_getElem hil
      rw [← ha] at c0 hm
      rw [← hbb] at c1 hm
      have hab : a < b := hm.1
      have hbn : b < n := by rw [HN.out]; exact hm.2.1
      have h20b : b < 20 := by omega
      have h20a : a < 20 := by omega
      have d1 : ¬ (a : Int) < 0 := by omega
      have d2 : ¬ (n : Int) ≤ (b : Int) := by omega
      have d3 : ¬ (b : Int) ≤ (a : Int) := by omega
      have e1 : wr.cell? ⟨bm, a * 20 + b, none⟩ = some (.bool (decide ((a, b) ∈ P.take i))) := by rw [cell_blk hb]; exact meetV_get _ h20a h20b
      have e2 : wr.frozen? ⟨bm, a * 20 + b, none⟩ = false := frozen_blk hb _
      have HTK := Lib.hid htk
      have HPO := Lib.hid hpo
      clear ha hbb hm hb hf htk
      subst hpo
      go_wp2_with fail
      go_roundw
      case rel => exact ⟨i + 1, by go_num, by omega, by rw [HTK.out, ← meetV_set _ h20a h20b]; exact setCell_blk HB.out _ _, HF.out.setCell (p := ⟨bm, a * 20 + b, none⟩) (.inl (by simp)) _⟩
      case measure => simp [intOf]; omega
    · have hlt : ¬ (i : Int) < (P.length : Int) := by omega
      obtain ⟨w4, rfl⟩ : ∃ u : World, u = wr := ⟨_, rfl⟩
      have HB4 := Lib.hid (by have h := hb; rw [show P.take i = P from List.take_of_length_le (by omega)] at h; exact h : w4.heap[bm]? = some (.cells (meetV P) 38 (0, 0)))
      have HS4 := Lib.hid (HS3.out.fr hf (fun q hq h => by simp at h; subst h; exact HNS.out hq))
      have HF4 := Lib.hid (HF3.out.trans hf (fun q hq => .inr (by simp at hq; rw [hq]; exact HBM.out)))
      clear hb hf HB HF HS3 HF3 HB3 HPS3 hi
      go_wp2_with fail
      go_loopw [9] (fun iv wr => ∃ i : Nat, iv = .int .i64 (i : Int) ∧ i ≤ n ∧ Fr [] w4 wr) (fun iv _ => n - (intOf iv).toNat)
      case atStart => exact ⟨0, rfl, by omega, Fr.refl _ _⟩
      case round =>
        obtain ⟨i, rfl, hi, hf⟩ := hrel
        have HFI := Lib.hid hf
        clear hf
        by_cases hin : i < n
        · have hli : (i : Int) < (n : Int) := by omega
          have wi : IntKind.i64.wrap ((i : Int) + 1) = (i : Int) + 1 := IntWalk.i64_in _ (by omega)
          go_wp2_with fail
          go_loopw [10] (fun kv wr => ∃ k : Nat, kv = .int .i64 (k : Int) ∧ i < k ∧ k ≤ n ∧ Fr [] w4 wr) (fun kv _ => n - (intOf kv).toNat)
          case atStart => exact ⟨i + 1, by go_num, by omega, by omega, HFI.out⟩
          case round =>
            clear HFI
            obtain ⟨k, rfl, hik, hk, hf⟩ := hrel
            have HFK := Lib.hid hf
            clear hf
            by_cases hkn : k < n
            · have hlk : (k : Int) < (n : Int) := by omega
              have wk : IntKind.i64.wrap ((k : Int) + 1) = (k : Int) + 1 := IntWalk.i64_in _ (by omega)
              go_wp2_with fail
              go_loopw [11] (fun mv wr => ∃ m : Nat, mv = .int .i64 (m : Int) ∧ k < m ∧ m ≤ n ∧ Fr [] w4 wr) (fun mv _ => n - (intOf mv).toNat)
              case atStart => exact ⟨k + 1, by go_num, by omega, by omega, HFK.out⟩
              case round =>
                clear HFK
                obtain ⟨m, rfl, hkm, hm, hf⟩ := hrel
                have HFM := Lib.hid hf
                by_cases hmn : m < n
                · have hlm : (m : Int) < (n : Int) := by omega
                  have wm : IntKind.i64.wrap ((m : Int) + 1) = (m : Int) + 1 := IntWalk.i64_in _ (by omega)
                  have hbw := hf.blk HB4.out (by simp)
                  obtain ⟨t1, ht1⟩ : ∃ t, t = decide ((i, k) ∈ P) := ⟨_, rfl⟩
                  obtain ⟨t2, ht2⟩ : ∃ t, t = decide ((i, m) ∈ P) := ⟨_, rfl⟩
                  obtain ⟨t3, ht3⟩ : ∃ t, t = decide ((k, m) ∈ P) := ⟨_, rfl⟩
                  have e1 : wr.cell? ⟨bm, i * 20 + k, none⟩ = some (.bool t1) := by rw [cell_blk hbw, ht1]; exact meetV_get _ (by omega) (by omega)
                  have e2 : wr.cell? ⟨bm, i * 20 + m, none⟩ = some (.bool t2) := by rw [cell_blk hbw, ht2]; exact meetV_get _ (by omega) (by omega)
                  have e3 : wr.cell? ⟨bm, k * 20 + m, none⟩ = some (.bool t3) := by rw [cell_blk hbw, ht3]; exact meetV_get _ (by omega) (by omega)
                  have hi20 : (i : Int) < 20 := by omega
                  have hk20 : (k : Int) < 20 := by omega
                  have hm20 : (m : Int) < 20 := by omega
                  have HT := Lib.hid (And.intro ht1 (And.intro ht2 ht3))
                  clear hf hbw ht1 ht2 ht3
                  by_cases hall : t1 = true ∧ t2 = true ∧ t3 = true
                  · obtain ⟨rfl, rfl, rfl⟩ := hall
                    have hib : i < bs.length := by rw [← HN.out]; exact hin
                    have hkb : k < bs.length := by rw [← HN.out]; exact hkn
                    have hmb : m < bs.length := by rw [← HN.out]; exact hmn
                    have hrd := (by rw [← HN.out]; exact (HS4.out.fr HFM.out (by simp)).rd : Rd wr 4 bo bs.length (bs.flatMap BX.cl))
                    obtain ⟨gb, off, hbo, a0, a1, a2, a3⟩ := hrd.box hib
                    obtain ⟨gb2, off2, hbo2, b0, b1, b2, b3⟩ := hrd.box hkb
                    obtain ⟨gb3, off3, hbo3, c0, c1, c2, c3⟩ := hrd.box hmb
                    rw [hbo] at hbo2 hbo3
                    cases hbo2
                    cases hbo3
                    obtain ⟨q1, q2, q3⟩ := HT.out
                    have p1 := mem_pairsB.1 (by rw [← HP.out]; exact of_decide_eq_true q1.symm : (i, k) ∈ pairsB bs)
                    have p2 := mem_pairsB.1 (by rw [← HP.out]; exact of_decide_eq_true q2.symm : (i, m) ∈ pairsB bs)
                    have p3 := mem_pairsB.1 (by rw [← HP.out]; exact of_decide_eq_true q3.symm : (k, m) ∈ pairsB bs)
                    have o1 : (bs[i]!).ok := by rw [getElem!_pos bs i hib]; exact HOK.out _ (List.getElem_mem hib)
                    have o2 : (bs[k]!).ok := by rw [getElem!_pos bs k hkb]; exact HOK.out _ (List.getElem_mem hkb)
                    have o3 : (bs[m]!).ok := by rw [getElem!_pos bs m hmb]; exact HOK.out _ (List.getElem_mem hmb)
                    have HPT := Lib.hid (fun x y hx hy => helly_pt o1 o2 o3 p1.2.2 p2.2.2 p3.2.2 (x := x) (y := y) hx hy)
                    have HBXS := Lib.hid (fun v (hv : Fr [] wr v) => (by
                      have hrd2 := hrd.fr hv (by simp)
                      obtain ⟨g1, f1, k1, a0, a1, a2, a3⟩ := hrd2.box hib
                      obtain ⟨g2, f2, k2, b0, b1, b2, b3⟩ := hrd2.box hkb
                      obtain ⟨g3, f3, k3, c0, c1, c2, c3⟩ := hrd2.box hmb
                      rw [hbo] at k1 k2 k3
                      cases k1
                      cases k2
                      cases k3
                      exact ⟨a0, a1, a2, a3, b0, b1, b2, b3, c0, c1, c2, c3⟩ : v.cell? ⟨gb, off + i * 4, none⟩ = some (.int .i64 (bs[i]!).x0) ∧ v.cell? ⟨gb, off + i * 4 + 1, none⟩ = some (.int .i64 (bs[i]!).y0) ∧ v.cell? ⟨gb, off + i * 4 + 2, none⟩ = some (.int .i64 (bs[i]!).x1) ∧ v.cell? ⟨gb, off + i * 4 + 3, none⟩ = some (.int .i64 (bs[i]!).y1) ∧ v.cell? ⟨gb, off + k * 4, none⟩ = some (.int .i64 (bs[k]!).x0) ∧ v.cell? ⟨gb, off + k * 4 + 1, none⟩ = some (.int .i64 (bs[k]!).y0) ∧ v.cell? ⟨gb, off + k * 4 + 2, none⟩ = some (.int .i64 (bs[k]!).x1) ∧ v.cell? ⟨gb, off + k * 4 + 3, none⟩ = some (.int .i64 (bs[k]!).y1) ∧ v.cell? ⟨gb, off + m * 4, none⟩ = some (.int .i64 (bs[m]!).x0) ∧ v.cell? ⟨gb, off + m * 4 + 1, none⟩ = some (.int .i64 (bs[m]!).y0) ∧ v.cell? ⟨gb, off + m * 4 + 2, none⟩ = some (.int .i64 (bs[m]!).x1) ∧ v.cell? ⟨gb, off + m * 4 + 3, none⟩ = some (.int .i64 (bs[m]!).y1)))
                    obtain ⟨A0, hA0⟩ : ∃ x, x = (bs[i]!).x0 := ⟨_, rfl⟩
                    obtain ⟨A1, hA1⟩ : ∃ x, x = (bs[i]!).y0 := ⟨_, rfl⟩
                    obtain ⟨A2, hA2⟩ : ∃ x, x = (bs[i]!).x1 := ⟨_, rfl⟩
                    obtain ⟨A3, hA3⟩ : ∃ x, x = (bs[i]!).y1 := ⟨_, rfl⟩
                    rw [← hA0] at a0
                    rw [← hA1] at a1
                    rw [← hA2] at a2
                    rw [← hA3] at a3
                    obtain ⟨B0, hB0⟩ : ∃ x, x = (bs[k]!).x0 := ⟨_, rfl⟩
                    obtain ⟨B1, hB1⟩ : ∃ x, x = (bs[k]!).y0 := ⟨_, rfl⟩
                    obtain ⟨B2, hB2⟩ : ∃ x, x = (bs[k]!).x1 := ⟨_, rfl⟩
                    obtain ⟨B3, hB3⟩ : ∃ x, x = (bs[k]!).y1 := ⟨_, rfl⟩
                    rw [← hB0] at b0
                    rw [← hB1] at b1
                    rw [← hB2] at b2
                    rw [← hB3] at b3
                    obtain ⟨C0, hC0⟩ : ∃ x, x = (bs[m]!).x0 := ⟨_, rfl⟩
                    obtain ⟨C1, hC1⟩ : ∃ x, x = (bs[m]!).y0 := ⟨_, rfl⟩
                    obtain ⟨C2, hC2⟩ : ∃ x, x = (bs[m]!).x1 := ⟨_, rfl⟩
                    obtain ⟨C3, hC3⟩ : ∃ x, x = (bs[m]!).y1 := ⟨_, rfl⟩
                    rw [← hC0] at c0
                    rw [← hC1] at c1
                    rw [← hC2] at c2
                    rw [← hC3] at c3
                    rw [← hA0, ← hA1, ← hA2, ← hA3, ← hB0, ← hB1, ← hB2, ← hB3, ← hC0, ← hC1, ← hC2, ← hC3] at HBXS
                    have HLT := Lib.hid (And.intro (And.intro hA0 (And.intro hA1 (And.intro hA2 hA3))) (And.intro (And.intro hB0 (And.intro hB1 (And.intro hB2 hB3))) (And.intro hC0 (And.intro hC1 (And.intro hC2 hC3)))))
                    obtain ⟨px, gx⟩ : ∃ x, (if (if A0 < B0 then B0 else A0) < C0 then C0 else if A0 < B0 then B0 else A0) = x := ⟨_, rfl⟩
                    have mx : px = max (max A0 B0) C0 := if3 gx
                    obtain ⟨py, gy⟩ : ∃ y, (if (if A1 < B1 then B1 else A1) < C1 then C1 else if A1 < B1 then B1 else A1) = y := ⟨_, rfl⟩
                    have my : py = max (max A1 B1) C1 := if3 gy
                    have HGV := Lib.hid (by
                      obtain ⟨⟨z0, z1, z2, z3⟩, ⟨y0, y1, y2, y3⟩, x0, x1, x2, x3⟩ := HLT.out
                      have h := HPT.out px py (by rw [← z0, ← y0, ← x0]; exact mx) (by rw [← z1, ← y1, ← x1]; exact my)
                      have e1 : (bs[i]!) = ⟨A0, A1, A2, A3⟩ := by rw [z0, z1, z2, z3]
                      have e2 : (bs[k]!) = ⟨B0, B1, B2, B3⟩ := by rw [y0, y1, y2, y3]
                      have e3 : (bs[m]!) = ⟨C0, C1, C2, C3⟩ := by rw [x0, x1, x2, x3]
                      rw [e1, e2, e3] at h
                      exact h : BX.ov ⟨A0, A1, A2, A3⟩ ⟨px, py, px, py⟩ = true ∧ BX.ov ⟨B0, B1, B2, B3⟩ ⟨px, py, px, py⟩ = true ∧ BX.ov ⟨C0, C1, C2, C3⟩ ⟨px, py, px, py⟩ = true)
                    have HGX := Lib.hid (And.intro gx gy)
                    have HMXY := Lib.hid (And.intro mx my)
                    clear gx gy mx my
                    have HBO := Lib.hid hbo
                    clear hrd q1 q2 q3 p1 p2 p3 o1 o2 o3 hA0 hA1 hA2 hA3 hB0 hB1 hB2 hB3 hC0 hC1 hC2 hC3
                    subst hbo
                    go_upto_region 22 with fail
                    clear e1 e2 e3
                    refine wp_still_tail 16 (by kernel_rfl) (by kernel_rfl) ?_
                    simp only [List.take_succ_cons, List.take_zero, List.drop_succ_cons, List.drop_zero]
                    repeat still_step
                    refine wpStill_nil ?_
                    go_upto_region 23 with fail
                    refine wp_still_tail 16 (by kernel_rfl) (by kernel_rfl) ?_
                    simp only [List.take_succ_cons, List.take_zero, List.drop_succ_cons, List.drop_zero]
                    repeat still_step
                    refine wpStill_nil ?_
                    go_upto_region 25 with fail
                    obtain ⟨gx, gy⟩ := HGX.out
                    obtain ⟨mx, my⟩ := HMXY.out
                    have nx : max A0 (max B0 C0) = px := by omega
                    have ny : max A1 (max B1 C1) = py := by omega
                    have nx2 : max (max A0 B0) C0 = px := by omega
                    have ny2 : max (max A1 B1) C1 = py := by omega
                    try rw [gx]
                    try rw [gy]
                    try rw [nx]
                    try rw [ny]
                    try rw [nx2]
                    try rw [ny2]
                    clear nx ny nx2 ny2
                    obtain ⟨bp, hbp⟩ : ∃ x, x = wr.heap.size := ⟨_, rfl⟩
                    obtain ⟨wq, hwq⟩ : ∃ u, u = (wr.alloc (.cells #[.int .i64 px, .int .i64 py, .int .i64 px, .int .i64 py] 23)).drew.drew := ⟨_, rfl⟩
                    have hbq : wq.heap[bp]? = some (.cells #[.int .i64 px, .int .i64 py, .int .i64 px, .int .i64 py] 23 (0, 0)) := by rw [hwq, hbp]; exact alloc_new wr _
                    have hfq : Fr [] wr wq := by rw [hwq]; exact (((Fr.refl [] wr).alloc _).drew).drew
                    rw [← hbp, ← hwq]
                    have HFQ := Lib.hid hfq
                    have HSV := Lib.hid (fun v (hv : Fr [] wq v) => (by
                      obtain ⟨a0, a1, a2, a3, b0, b1, b2, b3, c0, c1, c2, c3⟩ := HBXS.out v (hfq.trans hv (by simp [Ext]))
                      exact ⟨hv, a0, a1, a2, a3, b0, b1, b2, b3, c0, c1, c2, c3, cell_blk (hv.blk hbq (by simp)) 0, cell_blk (hv.blk hbq (by simp)) 1, cell_blk (hv.blk hbq (by simp)) 2, cell_blk (hv.blk hbq (by simp)) 3⟩ : Fr [] wq v ∧ v.cell? ⟨gb, off + i * 4, none⟩ = some (.int .i64 A0) ∧ v.cell? ⟨gb, off + i * 4 + 1, none⟩ = some (.int .i64 A1) ∧ v.cell? ⟨gb, off + i * 4 + 2, none⟩ = some (.int .i64 A2) ∧ v.cell? ⟨gb, off + i * 4 + 3, none⟩ = some (.int .i64 A3) ∧ v.cell? ⟨gb, off + k * 4, none⟩ = some (.int .i64 B0) ∧ v.cell? ⟨gb, off + k * 4 + 1, none⟩ = some (.int .i64 B1) ∧ v.cell? ⟨gb, off + k * 4 + 2, none⟩ = some (.int .i64 B2) ∧ v.cell? ⟨gb, off + k * 4 + 3, none⟩ = some (.int .i64 B3) ∧ v.cell? ⟨gb, off + m * 4, none⟩ = some (.int .i64 C0) ∧ v.cell? ⟨gb, off + m * 4 + 1, none⟩ = some (.int .i64 C1) ∧ v.cell? ⟨gb, off + m * 4 + 2, none⟩ = some (.int .i64 C2) ∧ v.cell? ⟨gb, off + m * 4 + 3, none⟩ = some (.int .i64 C3) ∧ v.cell? ⟨bp, 0, none⟩ = some (.int .i64 px) ∧ v.cell? ⟨bp, 1, none⟩ = some (.int .i64 py) ∧ v.cell? ⟨bp, 2, none⟩ = some (.int .i64 px) ∧ v.cell? ⟨bp, 3, none⟩ = some (.int .i64 py)))
                    have HOV := Lib.hid ov8
                    obtain ⟨g1, g2, g3⟩ := HGV.out
                    clear hbp hwq hbq hfq a0 a1 a2 a3 b0 b1 b2 b3 c0 c1 c2 c3 gx gy mx my
                    have FX := Lib.hid ((Fr.refl [] wq).drew)
                    go_region_held3 (fun v => Fr [] wq v ∧ v.cell? ⟨gb, off + i * 4, none⟩ = some (.int .i64 A0) ∧ v.cell? ⟨gb, off + i * 4 + 1, none⟩ = some (.int .i64 A1) ∧ v.cell? ⟨gb, off + i * 4 + 2, none⟩ = some (.int .i64 A2) ∧ v.cell? ⟨gb, off + i * 4 + 3, none⟩ = some (.int .i64 A3) ∧ v.cell? ⟨gb, off + k * 4, none⟩ = some (.int .i64 B0) ∧ v.cell? ⟨gb, off + k * 4 + 1, none⟩ = some (.int .i64 B1) ∧ v.cell? ⟨gb, off + k * 4 + 2, none⟩ = some (.int .i64 B2) ∧ v.cell? ⟨gb, off + k * 4 + 3, none⟩ = some (.int .i64 B3) ∧ v.cell? ⟨gb, off + m * 4, none⟩ = some (.int .i64 C0) ∧ v.cell? ⟨gb, off + m * 4 + 1, none⟩ = some (.int .i64 C1) ∧ v.cell? ⟨gb, off + m * 4 + 2, none⟩ = some (.int .i64 C2) ∧ v.cell? ⟨gb, off + m * 4 + 3, none⟩ = some (.int .i64 C3) ∧ v.cell? ⟨bp, 0, none⟩ = some (.int .i64 px) ∧ v.cell? ⟨bp, 1, none⟩ = some (.int .i64 py) ∧ v.cell? ⟨bp, 2, none⟩ = some (.int .i64 px) ∧ v.cell? ⟨bp, 3, none⟩ = some (.int .i64 py)) (exact HSV.out _ FX.out)
                      ((go_at_call 11; refine (HOV.out _ _ _ _ _ _ _ _ _).mono ?_; rintro e wX ⟨rfl, fX⟩; have FX := Lib.hid (FX.out.trans fX (by simp [Ext])); clear fX))
                    all_goals
                      go_wp2_with fail
                      go_roundw
                      case rel => exact ⟨m + 1, by go_num, by omega, by omega, HFM.out.trans (HFQ.out.trans FX.out (by simp [Ext])) (by simp [Ext])⟩
                      case measure => simp [intOf]; omega
                  · have h3 : t1 = false ∨ (t1 = true ∧ t2 = false) ∨ (t1 = true ∧ t2 = true ∧ t3 = false) := by
                      cases t1 <;> cases t2 <;> cases t3 <;> simp at hall ⊢
                    clear hall HT
                    rcases h3 with rfl | ⟨rfl, rfl⟩ | ⟨rfl, rfl, rfl⟩
                    all_goals
                      go_wp2_with fail
                      go_roundw
                      case rel => exact ⟨m + 1, by go_num, by omega, by omega, HFM.out⟩
                      case measure => simp [intOf]; omega
                · have hlm : ¬ (m : Int) < (n : Int) := by omega
                  go_wp2_with fail
                  go_roundw
                  case rel => exact ⟨k + 1, by go_num, by omega, by omega, HFM.out⟩
                  case measure => simp [intOf]; omega
            · have hlk : ¬ (k : Int) < (n : Int) := by omega
              go_wp2_with fail
              go_roundw
              case rel => exact ⟨i + 1, by go_num, by omega, HFK.out⟩
              case measure => simp [intOf]; omega
        · have hli : ¬ (i : Int) < (n : Int) := by omega
          go_wp2_with (go_at_call 13; refine (lives04_any _).mono ?_; rintro e wl ⟨rfl, fl⟩; have HFL := Lib.hid ((HF4.out.trans HFI.out (by simp [Ext])).trans fl (by simp [Ext])); clear fl)
          go_ret
          exact ⟨rfl, HFL.out⟩
end Go.Proofs.Ytoplpmkcfgadlaa
