/- BroadphaseContains returns true. -/
import Derived.Deep.RegionHeld3
import Derived.Deep.RegionLaw
import Derived.Deep.DeepCutAuto
import Derived.Deep.CutBlock
import Derived.Test.YtoplpmkcfgadlaaBContP
import Derived.Test.YtoplpmkcfgadlaaBroadL
import Derived.Test.YtoplpmkcfgadlaaIntsA
namespace Go.Proofs.Ytoplpmkcfgadlaa
open Go.RowKit

theorem cl_one' (t : List BX) : ∀ u ∈ t.flatMap BX.cl, u.oneCell' = true := by
  intro u hu
  obtain ⟨x, -, hx⟩ := List.mem_flatMap.1 hu
  simp [BX.cl] at hx
  rcases hx with rfl | rfl | rfl | rfl <;> rfl

theorem fr_ap {w3 W w5 : World} {b : Nat} (F : Fr [] w3 W) (hb : w3.heap.size ≤ b) (hf : Fr (blk (some ⟨b, 0, none⟩)) W w5) : Fr [] w3 w5 := F.trans hf (fun k hk => .inr (by simp [blk] at hk; omega))
theorem ext_ap {w3 W : World} {b : Nat} {o : Option Addr} (F : Fr [] w3 W) (hb : w3.heap.size ≤ b) (hx : Ext (blk (some ⟨b, 0, none⟩)) W (blk o)) : ∀ q ∈ blk o, w3.heap.size ≤ q := fun q hq => by
  rcases hx q hq with h | h
  · simp [blk] at h; omega
  · exact Nat.le_trans F.size h

set_option maxRecDepth 100000 in
set_option maxHeartbeats 16000000 in
theorem bcont_walk (w : World) (lo : Option Addr) (lc : Nat) (l : List Int) (hsr : Srci w lo lc l) (which grow : Int) (hwb : bounded which) (hgb : bounded grow) :
    Calls Try.prog 9 #[.slice lo l.length lc, .int .i64 which, .int .i64 grow] w fun e w' => e = .returned (.bool true) ∧ Fr [] w w' := by
  obtain ⟨ib, hib, hb0, hb1, hb2⟩ := info_parts infoBox
  have HIN : Hid (Calls Try.prog 23 #[.slice lo l.length lc, .int .i64 18] w (IntsTo w (l.take 18))) := Lib.hid (ints_any w lo lc l 18 hsr (by omega))
  have HB18 := Lib.hid (fun x (hx : x ∈ l.take 18) => hsr.bnd x (List.mem_of_mem_take hx))
  have HAW := Lib.hid (fun (m : Nat) (h : 1 ≤ m) (h2 : m ≤ 100) => around_nat which m hwb h (by omega))
  obtain ⟨g, hg, -, hAG⟩ := around_nat grow 1000 hgb (by omega) (by omega)
  have HAG := Lib.hid hAG
  obtain ⟨L18, hL18⟩ : ∃ L, L = l.take 18 := ⟨_, rfl⟩
  rw [← hL18] at HIN HB18
  clear hsr hwb hgb hAG hL18
  go_enter Try.func9, Try.ntmps9
  go_wp2_with fail
  refine HIN.out.mono ?_
  rintro e w0 ⟨io, ic, rfl, his, hif, -⟩
  have HBX := Lib.hid (boxes_any w0 io ic L18 his.rd HB18.out)
  have HF0 := Lib.hid hif
  clear his hif HIN
  go_wp2_with fail
  refine HBX.out.mono ?_
  rintro e w1 ⟨bs, bo, bc, rfl, h20, -, hfi, hs1, hn1, hf1⟩
  have HOK := Lib.hid (fun b hb => (hfi b hb).1 : ∀ b ∈ bs, b.ok)
  have HFI := Lib.hid hfi
  have HS1 := Lib.hid hs1
  have HF1 := Lib.hid (HF0.out.trans hf1 (by simp [Ext]))
  obtain ⟨n, hn⟩ : ∃ n, n = bs.length := ⟨_, rfl⟩
  have HN := Lib.hid hn
  rw [← hn] at h20 HS1 ⊢
  clear hfi hs1 hn1 hf1 HBX hn
  by_cases hn0 : n = 0
  · have d0 : ((n : Int) == 0) = true := by simp [hn0]
    clear hn0
    go_wp2_with (go_at_call 13; refine (lives04_any _).mono ?_; rintro e wl ⟨rfl, fl⟩; have HFL := Lib.hid (HF1.out.trans fl (by simp [Ext])); clear fl)
    go_ret
    exact ⟨rfl, HFL.out⟩
  · have d0 : ((n : Int) == 0) = false := by rw [Bool.eq_false_iff]; intro h; exact hn0 (by have := beq_iff_eq.1 h; omega)
    obtain ⟨k, hkn, -, hA⟩ := HAW.out n (by omega) (by omega)
    have HA := Lib.hid hA
    have hkb : k < bs.length := by rw [← HN.out]; exact hkn
    have hki : (k : Int) < (n : Int) := by omega
    obtain ⟨gb, off, hbo, c0, c1, c2, c3⟩ := (by rw [← HN.out]; exact HS1.out.rd : Rd w1 4 bo bs.length (bs.flatMap BX.cl)).box hkb
    have HXN := Lib.hid (by rw [getElem!_pos bs k hkb]; exact HFI.out _ (List.getElem_mem hkb) : (bs[k]!).ok ∧ (bs[k]!).near 100)
    obtain ⟨X0, hX0⟩ : ∃ x, x = (bs[k]!).x0 := ⟨_, rfl⟩
    obtain ⟨X1, hX1⟩ : ∃ x, x = (bs[k]!).y0 := ⟨_, rfl⟩
    obtain ⟨X2, hX2⟩ : ∃ x, x = (bs[k]!).x1 := ⟨_, rfl⟩
    obtain ⟨X3, hX3⟩ : ∃ x, x = (bs[k]!).y1 := ⟨_, rfl⟩
    rw [← hX0] at c0
    rw [← hX1] at c1
    rw [← hX2] at c2
    rw [← hX3] at c3
    have HX := Lib.hid (And.intro hX0 (And.intro hX1 (And.intro hX2 hX3)))
    have hxr : (-100 ≤ X0 ∧ X0 ≤ 100) ∧ (-100 ≤ X1 ∧ X1 ≤ 100) ∧ (-100 ≤ X2 ∧ X2 ≤ 100) ∧ (-100 ≤ X3 ∧ X3 ≤ 100) := by
      have := HXN.out.2
      unfold BX.near at this
      omega
    obtain ⟨⟨x01, x02⟩, ⟨x11, x12⟩, ⟨x21, x22⟩, x31, x32⟩ := hxr
    obtain ⟨q1, e1⟩ : ∃ q : Nat, (g : Int) / 10 = (q : Int) := ⟨g / 10, by omega⟩
    obtain ⟨q2, e2⟩ : ∃ q : Nat, (g : Int) / 100 = (q : Int) := ⟨g / 100, by omega⟩
    obtain ⟨r0, k0⟩ : ∃ q : Nat, (g : Int) % 10 = (q : Int) := ⟨g % 10, by omega⟩
    obtain ⟨r1, k1⟩ : ∃ q : Nat, (q1 : Int) % 10 = (q : Int) := ⟨q1 % 10, by omega⟩
    obtain ⟨r3, k3⟩ : ∃ q : Nat, (g : Int) % 7 = (q : Int) := ⟨g % 7, by omega⟩
    have v1 : IntKind.i64.wrap (q1 : Int) = (q1 : Int) := IntWalk.i64_in _ (by omega)
    have v2 : IntKind.i64.wrap (q2 : Int) = (q2 : Int) := IntWalk.i64_in _ (by omega)
    obtain ⟨Y0, u0⟩ : ∃ y, y = X0 - (r0 : Int) := ⟨_, rfl⟩
    obtain ⟨Y1, u1⟩ : ∃ y, y = X1 - (r1 : Int) := ⟨_, rfl⟩
    obtain ⟨Y2, u2⟩ : ∃ y, y = X2 + (q2 : Int) := ⟨_, rfl⟩
    obtain ⟨Y3, u3⟩ : ∃ y, y = X3 + (r3 : Int) := ⟨_, rfl⟩
    have v3 : IntKind.i64.wrap (X0 - (r0 : Int)) = Y0 := by rw [IntWalk.i64_in _ (by omega)]; exact u0.symm
    have v4 : IntKind.i64.wrap (X1 - (r1 : Int)) = Y1 := by rw [IntWalk.i64_in _ (by omega)]; exact u1.symm
    have v5 : IntKind.i64.wrap (X2 + (q2 : Int)) = Y2 := by rw [IntWalk.i64_in _ (by omega)]; exact u2.symm
    have v6 : IntKind.i64.wrap (X3 + (r3 : Int)) = Y3 := by rw [IntWalk.i64_in _ (by omega)]; exact u3.symm
    have HY := Lib.hid (by omega : Y0 ≤ X0 ∧ Y1 ≤ X1 ∧ X2 ≤ Y2 ∧ X3 ≤ Y3)
    have HBO := Lib.hid hbo
    clear hn0 hA hX0 hX1 hX2 hX3 u0 u1 u2 u3 x01 x02 x11 x12 x21 x22 x31 x32 HAW
    subst hbo
    go_upto_region 5 with (go_at_call 21; refine (HA.out _).mono ?_; rintro e w' ⟨rfl, rfl⟩)
    go_upto_region 7 with (go_at_call 21; refine (HAG.out _).mono ?_; rintro e w' ⟨rfl, rfl⟩)
    obtain ⟨bx, hbx⟩ : ∃ x, x = w1.heap.size := ⟨_, rfl⟩
    obtain ⟨w2, hw2⟩ : ∃ u, u = w1.alloc (.cells #[.int .i64 X0, .int .i64 X1, .int .i64 X2, .int .i64 X3] 23) := ⟨_, rfl⟩
    rw [← hbx, ← hw2]
    have HB2 := Lib.hid (by rw [hw2, hbx]; exact alloc_new _ _ : w2.heap[bx]? = some (.cells #[.int .i64 X0, .int .i64 X1, .int .i64 X2, .int .i64 X3] 23 (0, 0)))
    have HF2 := Lib.hid (by rw [hw2]; exact (Fr.refl [] w1).alloc _ : Fr [] w1 w2)
    clear hbx hw2 c0 c1 c2 c3
    have b0 : w2.cell? ⟨bx, 0, none⟩ = some (.int .i64 X0) := cell_blk HB2.out 0
    have b1 : w2.cell? ⟨bx, 1, none⟩ = some (.int .i64 X1) := cell_blk HB2.out 1
    have b2 : w2.cell? ⟨bx, 2, none⟩ = some (.int .i64 X2) := cell_blk HB2.out 2
    have b3 : w2.cell? ⟨bx, 3, none⟩ = some (.int .i64 X3) := cell_blk HB2.out 3
    go_upto_region 9 with fail
    obtain ⟨by', hby⟩ : ∃ x, x = w2.heap.size := ⟨_, rfl⟩
    obtain ⟨w3, hw3⟩ : ∃ u, u = w2.alloc (.cells #[.int .i64 Y0, .int .i64 Y1, .int .i64 Y2, .int .i64 Y3] 23) := ⟨_, rfl⟩
    rw [← hby, ← hw3]
    have HB3 := Lib.hid (by rw [hw3, hby]; exact alloc_new _ _ : w3.heap[by']? = some (.cells #[.int .i64 Y0, .int .i64 Y1, .int .i64 Y2, .int .i64 Y3] 23 (0, 0)))
    have HF3 := Lib.hid (by rw [hw3]; exact (Fr.refl [] w2).alloc _ : Fr [] w2 w3)
    have HBX3 := Lib.hid (HF3.out.blk HB2.out (by simp))
    have HS3 := Lib.hid (HS1.out.fr (HF2.out.trans HF3.out (by simp [Ext])) (by simp))
    have HFW := Lib.hid (HF1.out.trans (HF2.out.trans HF3.out (by simp [Ext])) (by simp [Ext]))
    obtain ⟨P, hP⟩ : ∃ P, P = pairsB (bs ++ [(⟨Y0, Y1, Y2, Y3⟩ : BX)]) := ⟨_, rfl⟩
    have HP := Lib.hid hP
    have HPC := Lib.hid (fun u (oo : Option Addr) (oc : Nat) (hs : Seg u 23 4 oo (n + 1) oc (bs.flatMap BX.cl ++ BX.cl ⟨Y0, Y1, Y2, Y3⟩)) => (by
      have h0 : (bs ++ [(⟨Y0, Y1, Y2, Y3⟩ : BX)]).length = n + 1 := by rw [List.length_append, ← HN.out]; rfl
      have h := pairs_any u oo oc (bs ++ [(⟨Y0, Y1, Y2, Y3⟩ : BX)]) (by rw [h0, List.flatMap_append]; simpa using hs.rd) hs.lt (by rw [h0]; omega) (fun b hb => by
        rcases List.mem_append.1 hb with q | q
        · exact HOK.out b q
        · simp at q
          obtain ⟨hx0, hx1⟩ := HXN.out.1
          obtain ⟨z0, z1, z2, z3⟩ := HX.out
          obtain ⟨y0, y1, y2, y3⟩ := HY.out
          rw [q]
          unfold BX.ok
          simp only
          omega)
      rw [h0] at h
      unfold PairsTo at h
      rw [← hP] at h
      exact h : Calls Try.prog 16 #[.slice oo (n + 1) oc] u fun e w' => ∃ po pc, e = .returned (.slice po P.length pc) ∧ Seg w' 39 2 po P.length pc (P.flatMap encP) ∧ (∀ q ∈ blk po, u.heap.size ≤ q) ∧ Fr [] u w'))
    clear hby hw3 hP b0 b1 b2 b3
    have HYC := Lib.hid (fun u (hu : Fr [] w3 u) => (⟨cell_blk (hu.blk HB3.out (by simp)) 0, cell_blk (hu.blk HB3.out (by simp)) 1, cell_blk (hu.blk HB3.out (by simp)) 2, cell_blk (hu.blk HB3.out (by simp)) 3⟩ : u.cell? ⟨by', 0, none⟩ = some (.int .i64 Y0) ∧ u.cell? ⟨by', 1, none⟩ = some (.int .i64 Y1) ∧ u.cell? ⟨by', 2, none⟩ = some (.int .i64 Y2) ∧ u.cell? ⟨by', 3, none⟩ = some (.int .i64 Y3)))
    have hby3 : by' < w3.heap.size := lt_of_blk HB3.out
    obtain ⟨y0, y1, y2, y3⟩ := HYC.out w3 (Fr.refl _ _)
    go_cut [13] (fun pv wx => ∃ (po : Option Addr) (pc : Nat), pv = .slice po P.length pc ∧ Seg wx 39 2 po P.length pc (P.flatMap encP) ∧ Fr [] w3 wx)
    case first =>
      have hln : (bs.flatMap BX.cl).length = n * 4 := by rw [bx_len, ← HN.out]
      have HLN := Lib.hid hln
      clear hln
      go_region_law (first
        | (refine step_append_seg rfl _ _ 27 rfl 23 ib _ 4 32 Try.underlying27 hib hb0 hb1 hb2 rfl (by decide) (some ⟨_, 0, none⟩) 0 0 [] rfl (by first | exact Seg.one w3.heap.size #[] 23 4 0 (alloc_new w3.drew _) rfl (by unfold maxLen; omega) | exact Seg.one w3.heap.size #[] 23 4 0 (alloc_old (alloc_new w3.drew _)) rfl (by unfold maxLen; omega) | exact Seg.one (w3.heap.size + 1) #[] 23 4 0 (alloc2_new w3.drew _ _) rfl (by unfold maxLen; omega)) ⟨gb, off, none⟩ n bc (bs.flatMap BX.cl) rfl HLN.out (by first | exact (HS3.out.fr ((Fr.refl [] w3).drew.alloc _) (by simp)).news | exact (HS3.out.fr (((Fr.refl [] w3).drew.alloc _).alloc _) (by simp)).news) (cl_one' bs) (by unfold maxLen; omega) (by omega) ?_; intro o5 c5 w5 hs5 hf5 hx5; rw [Nat.zero_add, List.nil_append] at hs5; have HS5 := Lib.hid hs5; have HF5 := Lib.hid (fr_ap (by first | exact (Fr.refl [] w3).drew.alloc _ | exact ((Fr.refl [] w3).drew.alloc _).alloc _) (by first | exact Nat.le_refl _ | exact Nat.le_succ _) hf5); have HX5 := Lib.hid (ext_ap (by first | exact (Fr.refl [] w3).drew.alloc _ | exact ((Fr.refl [] w3).drew.alloc _).alloc _) (by first | exact Nat.le_refl _ | exact Nat.le_succ _) hx5); (first | (have HC5 : Hid (w5.heap[w3.heap.size + 1]? = some (.cells #[.int .i64 Y0, .int .i64 Y1, .int .i64 Y2, .int .i64 Y3] 23 (0, 0))) := Lib.hid (hf5.blk (alloc2_new w3.drew _ _) (by simp [blk]))) | (have HD5 : Hid (w5.heap[w3.heap.size]? = some (.cells #[.int .i64 Y0, .int .i64 Y1, .int .i64 Y2, .int .i64 Y3] 23 (0, 0))) := Lib.hid (hf5.blk (alloc_old (alloc_new w3.drew _)) (by simp [blk]))) | skip); obtain ⟨z0, z1, z2, z3⟩ := HYC.out w5 HF5.out; clear hs5 hf5 hx5)
        | (refine step_append_seg rfl _ _ 27 rfl 23 ib _ 4 32 Try.underlying27 hib hb0 hb1 hb2 rfl (by decide) o5 n c5 (bs.flatMap BX.cl) rfl (by first | exact HS5.out | exact HS5.out.alloc _) ⟨_, 0, none⟩ 1 1 [.int .i64 Y0, .int .i64 Y1, .int .i64 Y2, .int .i64 Y3] rfl rfl (by first | exact blk_news HC5.out | exact blk_news HD5.out | exact new_arr w5 #[.int .i64 Y0, .int .i64 Y1, .int .i64 Y2, .int .i64 Y3] _) (by simp [Value.oneCell']) (by unfold maxLen; omega) (by omega) ?_; intro o6 c6 w6 hs6 hf6 hx6; have HS6 := Lib.hid hs6; have HF6 := Lib.hid ((by first | exact HF5.out | exact HF5.out.alloc _ : Fr [] w3 _).trans hf6 (fun q hq => .inr (HX5.out q hq))); clear hs6 hf6 hx6)
        | (go_simp; go_at_call 16; refine (HPC.out w6 o6 c6 HS6.out).mono ?_; rintro e w7 ⟨po, pc, rfl, hs7, -, f7⟩; have HS7 := Lib.hid hs7; have HF7 := Lib.hid (HF6.out.trans f7 (by simp [Ext])); clear hs7 f7))
      all_goals
        go_wp2_with fail
        go_meet
        exact ⟨po, pc, rfl, HS7.out, HF7.out⟩
    case rest =>
      obtain ⟨w4, rfl⟩ : ∃ u : World, u = wc := ⟨_, rfl⟩
      obtain ⟨po, pc, rfl, hps, hf4⟩ := hcut
      have HPS := Lib.hid hps
      have HF4 := Lib.hid hf4
      have HS4 := Lib.hid (HS3.out.fr hf4 (by simp))
      have HBX4 := Lib.hid (hf4.blk HBX3.out (by simp))
      have HFW4 := Lib.hid (HFW.out.trans hf4 (by simp [Ext]))
      clear hps hf4 y0 y1 y2 y3 hby3 HPC HS3 HBX3 HFW HYC HB3 HF3
      go_wp2_with fail
      go_loopw [14] (fun iv wr => ∃ i : Nat, iv = .int .i64 (i : Int) ∧ i ≤ n ∧ Fr [] w4 wr) (fun iv _ => n - (intOf iv).toNat)
      case atStart => exact ⟨0, rfl, by omega, Fr.refl _ _⟩
      case round =>
        obtain ⟨i, rfl, hi, hf⟩ := hrel
        have HF := Lib.hid hf
        clear hf
        by_cases hin : i < n
        · have hlt : (i : Int) < (n : Int) := by omega
          have wi : IntKind.i64.wrap ((i : Int) + 1) = (i : Int) + 1 := IntWalk.i64_in _ (by omega)
          have hib2 : i < bs.length := by rw [← HN.out]; exact hin
          obtain ⟨A, hA⟩ : ∃ A, A = min i k := ⟨_, rfl⟩
          obtain ⟨B, hB⟩ : ∃ B, B = max i k := ⟨_, rfl⟩
          have m1 : min (i : Int) (k : Int) = (A : Int) := by omega
          have m2 : max (i : Int) (k : Int) = (B : Int) := by omega
          have h0 := (HPS.out.fr HF.out (by simp)).rd
          have HHX := Lib.hid (fun a b => hasp_any wr po pc P a b h0)
          have HYES := Lib.hid (fun (h : (A, B) ∈ P ∨ i = k) => (by
            rw [HP.out, HN.out]
            obtain ⟨z0, z1, z2, z3⟩ := HX.out
            obtain ⟨y0, y1, y2, y3⟩ := HY.out
            refine cont_yes bs _ hib2 hkb HOK.out (by rw [← z0]; exact y0) (by rw [← z1]; exact y1) (by rw [← z2]; exact y2) (by rw [← z3]; exact y3) ?_
            rcases h with h | h
            · left
              rw [HP.out, hA, hB] at h; exact h
            · exact .inr h : (i, n) ∈ P))
          obtain ⟨gc, off2, hbo2, c0, c1, c2, c3⟩ := (by rw [← HN.out]; exact (HS4.out.fr HF.out (by simp)).rd : Rd wr 4 (some ⟨gb, off, none⟩) bs.length (bs.flatMap BX.cl)).box hib2
          cases hbo2
          have HZO := Lib.hid (by rw [getElem!_pos bs i hib2]; exact HOK.out _ (List.getElem_mem hib2) : (bs[i]!).ok)
          have hcl : (bs[i]!) = ⟨(bs[i]!).x0, (bs[i]!).y0, (bs[i]!).x1, (bs[i]!).y1⟩ := rfl
          have HCO := Lib.hid (clamp_ov HXN.out.1 HZO.out)
          obtain ⟨Z0, hZ0⟩ : ∃ x, x = (bs[i]!).x0 := ⟨_, rfl⟩
          obtain ⟨Z1, hZ1⟩ : ∃ x, x = (bs[i]!).y0 := ⟨_, rfl⟩
          obtain ⟨Z2, hZ2⟩ : ∃ x, x = (bs[i]!).x1 := ⟨_, rfl⟩
          obtain ⟨Z3, hZ3⟩ : ∃ x, x = (bs[i]!).y1 := ⟨_, rfl⟩
          rw [← hZ0] at c0
          rw [← hZ1] at c1
          rw [← hZ2] at c2
          rw [← hZ3] at c3
          obtain ⟨px, hpx⟩ : ∃ p, clampI Z0 X0 X2 = p := ⟨_, rfl⟩
          obtain ⟨py, hpy⟩ : ∃ p, clampI Z1 X1 X3 = p := ⟨_, rfl⟩
          obtain ⟨tt, g2⟩ : ∃ t, BX.ov ⟨X0, X1, X2, X3⟩ ⟨Z0, Z1, Z2, Z3⟩ = t := ⟨_, rfl⟩
          have g1 : BX.ov ⟨px, py, px, py⟩ ⟨Z0, Z1, Z2, Z3⟩ = tt := by
            have h := HCO.out
            obtain ⟨z0, z1, z2, z3⟩ := HX.out
            have e1 : (bs[k]!) = ⟨X0, X1, X2, X3⟩ := by rw [z0, z1, z2, z3]
            have e2 : (bs[i]!) = ⟨Z0, Z1, Z2, Z3⟩ := by rw [hZ0, hZ1, hZ2, hZ3]
            rw [e1, e2] at h
            simp only at h
            rw [hpx, hpy, g2] at h
            exact h
          have HG := Lib.hid (And.intro g1 g2)
          have hbx := HF.out.blk HBX4.out (by simp)
          have HBXR := Lib.hid hbx
          have b0 : wr.cell? ⟨bx, 0, none⟩ = some (.int .i64 X0) := cell_blk hbx 0
          have b1 : wr.cell? ⟨bx, 1, none⟩ = some (.int .i64 X1) := cell_blk hbx 1
          have b2 : wr.cell? ⟨bx, 2, none⟩ = some (.int .i64 X2) := cell_blk hbx 2
          have b3 : wr.cell? ⟨bx, 3, none⟩ = some (.int .i64 X3) := cell_blk hbx 3
          have HCZ := Lib.hid (And.intro hZ0 (And.intro hZ1 (And.intro hZ2 hZ3)))
          have h3 : ((A, B) ∈ P) ∨ ((A, B) ∉ P ∧ i = k) ∨ ((A, B) ∉ P ∧ i ≠ k) := by
            by_cases q1 : (A, B) ∈ P
            · exact .inl q1
            · by_cases q2 : i = k
              · exact .inr (.inl ⟨q1, q2⟩)
              · exact .inr (.inr ⟨q1, q2⟩)
          have HPX := Lib.hid (And.intro hpx hpy)
          clear hA hB h0 hcl hZ0 hZ1 hZ2 hZ3 g1 g2 hbx hpx hpy
          rcases h3 with q1 | ⟨q1, q2⟩ | ⟨q1, q2⟩
          case' inl =>
            have d1 : decide ((A, B) ∈ P) = true := decide_eq_true q1
            have d2 : decide ((i, n) ∈ P) = true := decide_eq_true (HYES.out (.inl q1))
            clear q1
            go_upto_region 15 with (go_at_call 22; refine (HHX.out _ _).mono ?_; rintro e w' ⟨rfl, hw⟩; obtain rfl := hw.symm; clear hw)
            clear d1 d2
          case' inr.inl =>
            have d1 : decide ((A, B) ∈ P) = false := decide_eq_false q1
            have d2 : decide ((i, n) ∈ P) = true := decide_eq_true (HYES.out (.inr q2))
            have d3 : ((i : Int) == (k : Int)) = true := by simp [q2]
            clear q1 q2
            go_upto_region 15 with (go_at_call 22; refine (HHX.out _ _).mono ?_; rintro e w' ⟨rfl, hw⟩; obtain rfl := hw.symm; clear hw)
            clear d1 d2 d3
          case' inr.inr =>
            have d1 : decide ((A, B) ∈ P) = false := decide_eq_false q1
            have d3 : ((i : Int) == (k : Int)) = false := by rw [Bool.eq_false_iff]; intro h; exact q2 (by have := beq_iff_eq.1 h; omega)
            clear q1 q2
            go_upto_region 15 with (go_at_call 22; refine (HHX.out _ _).mono ?_; rintro e w' ⟨rfl, hw⟩; obtain rfl := hw.symm; clear hw)
            clear d1 d3
          all_goals
            obtain ⟨hpx, hpy⟩ := HPX.out
            refine wp_still_tail 9 (by kernel_rfl) (by kernel_rfl) ?_
            simp only [List.take_succ_cons, List.take_zero, List.drop_succ_cons, List.drop_zero]
            repeat still_step
            refine wpStill_nil ?_
            go_wp2_with (go_at_call 24; refine (clampf_any _ _ _ _).mono ?_; rintro e w' ⟨rfl, hw⟩; subst hw)
            refine wp_still_tail 9 (by kernel_rfl) (by kernel_rfl) ?_
            simp only [List.take_succ_cons, List.take_zero, List.drop_succ_cons, List.drop_zero]
            repeat still_step
            refine wpStill_nil ?_
            go_upto_region 18 with (go_at_call 24; refine (clampf_any _ _ _ _).mono ?_; rintro e w' ⟨rfl, hw⟩; subst hw)
            obtain ⟨bp, hbp⟩ : ∃ x, x = wr.heap.size := ⟨_, rfl⟩
            obtain ⟨wq, hwq⟩ : ∃ u, u = (wr.alloc (.cells #[.int .i64 px, .int .i64 py, .int .i64 px, .int .i64 py] 23)).drew.drew := ⟨_, rfl⟩
            have hbq : wq.heap[bp]? = some (.cells #[.int .i64 px, .int .i64 py, .int .i64 px, .int .i64 py] 23 (0, 0)) := by rw [hwq, hbp]; exact alloc_new wr _
            have hfq : Fr [] wr wq := by rw [hwq]; exact (((Fr.refl [] wr).alloc _).drew).drew
            rw [← hbp, ← hwq]
            have HFQ := Lib.hid hfq
            have HSV := Lib.hid (fun v (hv : Fr [] wq v) => (⟨hv, cell_blk (hv.blk hbq (by simp)) 0, cell_blk (hv.blk hbq (by simp)) 1, cell_blk (hv.blk hbq (by simp)) 2, cell_blk (hv.blk hbq (by simp)) 3, cell_blk (hv.blk (hfq.blk HBXR.out (by simp)) (by simp)) 0, cell_blk (hv.blk (hfq.blk HBXR.out (by simp)) (by simp)) 1, cell_blk (hv.blk (hfq.blk HBXR.out (by simp)) (by simp)) 2, cell_blk (hv.blk (hfq.blk HBXR.out (by simp)) (by simp)) 3, by
              obtain ⟨gd, off3, hbo3, y0, y1, y2, y3⟩ := (by rw [← HN.out]; exact (HS4.out.fr (HF.out.trans (hfq.trans hv (by simp [Ext])) (by simp [Ext])) (by simp)).rd : Rd v 4 (some ⟨gb, off, none⟩) bs.length (bs.flatMap BX.cl)).box hib2
              cases hbo3
              obtain ⟨z0, z1, z2, z3⟩ := HCZ.out
              rw [← z0] at y0
              rw [← z1] at y1
              rw [← z2] at y2
              rw [← z3] at y3
              exact ⟨y0, y1, y2, y3⟩⟩ : Fr [] wq v ∧ v.cell? ⟨bp, 0, none⟩ = some (.int .i64 px) ∧ v.cell? ⟨bp, 1, none⟩ = some (.int .i64 py) ∧ v.cell? ⟨bp, 2, none⟩ = some (.int .i64 px) ∧ v.cell? ⟨bp, 3, none⟩ = some (.int .i64 py) ∧
                v.cell? ⟨bx, 0, none⟩ = some (.int .i64 X0) ∧ v.cell? ⟨bx, 1, none⟩ = some (.int .i64 X1) ∧ v.cell? ⟨bx, 2, none⟩ = some (.int .i64 X2) ∧ v.cell? ⟨bx, 3, none⟩ = some (.int .i64 X3) ∧
                v.cell? ⟨gb, off + i * 4, none⟩ = some (.int .i64 Z0) ∧ v.cell? ⟨gb, off + i * 4 + 1, none⟩ = some (.int .i64 Z1) ∧ v.cell? ⟨gb, off + i * 4 + 2, none⟩ = some (.int .i64 Z2) ∧ v.cell? ⟨gb, off + i * 4 + 3, none⟩ = some (.int .i64 Z3)))
            have HOV := Lib.hid ov8
            have HFR0 := Lib.hid ((Fr.refl [] wq).drew)
            obtain ⟨g1, g2⟩ := HG.out
            have g3 : (tt != tt) = false := by simp
            clear hbp hwq hbq hfq hpx hpy c0 c1 c2 c3 b0 b1 b2 b3
            go_region_held3 (fun v => Fr [] wq v ∧ v.cell? ⟨bp, 0, none⟩ = some (.int .i64 px) ∧ v.cell? ⟨bp, 1, none⟩ = some (.int .i64 py) ∧ v.cell? ⟨bp, 2, none⟩ = some (.int .i64 px) ∧ v.cell? ⟨bp, 3, none⟩ = some (.int .i64 py) ∧ v.cell? ⟨bx, 0, none⟩ = some (.int .i64 X0) ∧ v.cell? ⟨bx, 1, none⟩ = some (.int .i64 X1) ∧ v.cell? ⟨bx, 2, none⟩ = some (.int .i64 X2) ∧ v.cell? ⟨bx, 3, none⟩ = some (.int .i64 X3) ∧ v.cell? ⟨gb, off + i * 4, none⟩ = some (.int .i64 Z0) ∧ v.cell? ⟨gb, off + i * 4 + 1, none⟩ = some (.int .i64 Z1) ∧ v.cell? ⟨gb, off + i * 4 + 2, none⟩ = some (.int .i64 Z2) ∧ v.cell? ⟨gb, off + i * 4 + 3, none⟩ = some (.int .i64 Z3)) (first | exact HSV.out _ HFR0.out | exact HSV.out _ FB.out | exact HSV.out _ FA.out)
              (first
              | (go_at_call 11; refine (HOV.out _ _ _ _ _ _ _ _ _).mono ?_; rintro e wB ⟨rfl, fB⟩; have FB := Lib.hid (FA.out.trans fB (by simp [Ext])); clear fB)
              | (go_at_call 11; refine (HOV.out _ _ _ _ _ _ _ _ _).mono ?_; rintro e wA ⟨rfl, fA⟩; have FA := Lib.hid (HFR0.out.trans fA (by simp [Ext])); clear fA))
            all_goals
              go_wp2_with fail
              go_roundw
              case rel => exact ⟨i + 1, by go_num, by omega, HF.out.trans (HFQ.out.trans FB.out (by simp [Ext])) (by simp [Ext])⟩
              case measure => simp [intOf]; omega
        · have hlt : ¬ (i : Int) < (n : Int) := by omega
          go_wp2_with (go_at_call 13; refine (lives04_any _).mono ?_; rintro e wl ⟨rfl, fl⟩; have HFL := Lib.hid ((HFW4.out.trans HF.out (by simp [Ext])).trans fl (by simp [Ext])); clear fl)
          go_ret
          exact ⟨rfl, HFL.out⟩
end Go.Proofs.Ytoplpmkcfgadlaa
