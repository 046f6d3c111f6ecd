/- Package broadphase: the reference's Pairs and Same. -/
import Derived.ChangeKeysEq
import Derived.Test.YtoplpmkcfgadlaaBroadO
namespace Go.Proofs.Ytoplpmkcfgadlaa
open Go.RowKit

theorem ne_pair (u : World) (a b c d : Int) : (binOp .neq 39 (.agg #[.int .i64 a, .int .i64 b]) (.agg #[.int .i64 c, .int .i64 d])).run Try.prog u = .ok (.bool (!((a == c) && (b == d)))) u := by
  obtain ⟨i, hi, h0, h1, h2⟩ := info_parts infoInt
  have hc : Try.prog.cellsOf 3 = 1 := by kernel_rfl
  rw [run_neq_struct, run_equalIn_array u _ _ _ Try.underlying39 hi, hc]
  have hr : List.range 2 = [0, 1] := rfl
  rw [hr]
  cases h1 : (a == c) <;> cases h2 : (b == d) <;> simp [Op.eqItems, part, run_equalIn_int u _ _ _ _ _ _ Try.underlying3, h1, h2]

theorem Rd.pr {w : World} {ao : Option Addr} {l : List (Nat × Nat)} (h : Rd w 2 ao l.length (l.flatMap encP)) {i : Nat} (hi : i < l.length) : ∃ g off, ao = some ⟨g, off, none⟩ ∧ g < w.heap.size ∧
    w.cell? ⟨g, off + i * 2, none⟩ = some (.int .i64 (l[i].1 : Int)) ∧ w.cell? ⟨g, off + i * 2 + 1, none⟩ = some (.int .i64 (l[i].2 : Int)) := by
  obtain ⟨g, off, ha, hg, hc⟩ := h.at (by omega)
  have key : ∀ j, j < 2 → w.cell? ⟨g, off + i * 2 + j, none⟩ = (encP l[i])[j]? := fun j hj => by
    rw [Nat.add_assoc, hc _ (by omega), flat_get encP 2 (fun _ => rfl) (by omega) l _ (by omega), show (i * 2 + j) / 2 = i by omega, show (i * 2 + j) % 2 = j by omega]
    rw [show l.toArray[i]! = l[i] by simp [hi], List.getElem?_eq_getElem (by simpa [encP] using hj), getElem!_pos _ j (by simpa [encP] using hj)]
  exact ⟨g, off, ha, hg, key 0 (by omega), key 1 (by omega)⟩
theorem ret_boolB {a b : Bool} (h : a = b) : Ending.returned (Value.bool a) = Ending.returned (Value.bool b) := by rw [h]

set_option maxRecDepth 100000 in
set_option maxHeartbeats 2000000 in
theorem samep_any (w : World) (ao bo : Option Addr) (ca cb : Nat) (a b : List (Nat × Nat)) (ha : Rd w 2 ao a.length (a.flatMap encP)) (hb : Rd w 2 bo b.length (b.flatMap encP)) :
    Calls Try.prog 15 #[.slice ao a.length ca, .slice bo b.length cb] w fun e w' => e = .returned (.bool (decide (a = b))) ∧ Fr [] w w' := by
  have hl1 : a.length ≤ 9223372036854775807 := by have := ha.2.1; unfold maxLen at this; omega
  have hl2 : b.length ≤ 9223372036854775807 := by have := hb.2.1; unfold maxLen at this; omega
  have HA := Lib.hid ha
  have HB := Lib.hid hb
  clear ha hb
  by_cases hl : a.length = b.length
  · have hne : ((a.length : Int) != (b.length : Int)) = false := by rw [hl]; simp
    have HL := Lib.hid hl
    clear hl
    go_enter Try.func15, Try.ntmps15
    go_wp2_with fail
    go_loopw [5] (fun i wr => ∃ k : Nat, k ≤ a.length ∧ i = .int .i64 k ∧ a.take k = b.take k ∧ Fr [] w wr) (fun i _ => a.length - (intOf i).toNat)
    case atStart => exact ⟨0, Nat.zero_le _, rfl, rfl, Fr.refl _ _⟩
    case round =>
      obtain ⟨k, hk, rfl, ht, hf⟩ := hrel
      have HT := Lib.hid ht
      have HF := Lib.hid hf
      by_cases hkn : k < a.length
      · have hkb : k < b.length := by have := HL.out; omega
        obtain ⟨g, off, rfl, g1, c1, c2⟩ := (HA.out.fr hf (by simp)).pr hkn
        obtain ⟨g2, off2, rfl, g3, c3, c4⟩ := (HB.out.fr hf (by simp)).pr hkb
        obtain ⟨x1, hx1⟩ : ∃ x : Int, x = (a[k].1 : Int) := ⟨_, rfl⟩
        obtain ⟨x2, hx2⟩ : ∃ x : Int, x = (a[k].2 : Int) := ⟨_, rfl⟩
        obtain ⟨y1, hy1⟩ : ∃ x : Int, x = (b[k].1 : Int) := ⟨_, rfl⟩
        obtain ⟨y2, hy2⟩ : ∃ x : Int, x = (b[k].2 : Int) := ⟨_, rfl⟩
        rw [← hx1] at c1
        rw [← hx2] at c2
        rw [← hy1] at c3
        rw [← hy2] at c4
        have HX1 := Lib.hid hx1
        have HX2 := Lib.hid hx2
        have HY1 := Lib.hid hy1
        have HY2 := Lib.hid hy2
        have hki : (k : Int) < (a.length : Int) := by omega
        have hkj : (k : Int) < (b.length : Int) := by omega
        have wk : IntKind.i64.wrap ((k : Int) + 1) = (k : Int) + 1 := IntWalk.i64_in _ (by omega)
        clear ht hf hx1 hx2 hy1 hy2
        by_cases hxy : x1 = y1 ∧ x2 = y2
        · have hb : ∀ u, (binOp .neq 39 (.agg #[.int .i64 x1, .int .i64 x2]) (.agg #[.int .i64 y1, .int .i64 y2])).run Try.prog u = .ok (.bool false) u := fun u => by rw [ne_pair]; simp [hxy.1, hxy.2]
          have HXY := Lib.hid hxy
          clear hxy
          go_wp2_with fail
          go_quiet (fail)
          go_wp2_with fail
          go_roundw
          case rel =>
            have e : a[k] = b[k] := Prod.ext (by have h := HXY.out.1; rw [HX1.out, HY1.out] at h; omega) (by have h := HXY.out.2; rw [HX2.out, HY2.out] at h; omega)
            exact ⟨k + 1, by omega, by go_num, by rw [List.take_succ_eq_append_getElem hkn, List.take_succ_eq_append_getElem hkb, HT.out, e], HF.out.trans ((Fr.refl [] _).drewN _) (by simp [Ext])⟩
          case measure => simp [intOf]; omega
        · have hb : ∀ u, (binOp .neq 39 (.agg #[.int .i64 x1, .int .i64 x2]) (.agg #[.int .i64 y1, .int .i64 y2])).run Try.prog u = .ok (.bool true) u := fun u => by
            rw [ne_pair]
            have : ((x1 == y1) && (x2 == y2)) = false := by
              rw [Bool.eq_false_iff]
              intro h
              simp only [Bool.and_eq_true, beq_iff_eq] at h
              exact hxy h
            rw [this]; rfl
          have HXY := Lib.hid hxy
          clear hxy
          go_wp2_with fail
          go_quiet (fail)
          go_wp2_with fail
          go_ret
          exact ⟨ret_boolB (by
            symm
            refine decide_eq_false fun h => HXY.out ?_
            rw [HX1.out, HX2.out, HY1.out, HY2.out]
            simp only [h]
            constructor <;> trivial), HF.out.trans ((Fr.refl [] _).drewN _) (by simp [Ext])⟩
      · have hke : k = a.length := by omega
        have hab : a = b := by
          have := HT.out
          rw [hke, List.take_of_length_le (Nat.le_refl _), HL.out, List.take_of_length_le (Nat.le_refl _)] at this
          exact this
        have HAB := Lib.hid hab
        clear ht hf hke hab
        go_wp2_with fail
        go_ret
        exact ⟨ret_boolB (decide_eq_true HAB.out).symm, HF.out⟩
  · have hne : ((a.length : Int) != (b.length : Int)) = true := bne_iff_ne.2 (by omega)
    have HL := Lib.hid hl
    clear hl
    go_enter Try.func15, Try.ntmps15
    go_wp2_with fail
    go_ret
    exact ⟨ret_boolB (decide_eq_false fun h => HL.out (by rw [h])).symm, Fr.refl _ _⟩

set_option maxRecDepth 100000 in
set_option maxHeartbeats 4000000 in
theorem rpairs_any (w : World) (bo : Option Addr) (bc : Nat) (bs : List BX) (hrd : Rd w 4 bo bs.length (bs.flatMap BX.cl)) (hl : bs.length ≤ 100) (hok : ∀ b ∈ bs, b.ok) :
    Calls Try.prog 17 #[.slice bo bs.length bc] w (PairsTo w bs) := by
  obtain ⟨ip, hip, hp0, hp1, hp2⟩ := info_parts infoPair
  have HRD := Lib.hid hrd
  have HOK := Lib.hid hok
  clear hrd hok
  go_enter Try.func17, Try.ntmps17
  go_wp2_with fail
  go_loopw [3, 4] (fun pv iv wr => ∃ (i : Nat) (po : Option Addr) (pc : Nat), (pv = .slice po (upB bs i).length pc ∧ iv = .int .i64 (i : Int)) ∧ i ≤ bs.length ∧ Seg wr 39 2 po (upB bs i).length pc ((upB bs i).flatMap encP) ∧ (∀ q ∈ blk po, w.heap.size ≤ q) ∧ Fr [] w wr) (fun _ iv _ => bs.length - (intOf iv).toNat)
  case atStart => exact ⟨0, none, 0, ⟨rfl, rfl⟩, by omega, Seg.nil _ _ _, by simp [blk], Fr.refl _ _⟩
  case round =>
    obtain ⟨i, po, pc, ⟨rfl, rfl⟩, hi, hs, hn, hf⟩ := hrel
    have HS := Lib.hid hs
    have HN := Lib.hid hn
    have HF := Lib.hid hf
    clear hs hn hf
    by_cases hil : i < bs.length
    · have hlt : (i : Int) < (bs.length : Int) := by omega
      have wi : IntKind.i64.wrap ((i : Int) + 1) = (i : Int) + 1 := IntWalk.i64_in _ (by omega)
      go_wp2_with fail
      go_loopw [3, 5] (fun pv kv wr => ∃ (k : Nat) (po : Option Addr) (pc : Nat), (pv = .slice po (upB bs i ++ rowB bs i k).length pc ∧ kv = .int .i64 (k : Int)) ∧ i < k ∧ k ≤ bs.length ∧ Seg wr 39 2 po (upB bs i ++ rowB bs i k).length pc ((upB bs i ++ rowB bs i k).flatMap encP) ∧ (∀ q ∈ blk po, w.heap.size ≤ q) ∧ Fr [] w wr) (fun _ kv _ => bs.length - (intOf kv).toNat)
      case atStart => exact ⟨i + 1, po, pc, ⟨by rw [rowB_zero, List.append_nil], by go_num⟩, by omega, by omega, by rw [rowB_zero, List.append_nil]; exact HS.out, HN.out, HF.out⟩
      case round =>
        clear HS HN HF
        obtain ⟨k, po, pc, ⟨rfl, rfl⟩, hik, hk, hs, hn, hf⟩ := hrel
        obtain ⟨P2, hP2⟩ : ∃ P, P = upB bs i ++ rowB bs i k := ⟨_, rfl⟩
        rw [← hP2] at hs ⊢
        have hpl : P2.length ≤ 10000 := by
          have h1 := upB_len bs i
          have h2 := rowB_len bs i k
          have h3 : (i + 1) * bs.length ≤ 100 * 100 := Nat.mul_le_mul (by omega) hl
          rw [Nat.add_mul, Nat.one_mul] at h3
          rw [hP2, List.length_append]; omega
        have HP2 := Lib.hid hP2
        have HS := Lib.hid hs
        have HN := Lib.hid hn
        have HF := Lib.hid hf
        clear hP2 hs hn hf
        by_cases hkl : k < bs.length
        · have hlt2 : (k : Int) < (bs.length : Int) := by omega
          have wk : IntKind.i64.wrap ((k : Int) + 1) = (k : Int) + 1 := IntWalk.i64_in _ (by omega)
          obtain ⟨g, off, hbo, b0, b1, b2, b3⟩ := (HRD.out.fr HF.out (by simp)).box hil
          obtain ⟨g2, off2, hbo2, d0, d1, d2, d3⟩ := (HRD.out.fr HF.out (by simp)).box hkl
          rw [hbo] at hbo2
          cases hbo2
          obtain ⟨X, hX⟩ : ∃ X, X = bs[i]! := ⟨_, rfl⟩
          obtain ⟨Y, hY⟩ : ∃ Y, Y = bs[k]! := ⟨_, rfl⟩
          rw [← hX] at b0 b1 b2 b3
          rw [← hY] at d0 d1 d2 d3
          have HSU := Lib.hid (by rw [rowB_succ bs i k hik, ← List.append_assoc, ← HP2.out, ← hX, ← hY] : upB bs i ++ rowB bs i (k + 1) = P2 ++ if X.ov Y then [(i, k)] else [])
          have HXO := Lib.hid (by rw [hX, getElem!_pos bs i hil]; exact HOK.out _ (List.getElem_mem hil) : X.ok)
          have HYO := Lib.hid (by rw [hY, getElem!_pos bs k hkl]; exact HOK.out _ (List.getElem_mem hkl) : Y.ok)
          have HOV := Lib.hid (fun u => rov_any u X Y HXO.out HYO.out)
          have HBO := Lib.hid hbo
          obtain ⟨t, ht⟩ : ∃ t, t = X.ov Y := ⟨_, rfl⟩
          rw [← ht] at HSU HOV
          clear hX hY ht
          subst hbo
          go_upto_region 8 with fail
          refine wp_still_tail 8 (by kernel_rfl) (by kernel_rfl) ?_
          simp only [List.take_succ_cons, List.take_zero, List.drop_succ_cons, List.drop_zero]
          repeat still_step
          refine wpStill_nil ?_
          go_wp2_with fail
          refine (HOV.out _).mono ?_
          rintro e w5 ⟨rfl, f5⟩
          have HF5 := Lib.hid (((Fr.refl [] wr).drewN 1).trans f5 (by simp [Ext]))
          have HS5 := Lib.hid (HS.out.fr HF5.out (by simp))
          clear f5 b0 b1 b2 b3 d0 d1 d2 d3 HOV
          cases t with
          | false =>
            go_wp2_with fail
            go_roundw
            case rel =>
              have hs := HSU.out
              simp only [Bool.false_eq_true, if_false, List.append_nil] at hs
              exact ⟨k + 1, po, pc, ⟨by rw [hs], by go_num⟩, by omega, by omega, by rw [hs]; exact HS5.out, HN.out, HF.out.trans HF5.out (by simp [Ext])⟩
            case measure => simp [intOf]; omega
          | true =>
            go_wp2_with (at_builtin; refine wpList_append_seg rfl _ _ 31 rfl 39 ip _ 2 16 Try.underlying31 hip hp0 hp1 hp2 rfl (by decide) po P2.length pc (P2.flatMap encP) rfl (HS5.out.alloc _) ⟨w5.heap.size, 0, none⟩ 1 1 [.int .i64 (i : Int), .int .i64 (k : Int)] rfl rfl (new_arr w5 #[.int .i64 (i : Int), .int .i64 (k : Int)] _) (by simp [Value.oneCell']) (by unfold maxLen; omega) (by omega) ?_; intro o9 c9 w9 hs9 hf9 hx9; have HS9 := Lib.hid hs9; have HF9 := Lib.hid (((Fr.refl (blk po) w5).alloc _).trans hf9 (Ext.refl _ _)); have HX9 := Lib.hid (fun q (hq : q ∈ blk o9) => (hx9 q hq).imp id (fun h => Nat.le_trans ((Fr.refl ([] : List Nat) w5).alloc _).size h) : ∀ q ∈ blk o9, q ∈ blk po ∨ w5.heap.size ≤ q); clear hs9 hf9 hx9)
            go_roundw
            case rel =>
              have hs := HSU.out
              simp only [if_true] at hs
              refine ⟨k + 1, o9, c9, ⟨by rw [hs, List.length_append]; rfl, by go_num⟩, by omega, by omega, by rw [hs, List.length_append, List.flatMap_append]; exact HS9.out, fun q hq => ?_, (HF.out.trans HF5.out (by simp [Ext])).trans HF9.out (fun q hq => .inr (HN.out q hq))⟩
              rcases HX9.out q hq with h | h
              · exact HN.out q h
              · have := HF.out.size; have := HF5.out.size; omega
            case measure => simp [intOf]; omega
        · have hlt2 : ¬ (k : Int) < (bs.length : Int) := by omega
          have hke : k = bs.length := by omega
          have HE := Lib.hid (by rw [upB_succ, ← hke, ← HP2.out] : upB bs (i + 1) = P2)
          clear hke
          go_wp2_with fail
          go_roundw
          case rel => exact ⟨i + 1, po, pc, ⟨by rw [HE.out], by go_num⟩, by omega, by rw [HE.out]; exact HS.out, HN.out, HF.out⟩
          case measure => simp [intOf]; omega
    · have hlt : ¬ (i : Int) < (bs.length : Int) := by omega
      have hie : i = bs.length := by omega
      have HP := Lib.hid (by rw [hie]; rfl : upB bs i = pairsB bs)
      obtain ⟨P2, hP2⟩ : ∃ P, P = upB bs i := ⟨_, rfl⟩
      rw [← hP2] at HS HP ⊢
      clear hie hP2
      go_wp2_with fail
      go_ret
      exact ⟨po, pc, by rw [← HP.out]; rfl, by rw [← HP.out]; exact HS.out, HN.out, HF.out⟩
end Go.Proofs.Ytoplpmkcfgadlaa
