/- RinglogRange returns true. -/
import Derived.Test.YtchigfofcdildaaLaw24a
namespace Go.Proofs.Ytchigfofcdildaa
open Go.RowKit

theorem Own.up {W W0 w : World} {p r : Nat} {S : Sp} {n T : Int} (h : Own W0 p r S n T w) (hf : Fr [] W W0) : Own W p r S n T w := by
  obtain ⟨F, a, b, c⟩ := h
  exact ⟨F, a, hf.trans b (by simp [Ext]), fun k hk => by rcases c k hk with h | h; simp at h; exact .inr (Nat.le_trans hf.size h)⟩

/-- the cells before push m -/
def cel (m : Nat) : List Int := if m = 0 then cells6 else cells6.set 0 ((m : Int) - 1)
/-- what is seen after j pushes -/
def rangeS (k : Nat) (t : Int) (j : Nat) : Sp := { keep := k, cells := cel j, L := ((List.range j).map fun m : Nat => (t + (m : Int), cel m)).drop (j - k) }

theorem rangeS_len (k : Nat) (t : Int) (j : Nat) : (rangeS k t j).L.length = j - (j - k) := by simp [rangeS]
theorem cel_len (m : Nat) : (cel m).length = 6 := by unfold cel; split <;> simp [cells6]

theorem rangeS_get (k : Nat) (t : Int) (j i : Nat) (h : i < (rangeS k t j).L.length) : (rangeS k t j).L[i] = (t + ((j - k + i : Nat) : Int), cel (j - k + i)) := by
  simp [rangeS, List.getElem_drop]

theorem rangeS_oldest (k : Nat) (t : Int) (j : Nat) (hk : 1 ≤ k) (hj : 1 ≤ j) : (rangeS k t j).oldest = t + ((j - k : Nat) : Int) := by
  have hl := rangeS_len k t j
  rw [Sp.oldest, dif_pos (by omega), rangeS_get]; simp
theorem rangeS_newest (k : Nat) (t : Int) (j : Nat) (hk : 1 ≤ k) (hj : 1 ≤ j) : (rangeS k t j).newest = t + (j : Int) - 1 := by
  have hl := rangeS_len k t j
  rw [Sp.newest, dif_pos (by omega), rangeS_get]; simp only; omega

theorem rangeS_step (k : Nat) (t : Int) (j : Nat) (hk : 1 ≤ k) (ht : 0 ≤ t) :
    (rangeS k t j).push (t + j) = (0, { keep := k, cells := cel j, L := (rangeS k t (j + 1)).L }) := by
  have hl := rangeS_len k t j
  unfold Sp.push
  rw [if_neg (by omega), if_neg (by
    rintro ⟨h1, h2⟩
    rw [rangeS_newest k t j hk (by omega)] at h2
    omega)]
  congr 2
  have e : (rangeS k t j).L ++ [(t + (j : Int), cel j)] = ((List.range (j + 1)).map fun m : Nat => (t + (m : Int), cel m)).drop (j - k) := by
    rw [List.range_succ, List.map_append, List.drop_append_of_le_length (by simp)]; rfl
  show (if (k : Int) < ((rangeS k t j).L.length : Int) + 1 then ((rangeS k t j).L ++ [(t + (j : Int), cel j)]).drop 1 else (rangeS k t j).L ++ [(t + (j : Int), cel j)]) = _
  rw [e, hl, List.drop_drop]
  split
  · show _ = ((List.range (j + 1)).map _).drop (j + 1 - k); congr 1; omega
  · show _ = ((List.range (j + 1)).map _).drop (j + 1 - k); congr 1; omega

theorem rangeS_set (k : Nat) (t : Int) (j : Nat) : Sp.set { keep := k, cells := cel j, L := (rangeS k t (j + 1)).L } 0 j = rangeS k t (j + 1) := by
  unfold Sp.set
  rw [if_pos (by simp only [cel_len]; omega)]
  unfold rangeS
  congr 1
  unfold cel
  simp only [Nat.add_one_ne_zero, if_false]
  split <;> simp

theorem rangeS_rewind_yes (k : Nat) (t : Int) (n i : Nat) (hk : 1 ≤ k) (hi : i < n) (h : n - k ≤ i) : (rangeS k t n).rewind (t + i) = (0, { keep := k, cells := cel i, L := (rangeS k t n).L.take (i - (n - k) + 1) }) := by
  have hl := rangeS_len k t n
  unfold Sp.rewind
  rw [rangeS_oldest k t n hk (by omega), rangeS_newest k t n hk (by omega), if_neg (by omega), if_neg (by omega)]
  have e : (t + (i : Int) - (t + ((n - k : Nat) : Int))).toNat = i - (n - k) := by omega
  rw [e]
  have hg : (rangeS k t n).L.getD (i - (n - k)) (0, []) = (t + (i : Int), cel i) := by
    rw [List.getD_eq_getElem?_getD, List.getElem?_eq_getElem (by omega), rangeS_get, Option.getD_some, show n - k + (i - (n - k)) = i by omega]
  rw [hg]
  rfl
theorem rangeS_rewind_no (k : Nat) (t : Int) (n i : Nat) (hk : 1 ≤ k) (hi : i < n) (h : ¬ n - k ≤ i) : (rangeS k t n).rewind (t + i) = (24, rangeS k t n) := by
  unfold Sp.rewind
  rw [rangeS_oldest k t n hk (by omega), if_pos (by right; omega)]

theorem get_cel (k : Nat) (i : Nat) (L : List (Int × List Int)) : Sp.get { keep := k, cells := cel i, L := L } 0 = if i = 0 then 3 else (i : Int) - 1 := by
  unfold Sp.get
  rw [if_pos (by simp only [cel_len]; omega)]
  unfold cel
  split <;> simp [cells6]

theorem flag_any (b : Bool) (w : World) : Calls Try.prog 18 #[.bool b] w fun e w' => e = .returned (.int .i64 (if b then 1 else 0)) ∧ w = w' := by
  cases b
  · go_enter Try.func18, Try.ntmps18
    go_wp2
    go_ret
    exact ⟨rfl, rfl⟩
  · go_enter Try.func18, Try.ntmps18
    go_wp2
    go_ret
    exact ⟨rfl, rfl⟩

theorem rangeS_zero (k : Nat) (t : Int) : rangeS k t 0 = { keep := k, cells := cells6, L := [] } := by simp [rangeS, cel]

set_option maxRecDepth 100000 in
set_option maxHeartbeats 4000000 in
theorem range_walk (keep many first : Int) (w : World) (h1 : bounded keep) (h2 : bounded many) (h3 : bounded first) :
    Calls Try.prog 3 #[.int .i64 keep, .int .i64 many, .int .i64 first] w fun e w' => e = .returned (.bool true) ∧ Below w.heap.size w w' := by
  obtain ⟨k, hk⟩ := Int.eq_ofNat_of_zero_le (show 0 ≤ 1 + around keep 13 by have := around_lt keep (m := 13) (by omega); omega)
  obtain ⟨n, hn⟩ := Int.eq_ofNat_of_zero_le (around_lt many (m := 30) (by omega)).1
  obtain ⟨t, ht⟩ : ∃ t, t = around first 1000 := ⟨_, rfl⟩
  have bt := around_lt first (m := 1000) (by omega)
  have bk := around_lt keep (m := 13) (by omega)
  have bn := around_lt many (m := 30) (by omega)
  rw [← ht] at bt
  have k1 : 1 ≤ k := by omega
  have k2 : k ≤ 13 := by omega
  have n1 : n < 30 := by omega
  obtain ⟨t1, t2⟩ := bt
  have HK := Lib.hid fun w => (hk ▸ keeps_any keep w h1.1 h1.2 : Calls Try.prog 9 #[.int .i64 keep] w fun e w' => e = .returned (.int .i64 k) ∧ w = w')
  have HN := Lib.hid fun w => (hn ▸ around_any many 30 w h2.1 h2.2 (by omega) (by omega) : Calls Try.prog 10 #[.int .i64 many, .int .i64 30] w fun e w' => e = .returned (.int .i64 n) ∧ w = w')
  have HT := Lib.hid fun w => (ht ▸ around_any first 1000 w h3.1 h3.2 (by omega) (by omega) : Calls Try.prog 10 #[.int .i64 first, .int .i64 1000] w fun e w' => e = .returned (.int .i64 t) ∧ w = w')
  clear hk hn ht bk bn h1 h2 h3
  go_enter Try.func3, Try.ntmps3
  go_wp2_with fail
  refine (HK.out _).mono ?_
  rintro e w1 ⟨rfl, rfl⟩
  go_wp2_with fail
  refine (HN.out _).mono ?_
  rintro e w1 ⟨rfl, rfl⟩
  go_wp2_with fail
  refine (HT.out _).mono ?_
  rintro e w1 ⟨rfl, rfl⟩
  go_wp2_with fail
  go_loopw [10] (fun i wr => ∃ i' : Nat, i' ≤ n ∧ i = .int .i64 i' ∧ Fr [] w wr) (fun i _ => n - (intOf i).toNat)
  case atStart => exact ⟨0, Nat.zero_le _, rfl, Fr.refl _ _⟩
  case round =>
    obtain ⟨i, hi, rfl, hf0⟩ := hrel
    obtain ⟨wo, rfl⟩ : ∃ wo : World, wo = wr := ⟨_, rfl⟩
    by_cases hin : i < n
    · go_wp2_with fail
      refine (made_any wo k (by omega) (by omega)).mono ?_
      rintro e w2 ⟨p, r, rfl, o2⟩
      have o2' := (o2.up hf0).mono (Int.le_refl _) (show (-1 : Int) ≤ 2000 by omega)
      rw [← rangeS_zero k t] at o2'
      clear o2
      go_wp2_with fail
      go_loopw [13] (fun j wr => ∃ j' : Nat, j' ≤ n ∧ j = .int .i64 j' ∧ Own w p r (rangeS k t j') j' (2000 + j') wr) (fun j _ => n - (intOf j).toNat)
      case atStart => exact ⟨0, Nat.zero_le _, rfl, by simpa using o2'⟩
      case round =>
        obtain ⟨j, hj, rfl, oj⟩ := hrel
        by_cases hjn : j < n
        · go_wp2_with fail
          refine (own_push' oj (t + j) (by omega) (by omega) (fun _ => by omega) (rangeS_step k t j k1 t1)).mono ?_
          rintro e w3 ⟨rfl, o3⟩
          go_wp2_with fail
          refine (own_set' o3 0 j (by omega) (rangeS_set k t j)).mono ?_
          rintro e w4 ⟨rfl, o4⟩
          go_wp2_with fail
          go_roundw
          case rel => exact ⟨j + 1, by omega, by go_num, by have := o4.mono (n' := ((j + 1 : Nat) : Int)) (T' := 2000 + ((j + 1 : Nat) : Int)) (by omega) (by omega); exact this⟩
          case measure => simp [intOf]; omega
        · obtain rfl : j = n := by omega
          go_wp2_with fail
          by_cases hjk : j ≤ k
          · have hm : ¬ (0 : Int) < (j : Int) - (k : Int) := by omega
            by_cases hik : (j : Int) - (k : Int) ≤ (i : Int)
            · have hd : decide ((j : Int) - (k : Int) ≤ (i : Int)) = true := decide_eq_true hik
              refine (own_oldest' oj (x := t) (by rw [rangeS_oldest k t j k1 (by omega)]; omega)).mono ?_
              rintro e w3 ⟨rfl, o3⟩
              go_wp2_with fail
              refine (own_newest' o3 (rangeS_newest k t j k1 (by omega))).mono ?_
              rintro e w4 ⟨rfl, o4⟩
              go_wp2_with fail
              refine (own_rewind' o4 (t + i) (by omega) (rangeS_rewind_yes k t j i k1 hin (by omega))).mono ?_
              rintro e w5 ⟨rfl, o5⟩
              go_wp2_with fail
              rcases (show i ≤ 0 ∨ i = 1 ∨ 1 < i by omega) with hi0 | hi0 | hi0
              · have hl : ¬ (0 : Int) < (i : Int) - 1 := by omega
                have hz : ((i : Int) == 0) = true := beq_iff_eq.2 (by omega)
                refine (own_get' o5 0 (x := 3) (by rw [get_cel]; split <;> omega)).mono ?_
                rintro e w6 ⟨rfl, o6⟩
                go_wp2_with fail
                refine (flag_any true _).mono ?_
                rintro e w7 ⟨rfl, rfl⟩
                go_wp2_with fail
                go_roundw
                case rel => exact ⟨i + 1, by omega, by go_num, o6.frame⟩
                case measure => simp [intOf]; omega
              · have hl : ¬ (0 : Int) < (i : Int) - 1 := by omega
                have hz : ((i : Int) == 0) = false := beq_eq_false_iff_ne.2 (by omega)
                have hl2 : ¬ (i : Int) - 1 < 0 := by omega
                have hl3 : (i : Int) - 1 = 0 := by omega
                have HI0 := Lib.hid hi0
                clear hi0
                refine (own_get' o5 0 (x := 0) (by rw [get_cel]; split <;> omega)).mono ?_
                rintro e w6 ⟨rfl, o6⟩
                go_wp2_with fail
                refine (flag_any false _).mono ?_
                rintro e w7 ⟨rfl, rfl⟩
                go_wp2_with fail
                go_roundw
                case rel => exact ⟨i + 1, by omega, by go_num, o6.frame⟩
                case measure => simp [intOf]; omega
              · have hl : (0 : Int) < (i : Int) - 1 := by omega
                have hz : ((i : Int) == 0) = false := beq_eq_false_iff_ne.2 (by omega)
                refine (own_get' o5 0 (x := (i : Int) - 1) (by rw [get_cel]; split <;> omega)).mono ?_
                rintro e w6 ⟨rfl, o6⟩
                go_wp2_with fail
                refine (flag_any false _).mono ?_
                rintro e w7 ⟨rfl, rfl⟩
                go_wp2_with fail
                go_roundw
                case rel => exact ⟨i + 1, by omega, by go_num, o6.frame⟩
                case measure => simp [intOf]; omega
            · have hd : decide ((j : Int) - (k : Int) ≤ (i : Int)) = false := decide_eq_false hik
              refine (own_oldest' oj (x := t) (by rw [rangeS_oldest k t j k1 (by omega)]; omega)).mono ?_
              rintro e w3 ⟨rfl, o3⟩
              go_wp2_with fail
              refine (own_newest' o3 (rangeS_newest k t j k1 (by omega))).mono ?_
              rintro e w4 ⟨rfl, o4⟩
              go_wp2_with fail
              refine (own_rewind' o4 (t + i) (by omega) (rangeS_rewind_no k t j i k1 hin (by omega))).mono ?_
              rintro e w5 ⟨rfl, o5⟩
              go_wp2_with fail
              go_roundw
              case rel => exact ⟨i + 1, by omega, by go_num, o5.frame⟩
              case measure => simp [intOf]; omega
          · have hm : (0 : Int) < (j : Int) - (k : Int) := by omega
            by_cases hik : (j : Int) - (k : Int) ≤ (i : Int)
            · have hd : decide ((j : Int) - (k : Int) ≤ (i : Int)) = true := decide_eq_true hik
              refine (own_oldest' oj (x := t + ((j : Int) - (k : Int))) (by rw [rangeS_oldest k t j k1 (by omega)]; omega)).mono ?_
              rintro e w3 ⟨rfl, o3⟩
              go_wp2_with fail
              refine (own_newest' o3 (rangeS_newest k t j k1 (by omega))).mono ?_
              rintro e w4 ⟨rfl, o4⟩
              go_wp2_with fail
              refine (own_rewind' o4 (t + i) (by omega) (rangeS_rewind_yes k t j i k1 hin (by omega))).mono ?_
              rintro e w5 ⟨rfl, o5⟩
              go_wp2_with fail
              rcases (show i ≤ 0 ∨ i = 1 ∨ 1 < i by omega) with hi0 | hi0 | hi0
              · exfalso; omega
              · have hl : ¬ (0 : Int) < (i : Int) - 1 := by omega
                have hz : ((i : Int) == 0) = false := beq_eq_false_iff_ne.2 (by omega)
                have hl2 : ¬ (i : Int) - 1 < 0 := by omega
                have hl3 : (i : Int) - 1 = 0 := by omega
                have HI0 := Lib.hid hi0
                clear hi0
                refine (own_get' o5 0 (x := 0) (by rw [get_cel]; split <;> omega)).mono ?_
                rintro e w6 ⟨rfl, o6⟩
                go_wp2_with fail
                refine (flag_any false _).mono ?_
                rintro e w7 ⟨rfl, rfl⟩
                go_wp2_with fail
                go_roundw
                case rel => exact ⟨i + 1, by omega, by go_num, o6.frame⟩
                case measure => simp [intOf]; omega
              · have hl : (0 : Int) < (i : Int) - 1 := by omega
                have hz : ((i : Int) == 0) = false := beq_eq_false_iff_ne.2 (by omega)
                refine (own_get' o5 0 (x := (i : Int) - 1) (by rw [get_cel]; split <;> omega)).mono ?_
                rintro e w6 ⟨rfl, o6⟩
                go_wp2_with fail
                refine (flag_any false _).mono ?_
                rintro e w7 ⟨rfl, rfl⟩
                go_wp2_with fail
                go_roundw
                case rel => exact ⟨i + 1, by omega, by go_num, o6.frame⟩
                case measure => simp [intOf]; omega
            · have hd : decide ((j : Int) - (k : Int) ≤ (i : Int)) = false := decide_eq_false hik
              refine (own_oldest' oj (x := t + ((j : Int) - (k : Int))) (by rw [rangeS_oldest k t j k1 (by omega)]; omega)).mono ?_
              rintro e w3 ⟨rfl, o3⟩
              go_wp2_with fail
              refine (own_newest' o3 (rangeS_newest k t j k1 (by omega))).mono ?_
              rintro e w4 ⟨rfl, o4⟩
              go_wp2_with fail
              refine (own_rewind' o4 (t + i) (by omega) (rangeS_rewind_no k t j i k1 hin (by omega))).mono ?_
              rintro e w5 ⟨rfl, o5⟩
              go_wp2_with fail
              go_roundw
              case rel => exact ⟨i + 1, by omega, by go_num, o5.frame⟩
              case measure => simp [intOf]; omega
    · go_wp2_with fail
      refine (lives_any _).mono ?_
      rintro e w9 ⟨rfl, f9⟩
      go_wp2_with fail
      go_ret
      exact ⟨rfl, (hf0.trans f9 (by simp [Ext])).nil⟩
end Go.Proofs.Ytchigfofcdildaa
