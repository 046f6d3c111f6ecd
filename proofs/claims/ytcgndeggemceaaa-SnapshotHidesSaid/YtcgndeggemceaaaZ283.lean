/- Lives12, Vis2, IsqP, Bits, Shelf28, Isq, Round, Vec (merged by merge.py). -/
import Derived.Test.YtcgndeggemceaaaZ282
import Derived.Deep.QuietTactic
import Derived.BigQuiet
import Derived.Deep.CutBlock
import Derived.Deep.DeepCutAuto
import Derived.Lib.BitFns
import Derived.Lib.ItoaNum
import Derived.Laws.Bits64b
import Derived.IntWalk
import Derived.Shelf.Small.Bits
import Derived.Ground.NamesProg
import Derived.Test.YtcgndeggemceaaaProg
import Derived.Test.YtcgndeggemceaaaZ281
import Derived.WalkMore
import Derived.Deep.LoopGhost
import Derived.StillTailTactics
import Derived.OrdersIn
import Derived.RangeFuncCalls
import Derived.Test.YtcgndeggemceaaaZ280
import Derived.Deep.RegionHeld3
/- Chapter 12: shape.Validate on a circle; lives. -/
namespace Go.Proofs.Ytcgndeggemceaaa
open Go.RowKit


theorem infoSetup : (Try.prog.info? 49).map (·.size) = some 16 := by kernel_rfl

def lvD : Bd := ⟨5, none, 0, 0, 0, 0, 0, 0, 0, 0, 0⟩
def lvS (b : Nat) : St := ⟨1, some ⟨b, 0, none⟩, 1, 1, 0, 0, 0, 0, none, 0, 0, none, 0, 0, 0, 0, 0, 0, 0, 0, 1, 0⟩

theorem lv_valid (b : Nat) : validB (lvS b) [lvD] [0] [] [] = 0 := by
  unfold validB numsB n1 n2 n3 n4 n5 n6 n7 n8 properB mapB bodyB d1 d2 d3 d4 d5 inB lvS lvD
  simp
theorem lv_size (b : Nat) : szOf (lvS b) = 60 := by simp [szOf, lvS]
theorem lv_player (b : Nat) : plOf (lvS b) 0 = 48 := by simp [plOf, lvS]
theorem lv_body (b : Nat) : bdOf (lvS b) 0 = 52 := by simp [bdOf, lvS]
theorem lv_field : fieldOf { data := #[118, 120] } = 2 := by rfl
theorem lv_ok (b : Nat) : (lvS b).Ok := ⟨by simp only [lvS]; omega, by simp only [lvS]; omega, by simp only [lvS]; omega, by simp only [lvS]; omega⟩


end Go.Proofs.Ytcgndeggemceaaa
/- Package visibility: Rooms; the reference's Rooms. -/
namespace Go.Proofs.Ytcgndeggemceaaa
open Go.RowKit


theorem visOk_acc {rooms : List Bx} {doors : List (Int × Int)} {r : Int} {V : Nat} (h : VisOk rooms doors r V) (h8 : rooms.length ≤ 8) : accL (fun k => V.testBit k) rooms.length = roomsVis rooms doors r := by
  unfold roomsVis
  split
  · exact accL_false fun k hk => by rw [h.2 k (by omega), decide_eq_false (by omega), Bool.false_and]
  · exact accL_congr fun k hk => by rw [h.2 k (by omega), decide_eq_true (by omega), Bool.true_and]


end Go.Proofs.Ytcgndeggemceaaa
/- The integer square root, plain: the program's digits, the reference's bisection. -/
namespace Go.Proofs.Ytcgndeggemceaaa
open Go

/-- r is the root of n, rounded down -/
def IsRoot (n r : Nat) : Prop := r * r ≤ n ∧ n < (r + 1) * (r + 1)
theorem sq_lt_of {a b : Nat} (h : a * a < b * b) : a < b := Decidable.byContradiction fun hn => by
  have := Nat.mul_le_mul (Nat.le_of_not_lt hn) (Nat.le_of_not_lt hn); omega
theorem IsRoot.uniq {n r s : Nat} (hr : IsRoot n r) (hs : IsRoot n s) : r = s := by
  have h1 := sq_lt_of (Nat.lt_of_le_of_lt hr.1 hs.2)
  have h2 := sq_lt_of (Nat.lt_of_le_of_lt hs.1 hr.2)
  omega
theorem IsRoot.le_iff {n r : Nat} (h : IsRoot n r) (f : Nat) : r ≤ f ↔ n < (f + 1) * (f + 1) := by
  constructor
  · intro hf
    exact Nat.lt_of_lt_of_le h.2 (Nat.mul_le_mul (by omega) (by omega))
  · intro hf
    have := sq_lt_of (Nat.lt_of_le_of_lt h.1 hf)
    omega

/-- a place of the digits' loop: a multiple of the unit below which the root is not yet known -/
def Digit (n r k : Nat) : Prop := ∃ m, r = m * 2 ^ k ∧ r * r ≤ n ∧ n < (r + 2 ^ k) * (r + 2 ^ k)
theorem Digit.root {n r : Nat} (h : Digit n r 0) : IsRoot n r := by obtain ⟨m, _, h1, h2⟩ := h; exact ⟨h1, by simpa using h2⟩
theorem Digit.start {n k : Nat} (h : n < 2 ^ k * 2 ^ k) : Digit n 0 k := ⟨0, by simp, by omega, by simpa using h⟩
theorem Digit.or {n r k : Nat} (h : Digit n r (k + 1)) : r ||| 2 ^ k = r + 2 ^ k := by
  obtain ⟨m, rfl, _, _⟩ := h
  have := Nat.two_pow_add_eq_or_of_lt (Nat.pow_lt_pow_right (by omega) (by omega) : 2 ^ k < 2 ^ (k + 1)) m
  rw [Nat.mul_comm m]; exact this.symm
theorem Digit.no {n r k : Nat} (h : Digit n r (k + 1)) (hg : n / (r + 2 ^ k) < r + 2 ^ k) : Digit n r k := by
  obtain ⟨m, hm, h1, _⟩ := h
  refine ⟨2 * m, by rw [hm, Nat.pow_succ]; rw [Nat.mul_comm (2 ^ k) 2, ← Nat.mul_assoc, Nat.mul_comm m 2], h1, ?_⟩
  exact (Nat.div_lt_iff_lt_mul (by have := Nat.two_pow_pos k; omega)).1 hg
theorem Digit.yes {n r k : Nat} (h : Digit n r (k + 1)) (hg : r + 2 ^ k ≤ n / (r + 2 ^ k)) : Digit n (r + 2 ^ k) k := by
  obtain ⟨m, hm, _, h2⟩ := h
  refine ⟨2 * m + 1, by rw [Nat.add_mul, Nat.one_mul, hm, Nat.pow_succ, Nat.mul_comm (2 ^ k) 2, ← Nat.mul_assoc, Nat.mul_comm m 2], ?_, ?_⟩
  · exact (Nat.le_div_iff_mul_le (by have := Nat.two_pow_pos k; omega)).1 hg
  · have e : r + 2 ^ k + 2 ^ k = r + 2 ^ (k + 1) := by rw [Nat.pow_succ]; omega
    rw [e]; exact h2
theorem Digit.no' {n r k N : Nat} (h : Digit n r (k + 1)) (hN : N = r + 2 ^ k) (hg : n / N < N) : Digit n r k := by subst hN; exact h.no hg
theorem Digit.yes' {n r k N : Nat} (h : Digit n r (k + 1)) (hN : N = r + 2 ^ k) (hg : N ≤ n / N) : Digit n N k := by subst hN; exact h.yes hg
theorem Digit.small {n r k : Nat} (h : Digit n r k) (hn : n < 4611686018427387904) : r < 2147483648 := by
  obtain ⟨_, _, h1, _⟩ := h
  exact sq_lt_of (by omega)
theorem bitLen_up (x : Nat) (h : x < 2 ^ 64) : x < 2 ^ Lib.bitLen x := by
  by_cases e : x = 0
  · subst e; exact Nat.two_pow_pos _
  · exact (Lib.bitLenAux_bounds 64 x h e).2.2
theorem Digit.first (n : Nat) (h : n < 2 ^ 64) : Digit n 0 ((Lib.bitLen n + 1) / 2) := by
  refine Digit.start (Nat.lt_of_lt_of_le (bitLen_up n h) ?_)
  rw [← Nat.pow_add]
  exact Nat.pow_le_pow_right (by omega) (by omega)

/-- a place of the bisection -/
def Bis (n lo hi : Nat) : Prop := lo < hi ∧ lo * lo ≤ n ∧ n < hi * hi
theorem Bis.start {n : Nat} (h : n < 4611686018427387904) : Bis n 0 2147483649 := ⟨by omega, by omega, by omega⟩
theorem Bis.root {n lo hi : Nat} (h : Bis n lo hi) (e : hi ≤ lo + 1) : IsRoot n lo := by
  obtain ⟨h0, h1, h2⟩ := h
  have : hi = lo + 1 := by omega
  subst this
  exact ⟨h1, h2⟩
end Go.Proofs.Ytcgndeggemceaaa
/- Bits of small numbers, as the walk meets them. -/
namespace Go.Proofs.Ytcgndeggemceaaa
open Go

theorem or_low (a b i : Nat) (h : b < 2 ^ i) : a * 2 ^ i ||| b = a * 2 ^ i + b := by rw [Nat.mul_comm]; exact (Nat.two_pow_add_eq_or_of_lt h a).symm

theorem bits_or_u32 (a b : Nat) (ha : a < 4294967296) (hb : b < 4294967296) : bits .or .u32 (a : Int) (b : Int) = ((a ||| b : Nat) : Int) := by
  have hx : a ||| b < 2 ^ 32 := Nat.or_lt_two_pow (by omega) (by omega)
  have h1 : (BitVec.ofInt 32 (a : Int)).toNat = a := by rw [BitVec.ofInt_natCast, BitVec.toNat_ofNat]; exact Nat.mod_eq_of_lt (by omega)
  have h2 : (BitVec.ofInt 32 (b : Int)).toNat = b := by rw [BitVec.ofInt_natCast, BitVec.toNat_ofNat]; exact Nat.mod_eq_of_lt (by omega)
  show IntKind.u32.wrap ((BitVec.ofInt 32 (a : Int) ||| BitVec.ofInt 32 (b : Int)).toNat : Int) = _
  rw [BitVec.toNat_or, h1, h2]
  exact IntWalk.u32_in _ (by omega)

theorem bits_or_u8 (a b : Nat) (ha : a < 256) (hb : b < 256) : bits .or .u8 (a : Int) (b : Int) = ((a ||| b : Nat) : Int) := by
  have hx : a ||| b < 2 ^ 8 := Nat.or_lt_two_pow (by omega) (by omega)
  have h1 : (BitVec.ofInt 8 (a : Int)).toNat = a := by rw [BitVec.ofInt_natCast, BitVec.toNat_ofNat]; exact Nat.mod_eq_of_lt (by omega)
  have h2 : (BitVec.ofInt 8 (b : Int)).toNat = b := by rw [BitVec.ofInt_natCast, BitVec.toNat_ofNat]; exact Nat.mod_eq_of_lt (by omega)
  show IntKind.u8.wrap ((BitVec.ofInt 8 (a : Int) ||| BitVec.ofInt 8 (b : Int)).toNat : Int) = _
  rw [BitVec.toNat_or, h1, h2]
  exact IntWalk.u8_in _ (by omega)

theorem bits_and_u8 (a b : Nat) (ha : a < 256) (hb : b < 256) : bits .and .u8 (a : Int) (b : Int) = ((a &&& b : Nat) : Int) := by
  have hx : a &&& b < 2 ^ 8 := Nat.and_lt_two_pow _ (by omega)
  have h1 : (BitVec.ofInt 8 (a : Int)).toNat = a := by rw [BitVec.ofInt_natCast, BitVec.toNat_ofNat]; exact Nat.mod_eq_of_lt (by omega)
  have h2 : (BitVec.ofInt 8 (b : Int)).toNat = b := by rw [BitVec.ofInt_natCast, BitVec.toNat_ofNat]; exact Nat.mod_eq_of_lt (by omega)
  show IntKind.u8.wrap ((BitVec.ofInt 8 (a : Int) &&& BitVec.ofInt 8 (b : Int)).toNat : Int) = _
  rw [BitVec.toNat_and, h1, h2]
  exact IntWalk.u8_in _ (by omega)

theorem bits_or_i64 (a b : Nat) (ha : a < 9223372036854775808) (hb : b < 9223372036854775808) : bits .or .i64 (a : Int) (b : Int) = ((a ||| b : Nat) : Int) := by
  have hx : a ||| b < 2 ^ 63 := Nat.or_lt_two_pow (by omega) (by omega)
  have h1 : (BitVec.ofInt 64 (a : Int)).toNat = a := by rw [BitVec.ofInt_natCast, BitVec.toNat_ofNat]; exact Nat.mod_eq_of_lt (by omega)
  have h2 : (BitVec.ofInt 64 (b : Int)).toNat = b := by rw [BitVec.ofInt_natCast, BitVec.toNat_ofNat]; exact Nat.mod_eq_of_lt (by omega)
  show IntKind.i64.wrap ((BitVec.ofInt 64 (a : Int) ||| BitVec.ofInt 64 (b : Int)).toNat : Int) = _
  rw [BitVec.toNat_or, h1, h2]
  exact IntWalk.i64_in _ (by omega)

theorem bits_and_i64 (a b : Nat) (ha : a < 9223372036854775808) (hb : b < 9223372036854775808) : bits .and .i64 (a : Int) (b : Int) = ((a &&& b : Nat) : Int) := by
  have hx : a &&& b < 2 ^ 63 := Nat.and_lt_two_pow _ (by omega)
  have h1 : (BitVec.ofInt 64 (a : Int)).toNat = a := by rw [BitVec.ofInt_natCast, BitVec.toNat_ofNat]; exact Nat.mod_eq_of_lt (by omega)
  have h2 : (BitVec.ofInt 64 (b : Int)).toNat = b := by rw [BitVec.ofInt_natCast, BitVec.toNat_ofNat]; exact Nat.mod_eq_of_lt (by omega)
  show IntKind.i64.wrap ((BitVec.ofInt 64 (a : Int) &&& BitVec.ofInt 64 (b : Int)).toNat : Int) = _
  rw [BitVec.toNat_and, h1, h2]
  exact IntWalk.i64_in _ (by omega)

end Go.Proofs.Ytcgndeggemceaaa
/- The library's contracts laid at this program, in plain words (written by the kit's lay-plain). -/
namespace Go.Proofs.Ytcgndeggemceaaa
open Go.Shelf
def lenE_ren : Go.Shelf.Ren := ⟨fun | 125 => 72 | 128 => 73 | 129 => 74 | n => n, fun | 46 => 99 | 3 => 3 | 51 => 115 | 53 => 68 | 4 => 4 | 5 => 5 | 9 => 9 | n => n, fun | n => n⟩
theorem lenE : Go.Proofs.Lays.n125 Try.prog lenE_ren := {
  mixed := by kernel_rfl
  f125 := Try.func72.trans (congrArg some (by kernel_rfl))
  f128 := Try.func73.trans (congrArg some (by kernel_rfl))
  f129 := Try.func74.trans (congrArg some (by kernel_rfl))
  t3 := Try.underlying3
  a3 := Try.isAgg3
  z3 := Try.sizeOf3
  v3 := Try.zeroValue3
  t4 := Try.underlying4
  a4 := Try.isAgg4
  z4 := Try.sizeOf4
  v4 := Try.zeroValue4
  t5 := Try.underlying5
  a5 := Try.isAgg5
  z5 := Try.sizeOf5
  v5 := Try.zeroValue5
  t9 := Try.underlying9
  a9 := Try.isAgg9
  z9 := Try.sizeOf9
  v9 := Try.zeroValue9
  t46 := Try.underlying99
  a46 := Try.isAgg99
  z46 := Try.sizeOf99
  v46 := Try.zeroValue99
  t51 := Try.underlying115
  a51 := Try.isAgg115
  z51 := Try.sizeOf115
  v51 := Try.zeroValue115
  t53 := Try.underlying68
  a53 := Try.isAgg68
  z53 := Try.sizeOf68
  v53 := Try.zeroValue68 }
end Go.Proofs.Ytcgndeggemceaaa
/- The integer square root: the program's and the reference's return the root, rounded down. -/
namespace Go.Proofs.Ytcgndeggemceaaa
open Go.RowKit Go.Shelf

theorem len_any (x : Int) (w : World) (h0 : 0 ≤ x) (h1 : x ≤ 18446744073709551615) :
    Calls Try.prog 72 #[.int .u64 x] w fun e w' => e = .returned (.int .i64 (Lib.bitLen x.toNat)) ∧ w = w' :=
  (Any.bits_Len lenE x w h0 h1).mono fun _ _ ⟨a, b⟩ => ⟨a, b.symm⟩

/-- what a root's function leaves -/
def RootAt (n : Nat) (w : World) (e : Ending) (w' : World) : Prop := ∃ r : Nat, e = .returned (.int .i64 r) ∧ IsRoot n r ∧ r < 2147483648 ∧ w = w'

theorem IsRoot.small {n r : Nat} (h : IsRoot n r) (hn : n < 4611686018427387904) : r < 2147483648 := by
  have := h.1; exact sq_lt_of (by omega)

theorem w64_in (n : Int) (h0 : -9223372036854775808 ≤ n) (h1 : n ≤ 9223372036854775807) : wrap64 n = n := by unfold wrap64; omega

set_option maxRecDepth 100000 in
set_option maxHeartbeats 4000000 in
theorem rsqrt_any (n : Nat) (w : World) (hn : n < 4611686018427387904) : Calls Try.prog 71 #[.int .i64 n] w (RootAt n w) := by
  go_enter Try.func71, Try.ntmps71
  go_wp2
  go_loop [3, 4] (fun lv hv => ∃ lo hi : Nat, hi ≤ 2147483649 ∧ lv = .int .i64 lo ∧ hv = .int .i64 hi ∧ Bis n lo hi) (fun lv hv => (intOf hv - intOf lv).toNat)
  case atStart => exact ⟨0, 2147483649, by omega, rfl, rfl, Bis.start hn⟩
  case round =>
    obtain ⟨lo, hi, hb, rfl, rfl, hB⟩ := hrel
    have hl := hB.1
    have HB := Lib.hid hB
    clear hB
    by_cases hc : lo + 1 < hi
    · obtain ⟨m, hm⟩ : ∃ m : Nat, m = lo + (hi - lo) / 2 := ⟨_, rfl⟩
      have hmi : (lo : Int) + ((hi : Int) - (lo : Int)) / 2 = (m : Int) := by omega
      have h2 : lo < m := by omega
      have h3 : m < hi := by omega
      have hB := HB.out
      have hq0 : 0 ≤ (m : Int) * (m : Int) := Int.mul_nonneg (by omega) (by omega)
      have hq1 : (m : Int) * (m : Int) ≤ 4611686018427387904 := Int.le_trans (Int.mul_le_mul (by omega : (m : Int) ≤ 2147483648) (by omega : (m : Int) ≤ 2147483648) (by omega) (by omega)) (by omega)
      clear hB
      have HM := Lib.hid hm
      clear hm
      have HMI := Lib.hid hmi
      clear hmi
      by_cases hs : m * m ≤ n
      · have HS := Lib.hid (⟨h3, hs, HB.out.2.2⟩ : Bis n m hi)
        have hsi : (m : Int) * (m : Int) ≤ (n : Int) := by exact_mod_cast hs
        clear hs
        have hmi := HMI.out
        go_wp2
        go_round
        case rel => exact ⟨m, hi, hb, rfl, rfl, HS.out⟩
        case measure => simp [intOf]; omega
      · have HS := Lib.hid (⟨h2, HB.out.2.1, by omega⟩ : Bis n lo m)
        have hsi : (n : Int) < (m : Int) * (m : Int) := by have : n < m * m := by omega
                                                           exact_mod_cast this
        clear hs
        have hmi := HMI.out
        go_wp2
        go_round
        case rel => exact ⟨lo, m, by omega, rfl, rfl, HS.out⟩
        case measure => simp [intOf]; omega
    · have HR := Lib.hid (HB.out.root (by omega))
      go_wp2
      go_ret
      exact ⟨lo, rfl, HR.out, HR.out.small hn, rfl⟩

set_option maxRecDepth 100000 in
set_option maxHeartbeats 4000000 in
theorem sqrt_any (n : Nat) (w : World) (hn : n < 4611686018427387904) : Calls Try.prog 68 #[.int .i64 n] w (RootAt n w) := by
  by_cases h0 : n = 0
  · subst h0
    go_enter Try.func68, Try.ntmps68
    go_wp2
    go_step3
    go_wp2_with fail
    rw [Exit.noGoto_ret]
    go_ret
    exact ⟨0, rfl, ⟨by omega, by omega⟩, by omega, rfl⟩
  · obtain ⟨L, hL⟩ : ∃ L, L = Lib.bitLen n := ⟨_, rfl⟩
    have hL2 : L ≤ 62 := by rw [hL]; exact Lib.bitLen_le n 62 (by omega) (by omega)
    have HF := Lib.hid (by rw [hL]; exact Digit.first n (by omega) : Digit n 0 ((L + 1) / 2))
    have HL := Lib.hid hL
    clear hL
    have hp : 0 < n := by omega
    have hpi : 0 < (n : Int) := by omega
    clear h0
    go_enter Try.func68, Try.ntmps68
    go_wp2_with fail
    go_step3
    go_wp2_with fail
    go_step3
    go_wp2_with (go_at_call 72; refine (len_any _ _ (by omega) (by omega)).mono ?_; rintro e w' ⟨rfl, rfl⟩; rw [Int.toNat_natCast, ← HL.out])
    go_loop [3, 4] (fun rv kv => ∃ r k : Nat, k ≤ 31 ∧ rv = .int .i64 r ∧ kv = .int .i64 ((k : Int) - 1) ∧ Digit n r k) (fun _ kv => (intOf kv + 1).toNat)
    case atStart => exact ⟨0, (L + 1) / 2, by omega, rfl, rfl, HF.out⟩
    case round =>
      obtain ⟨r, k, hk, rfl, rfl, hD⟩ := hrel
      have hr := hD.small hn
      have HD := Lib.hid hD
      clear hD
      cases k with
      | zero =>
        have HR := Lib.hid HD.out.root
        go_wp2
        try rw [Exit.noGoto_ret]
        go_ret
        exact ⟨r, rfl, HR.out, hr, rfl⟩
      | succ j =>
        have hkj : ((j + 1 : Nat) : Int) - 1 = (j : Int) := by omega
        rw [hkj]
        clear hkj
        have hj2 : 2 ^ j ≤ 2 ^ 30 := Nat.pow_le_pow_right (by omega) (by omega)
        have hj1 : 0 < 2 ^ j := Nat.two_pow_pos j
        obtain ⟨N, hN⟩ : ∃ N, N = r + 2 ^ j := ⟨_, rfl⟩
        have hN0 : 0 < N := by omega
        have hN1 : N ≤ 4294967296 := by omega
        have hNi : ¬ (N : Int) = 0 := by omega
        obtain ⟨Q, hQ⟩ : ∃ Q, Q = n / N := ⟨_, rfl⟩
        have hQn : Q ≤ n := by rw [hQ]; exact Nat.div_le_self _ _
        have hw : wrap64 (2 ^ j : Int) = ((2 ^ j : Nat) : Int) := by
          rw [show ((2 : Int) ^ j) = ((2 ^ j : Nat) : Int) by rw [Int.natCast_pow]; rfl]
          exact w64_in _ (by omega) (by omega)
        have hb : bits .or .i64 (r : Int) (wrap64 (2 ^ j)) = (N : Int) := by
          rw [hw, bits_or_i64 r (2 ^ j) (by omega) (by omega), HD.out.or, hN]
        have hq : wrap64 ((n : Int) / (N : Int)) = (Q : Int) := by
          rw [show ((n : Int) / (N : Int)) = ((n / N : Nat) : Int) from (Int.natCast_ediv n N).symm, ← hQ]
          exact w64_in _ (by omega) (by omega)
        by_cases hlt : Q < N
        · have HS := Lib.hid (HD.out.no' hN (by rw [hQ] at hlt; exact hlt))
          have hlti : (Q : Int) < (N : Int) := Int.ofNat_lt.2 hlt
          clear hj2 hj1 hw hN hQ
          go_wp2
          go_round
          case rel => exact ⟨r, j, by omega, rfl, rfl, HS.out⟩
          case measure => simp [intOf]
        · have hge : N ≤ Q := Nat.le_of_not_lt hlt
          have HS := Lib.hid (HD.out.yes' hN (by rw [hQ] at hge; exact hge))
          have hlti : (N : Int) ≤ (Q : Int) := Int.ofNat_le.2 hge
          clear hj2 hj1 hw hN hQ hlt hge
          go_wp2
          go_round
          case rel => exact ⟨N, j, by omega, rfl, rfl, HS.out⟩
          case measure => simp [intOf]
end Go.Proofs.Ytcgndeggemceaaa
/- A region that draws its order, inside a round of a range over a function: it may be walked as anywhere (a region that holds no defer statement). -/
namespace Go.Proofs.Ytcgndeggemceaaa
open Go.RowKit

def noDefer (ops : Array Oper) : Bool := ops.all fun o => match o.op with | .defer _ => false | .call { callee := .builtin _, .. } => true | .call _ => false | .go _ => false | _ => true

theorem noDefer_spec {ops : Array Oper} (h : noDefer ops = true) {i : Nat} {o : Oper} (ho : ops[i]? = some o) : ∀ c, o.op ≠ .defer c := by
  intro c hc
  have h1 := Array.all_eq_true.1 h i (Array.getElem?_eq_some_iff.1 ho).1
  rw [(Array.getElem?_eq_some_iff.1 ho).2, hc] at h1
  cases h1

def onlyNormal (Q : Exit → Act → World → Prop) : Exit → Act → World → Prop := fun e a w => e = .normal ∧ Q .normal a w

theorem opsIn_of_ops {l n : Nat} {P : Program} {ops : Array Oper} {Q : Exit → Act → World → Prop} (hd : noDefer ops = true) (L : List Nat) :
    ∀ (a : Act) (w : World), wpOps P ops (onlyNormal Q) L a w → wpOpsIn (Fence.wide.inRound l) n P ops Q L a w := by
  induction L with
  | nil => intro a w h; exact h.2
  | cons i rest ih =>
    intro a w h
    simp only [wpOps] at h
    simp only [wpOpsIn]
    cases ho : ops[i]? with
    | none => simp only [ho] at h ⊢; exact ih a w h
    | some o =>
      simp only [ho] at h ⊢
      by_cases hw : Region.wanted o (yielded ops a.tmps) = true
      · simp only [hw, if_true] at h ⊢
        rcases h with h | ⟨_, a₀, w₀, hq⟩
        case inr => exact absurd hq.1 (by intro e; cases e)
        refine ⟨fun _ _ => trivial, ?_⟩
        rw [Fence.inRound_round, Oper.semAt_some l a.eval o (noDefer_spec hd ho)]
        unfold Oper.wp at h
        generalize (execOp a.eval o).run P w = r at h ⊢
        cases r with
        | ok x w' =>
          cases x <;> simp only [Oper.upon, Oper.uponIn] at h ⊢
          case value v => exact ih _ _ h
          case skip => exact ih _ _ h
          case defer d => exact ih _ _ h
          case enter f args =>
            refine ⟨fun he => by simp [Fence.wide, Fence.inRound] at he, CallsIn.inRound l ((callsIn_wide.2 h).mono fun e w'' he => ?_)⟩
            cases e with
            | returned v => exact ih _ _ he
            | panicked chain => exact absurd he.1 (by intro e; cases e)
            | outgrown => obtain ⟨a₀, w₀, hq⟩ := he; exact absurd hq.1 (by intro e; cases e)
          case row rw' args =>
            refine ⟨fun he => by simp [Fence.wide, Fence.inRound] at he, fun c cs _ => ?_⟩
            obtain ⟨v, w'', hv, hs⟩ := h c cs
            exact ⟨v, w'', ih _ _ hv, stepsIn_wide.2 hs⟩
        | halt x w' => cases x <;> simp only [Oper.upon, Oper.uponIn] at h ⊢ <;> exact absurd h.1 (by intro e; cases e)
      · simp only [hw, if_false, Bool.false_eq_true] at h ⊢
        exact ⟨fun _ _ => trivial, ih _ _ h⟩

theorem wpAny_still_tail {P : Program} {Q : Exit → Act → World → Prop} {a : Act} {w : World} {l : List Oper} (n : Nat) (hB : Region.lexTailB .any l.toArray n = true)
    (h : wpStill P l.toArray w (fun a' => wpList P l.toArray Q (l.drop n) a' w) (l.take n) a) : wpAny P .any l.toArray Q l.toArray.size (Array.replicate l.toArray.size false) a w := by
  simp only [Region.lexTailB, Bool.and_eq_true, decide_eq_true_eq] at hB
  obtain ⟨⟨⟨⟨hsel, hn⟩, hs⟩, hc⟩, hlex⟩ := hB
  have hn' : n < l.length := by simpa using hn
  have htl : (l.take n).length = n := by simp; omega
  have hdl : (l.drop n).length = l.toArray.size - n := by simp
  have inv0 : HeadInv .any l.toArray n (Array.replicate l.toArray.size false) :=
    ⟨by simp, fun j oj _ hl => (by rw [getD_replicate_false] at hl; cases hl), fun t _ ht => getD_in (by simpa using ht) (getD_replicate_false _ _)⟩
  have H := wpAnyL_lex (md := .any) (g := l.toArray.size - n) hsel hs hc hn (l.take n) 0 _ a (fun j hj => by
    have hj' : j < n := by rw [htl] at hj; exact hj
    simp [hj']) (by simpa using htl) inv0 (by rw [htl]; exact hlex) h
  have := wpAny_of_head (Q' := Q) (g := l.toArray.size - n) (fun listed a' hL => by
    have := wpAny_of_seq (md := .any) (Q' := Q) (l.drop n) n listed a' w (fun j => by simp [List.getElem?_drop]) (by rw [hdl]; exact hL.1) hL.2
    rwa [hdl] at this) _ _ _ H
  rw [htl, show n + (l.toArray.size - n) = l.toArray.size by omega] at this
  exact this

theorem wpIn_round_still_tail {l n : Nat} {P : Program} {id : Nat} {L : List Oper} {Q : Exit → Act → World → Prop} {a : Act} {w : World} (k : Nat) (hm : P.follows .mixedOrders = true) (hd : noDefer L.toArray = true) (hB : Region.lexTailB .any L.toArray k = true)
    (h : wpStill P L.toArray w.drew (fun a' => wpList P L.toArray (onlyNormal Q) (L.drop k) a' w.drew) (L.take k) a) :
    (Code.region id L.toArray true).wpIn (Fence.wide.inRound l) n P Q a w :=
  wpIn_region_draw fun t => by
    simp only [Region.schedule, hm, Bool.true_or, if_true]
    exact opsIn_of_ops hd _ _ _ (wpAny_sound _ t _ a _ (wpAny_still_tail k hB h))
theorem wp_still_tail {P : Program} {id : Nat} {L : List Oper} {Q : Exit → Act → World → Prop} {a : Act} {w : World} (k : Nat) (hm : P.follows .mixedOrders = true) (hB : Region.lexTailB .any L.toArray k = true)
    (h : wpStill P L.toArray w.drew (fun a' => wpList P L.toArray Q (L.drop k) a' w.drew) (L.take k) a) : (Code.region id L.toArray true).wp P Q a w :=
  wp_region_still_tail k hm hB h
/-! ### calls of functions that only draw, inside a quiet region (behind no other one; behind one) -/
theorem quiet1 {P : Program} {f : FuncId} {args : Array Value} {w : World} {n : Nat} {v : Value} (h : Calls P f args (w.drewN n) fun e w' => e = .returned v ∧ w.drewN n = w') :
    Calls P f args (w.drewN n) fun e w' => e = .returned v ∧ ∃ m, w' = w.drewN m := h.mono fun _ _ ⟨he, hw⟩ => ⟨he, n, hw.symm⟩
theorem quiet1d {P : Program} {f : FuncId} {args : Array Value} {w : World} {n : Nat} {v : Value} (h : Calls P f args (w.drewN n) fun e w' => e = .returned v ∧ ∃ m, w' = (w.drewN n).drewN m) :
    Calls P f args (w.drewN n) fun e w' => e = .returned v ∧ ∃ m, w' = w.drewN m := h.mono fun _ _ ⟨he, m, hw⟩ => ⟨he, n + m, by rw [hw, World.drewN_drewN]⟩
theorem quiet2 {P : Program} {f : FuncId} {args : Array Value} {w : World} {a n : Nat} {v : Value} (h : Calls P f args (w.drewN (a + n)) fun e w' => e = .returned v ∧ w.drewN (a + n) = w') :
    Calls P f args (w.drewN (a + n)) fun e w' => e = .returned v ∧ ∃ m, w' = w.drewN (a + m) := h.mono fun _ _ ⟨he, hw⟩ => ⟨he, n, hw.symm⟩
theorem quiet2d {P : Program} {f : FuncId} {args : Array Value} {w : World} {a n : Nat} {v : Value} (h : Calls P f args (w.drewN (a + n)) fun e w' => e = .returned v ∧ ∃ m, w' = (w.drewN (a + n)).drewN m) :
    Calls P f args (w.drewN (a + n)) fun e w' => e = .returned v ∧ ∃ m, w' = w.drewN (a + m) := h.mono fun _ _ ⟨he, m, hw⟩ => ⟨he, n + m, by rw [hw, World.drewN_drewN, Nat.add_assoc]⟩
end Go.Proofs.Ytcgndeggemceaaa
/- Package vec: Sub, Len; the reference's. -/
namespace Go.Proofs.Ytcgndeggemceaaa
open Go.RowKit

/-- a pair of coordinates -/
def V2 (x y : Int) : Value := .agg #[.int .i64 x, .int .i64 y]
def inC (x : Int) : Prop := -1048576 ≤ x ∧ x ≤ 1048576
def inD (x : Int) : Prop := -2097152 ≤ x ∧ x ≤ 2097152

/-- a root's function that made memory -/
def RootFr (n : Nat) (w : World) (e : Ending) (w' : World) : Prop := ∃ r : Nat, e = .returned (.int .i64 r) ∧ IsRoot n r ∧ r < 2147483648 ∧ Fr [] w w'
theorem mul_self_nn (x : Int) : 0 ≤ x * x := by
  rcases Int.le_total 0 x with h | h
  · exact Int.mul_nonneg h h
  · have := Int.mul_nonneg (show 0 ≤ -x by omega) (show 0 ≤ -x by omega); rwa [Int.neg_mul_neg] at this

set_option maxRecDepth 100000 in
set_option maxHeartbeats 1000000 in
theorem minus_any (w : World) (x y : Int) (hx : inC x) (hy : inC y) :
    Calls Try.prog 70 #[.int .i64 x, .int .i64 y] w fun e w' => e = .returned (.int .i64 (x - y)) ∧ w = w' := by
  obtain ⟨x0, x1⟩ := hx
  obtain ⟨y0, y1⟩ := hy
  go_enter Try.func70, Try.ntmps70
  go_wp2_with fail
  go_ret
  exact ⟨rfl, rfl⟩

set_option maxRecDepth 100000 in
set_option maxHeartbeats 4000000 in
theorem combine_any (w : World) (x y x2 y2 : Int) (hx : inC x) (hy : inC y) (hx2 : inC x2) (hy2 : inC y2) :
    Calls Try.prog 69 #[.agg #[.int .i64 x, .int .i64 y], .agg #[.int .i64 x2, .int .i64 y2], .func (.func 70) #[] #[]] w
      fun e w' => e = .returned (.agg #[.int .i64 (x - x2), .int .i64 (y - y2)]) ∧ Fr [] w w' := by
  go_enter Try.func69, Try.ntmps69
  go_upto_region 1 with (fail)
  have HA := Lib.hid fun u => (minus_any u x x2 hx hx2).mono fun _ _ h => (⟨h.1, h.2.symm⟩ : _ ∧ _ = u)
  have HB := Lib.hid fun u => (minus_any u y y2 hy hy2).mono fun _ _ h => (⟨h.1, h.2.symm⟩ : _ ∧ _ = u)
  refine wp_still_tail 13 (by kernel_rfl) (by kernel_rfl) ?_
  simp only [List.take_succ_cons, List.take_zero]
  repeat still_step
  still_call (HA.out _)
  repeat still_step
  still_call (HB.out _)
  repeat still_step
  refine wpStill_nil ?_
  go_wp2_with fail
  refine bodyPost_ret (v := .agg #[.int .i64 (x - x2), .int .i64 (y - y2)]) (by simp [results, Try.results69, go_sem]) rfl ⟨rfl, ?_⟩
  exact (((Fr.refl [] w).alloc _).alloc _).alloc _ |>.drew

set_option maxRecDepth 100000 in
set_option maxHeartbeats 4000000 in
theorem sub_any (w : World) (x y x2 y2 : Int) (hx : inC x) (hy : inC y) (hx2 : inC x2) (hy2 : inC y2) :
    Calls Try.prog 62 #[.agg #[.int .i64 x, .int .i64 y], .agg #[.int .i64 x2, .int .i64 y2]] w
      fun e w' => e = .returned (.agg #[.int .i64 (x - x2), .int .i64 (y - y2)]) ∧ Fr [] w w' := by
  have HC := Lib.hid fun u => combine_any u x y x2 y2 hx hy hx2 hy2
  go_enter Try.func62, Try.ntmps62
  go_upto_region 1 with (fail)
  obtain ⟨b, hb⟩ : ∃ b, b = w.heap.size + 1 + 1 := ⟨_, rfl⟩
  obtain ⟨wb, hwb⟩ : ∃ wb, wb = ((w.alloc (.cells #[.int .i64 x, .int .i64 y] 47)).alloc (.cells #[.int .i64 x2, .int .i64 y2] 47)).alloc (.cells #[.int .i64 0, .int .i64 0] 47) := ⟨_, rfl⟩
  have HB := Lib.hid (by rw [hwb, hb]; exact (show w.heap.size + 1 + 1 = ((w.alloc (.cells #[.int .i64 x, .int .i64 y] 47)).alloc (.cells #[.int .i64 x2, .int .i64 y2] 47)).heap.size by simp) ▸ alloc_new _ _ : wb.heap[b]? = some (.cells #[.int .i64 0, .int .i64 0] 47 (0, 0)))
  have HWB := Lib.hid (by rw [hwb]; exact (((Fr.refl [] w).alloc _).alloc _).alloc _ : Fr [] w wb)
  have hbw : w.heap.size ≤ b := by omega
  have HBE := Lib.hid hb
  have HWE := Lib.hid hwb
  clear hb hwb
  go_wp2_with (first | (go_at_call 69; refine (HC.out _).mono ?_; rintro e w1 ⟨rfl, hf1⟩; rw [← HWE.out] at hf1; rw [← HBE.out]; have HB1 := Lib.hid (hf1.blk HB.out (by simp)); have HF1 := Lib.hid hf1; clear hf1) | (refine wpList_storeB rfl 47 (Operand.tmp 4) (Operand.tmp 7) rfl b 2 #[.int .i64 (x - x2), .int .i64 (y - y2)] rfl rfl #[.int .i64 0, .int .i64 0] 47 HB1.out rfl rfl (by kernel_rfl) (by simp [Value.oneCell']) ?_; intro w5 hb5 hf5; have HB5 := Lib.hid hb5; have HF5 := Lib.hid hf5; clear hb5 hf5))
  have t0 := cell_blk HB5.out 0
  have t1 := cell_blk HB5.out 1
  refine bodyPost_ret (v := .agg #[.int .i64 (x - x2), .int .i64 (y - y2)]) (by simp [results, Try.results62, go_sem, t0, t1]) rfl ⟨rfl, ?_⟩
  exact (HWB.out.trans HF1.out (by simp [Ext])).trans HF5.out (by simp [Ext]; omega)

theorem dd_bound {x y : Int} (hx : inC x) (hy : inC y) : inD (x - y) := by unfold inC at hx hy; unfold inD; omega
theorem sq_bound {x : Int} (h : inD x) : 0 ≤ x * x ∧ x * x ≤ 4398046511104 := by
  obtain ⟨h0, h1⟩ := h
  constructor
  · exact mul_self_nn x
  · rcases Int.le_total 0 x with h | h
    · exact Int.le_trans (Int.mul_le_mul h1 h1 h (by omega)) (by omega)
    · have : x * x = (-x) * (-x) := by rw [Int.neg_mul_neg]
      rw [this]
      exact Int.le_trans (Int.mul_le_mul (by omega : -x ≤ 2097152) (by omega : -x ≤ 2097152) (by omega) (by omega)) (by omega)

set_option maxRecDepth 100000 in
set_option maxHeartbeats 4000000 in
theorem vlen_any (w : World) (x y : Int) (hx : inD x) (hy : inD y) :
    Calls Try.prog 61 #[.agg #[.int .i64 x, .int .i64 y]] w fun e w' => RootFr (x * x + y * y).toNat w e w' := by
  obtain ⟨a0, a1⟩ := sq_bound hx
  obtain ⟨b0, b1⟩ := sq_bound hy
  obtain ⟨n, hn⟩ : ∃ n, n = (x * x + y * y).toNat := ⟨_, rfl⟩
  have hn2 : n < 4611686018427387904 := by omega
  have HN := Lib.hid hn
  have HNI := Lib.hid (by omega : x * x + y * y = (n : Int))
  have HQ := Lib.hid fun u => sqrt_any n u hn2
  rw [← hn]
  clear hn hx hy
  go_enter Try.func61, Try.ntmps61
  go_wp2_with (go_at_call 68; rw [HNI.out]; refine (HQ.out _).mono ?_; rintro e w1 ⟨r, rfl, hr, hrs, rfl⟩; have HR := Lib.hid hr; clear hr)
  go_ret
  exact ⟨r, rfl, HR.out, hrs, (Fr.refl [] w).alloc _⟩

set_option maxRecDepth 100000 in
set_option maxHeartbeats 4000000 in
theorem rlen_any (w : World) (x y : Int) (hx : inD x) (hy : inD y) :
    Calls Try.prog 65 #[.agg #[.int .i64 x, .int .i64 y]] w fun e w' => RootFr (x * x + y * y).toNat w e w' := by
  obtain ⟨a0, a1⟩ := sq_bound hx
  obtain ⟨b0, b1⟩ := sq_bound hy
  obtain ⟨n, hn⟩ : ∃ n, n = (x * x + y * y).toNat := ⟨_, rfl⟩
  have hn2 : n < 4611686018427387904 := by omega
  have HN := Lib.hid hn
  have HNI := Lib.hid (by omega : x * x + y * y = (n : Int))
  have HQ := Lib.hid fun u => rsqrt_any n u hn2
  rw [← hn]
  clear hn hx hy
  go_enter Try.func65, Try.ntmps65
  go_wp2_with (go_at_call 71; rw [HNI.out]; refine (HQ.out _).mono ?_; rintro e w1 ⟨r, rfl, hr, hrs, rfl⟩; have HR := Lib.hid hr; clear hr)
  go_ret
  exact ⟨r, rfl, HR.out, hrs, (Fr.refl [] w).alloc _⟩

set_option maxRecDepth 100000 in
set_option maxHeartbeats 4000000 in
theorem rsub_any (w : World) (x y x2 y2 : Int) (hx : inC x) (hy : inC y) (hx2 : inC x2) (hy2 : inC y2) :
    Calls Try.prog 66 #[.agg #[.int .i64 x, .int .i64 y], .agg #[.int .i64 x2, .int .i64 y2]] w
      fun e w' => e = .returned (.agg #[.int .i64 (x - x2), .int .i64 (y - y2)]) ∧ Fr [] w w' := by
  obtain ⟨x0, x1⟩ := hx
  obtain ⟨y0, y1⟩ := hy
  obtain ⟨x20, x21⟩ := hx2
  obtain ⟨y20, y21⟩ := hy2
  go_enter Try.func66, Try.ntmps66
  go_wp2_with fail
  refine bodyPost_ret (v := .agg #[.int .i64 (x - x2), .int .i64 (y - y2)]) (by simp [results, Try.results66, go_sem]) rfl ⟨rfl, ?_⟩
  exact (((Fr.refl [] w).alloc _).alloc _).alloc _
end Go.Proofs.Ytcgndeggemceaaa
