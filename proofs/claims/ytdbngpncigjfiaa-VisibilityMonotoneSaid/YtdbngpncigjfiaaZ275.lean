/- Shelf27, Isq, Round, Vec, ShapeOf (merged by merge.py). -/
import Derived.Shelf.Small.Bits
import Derived.Ground.NamesProg
import Derived.Test.YtdbngpncigjfiaaProg
import Derived.Test.YtdbngpncigjfiaaZ274
import Derived.Test.YtdbngpncigjfiaaZ271
import Derived.WalkMore
import Derived.Deep.LoopGhost
import Derived.StillTailTactics
import Derived.OrdersIn
import Derived.RangeFuncCalls
import Derived.Test.YtdbngpncigjfiaaZ270
import Derived.Test.YtdbngpncigjfiaaZ273
import Derived.Deep.RegionHeld3
import Derived.Deep.CutBlock
import Derived.Deep.DeepCutAuto
import Derived.Test.YtdbngpncigjfiaaZ272
/- The library's contracts laid at this program, in plain words (written by the kit's lay-plain). -/
namespace Go.Proofs.Ytdbngpncigjfiaa
open Go.Shelf
def lenE_ren : Go.Shelf.Ren := ⟨fun | 125 => 52 | 128 => 53 | 129 => 54 | n => n, fun | 46 => 57 | 3 => 3 | 51 => 81 | 53 => 83 | 4 => 4 | 5 => 5 | 9 => 9 | n => n, fun | n => n⟩
theorem lenE : Go.Proofs.Lays.n125 Try.prog lenE_ren := {
  mixed := by kernel_rfl
  f125 := Try.func52.trans (congrArg some (by kernel_rfl))
  f128 := Try.func53.trans (congrArg some (by kernel_rfl))
  f129 := Try.func54.trans (congrArg some (by kernel_rfl))
  t3 := Try.underlying3
  a3 := Try.isAgg3
  z3 := Try.sizeOf3
  v3 := Try.zeroValue3
  t4 := Try.underlying4
  a4 := Try.isAgg4
  z4 := Try.sizeOf4
  v4 := Try.zeroValue4
  t5 := Try.underlying5
  a5 := Try.isAgg5
  z5 := Try.sizeOf5
  v5 := Try.zeroValue5
  t9 := Try.underlying9
  a9 := Try.isAgg9
  z9 := Try.sizeOf9
  v9 := Try.zeroValue9
  t46 := Try.underlying57
  a46 := Try.isAgg57
  z46 := Try.sizeOf57
  v46 := Try.zeroValue57
  t51 := Try.underlying81
  a51 := Try.isAgg81
  z51 := Try.sizeOf81
  v51 := Try.zeroValue81
  t53 := Try.underlying83
  a53 := Try.isAgg83
  z53 := Try.sizeOf83
  v53 := Try.zeroValue83 }
end Go.Proofs.Ytdbngpncigjfiaa
/- The integer square root: the program's and the reference's return the root, rounded down. -/
namespace Go.Proofs.Ytdbngpncigjfiaa
open Go.RowKit Go.Shelf

theorem len_any (x : Int) (w : World) (h0 : 0 ≤ x) (h1 : x ≤ 18446744073709551615) :
    Calls Try.prog 52 #[.int .u64 x] w fun e w' => e = .returned (.int .i64 (Lib.bitLen x.toNat)) ∧ w = w' :=
  (Any.bits_Len lenE x w h0 h1).mono fun _ _ ⟨a, b⟩ => ⟨a, b.symm⟩

/-- what a root's function leaves -/
def RootAt (n : Nat) (w : World) (e : Ending) (w' : World) : Prop := ∃ r : Nat, e = .returned (.int .i64 r) ∧ IsRoot n r ∧ r < 2147483648 ∧ w = w'

theorem IsRoot.small {n r : Nat} (h : IsRoot n r) (hn : n < 4611686018427387904) : r < 2147483648 := by
  have := h.1; exact sq_lt_of (by omega)

theorem w64_in (n : Int) (h0 : -9223372036854775808 ≤ n) (h1 : n ≤ 9223372036854775807) : wrap64 n = n := by unfold wrap64; omega

set_option maxRecDepth 100000 in
set_option maxHeartbeats 4000000 in
theorem rsqrt_any (n : Nat) (w : World) (hn : n < 4611686018427387904) : Calls Try.prog 51 #[.int .i64 n] w (RootAt n w) := by
  go_enter Try.func51, Try.ntmps51
  go_wp2
  go_loop [3, 4] (fun lv hv => ∃ lo hi : Nat, hi ≤ 2147483649 ∧ lv = .int .i64 lo ∧ hv = .int .i64 hi ∧ Bis n lo hi) (fun lv hv => (intOf hv - intOf lv).toNat)
  case atStart => exact ⟨0, 2147483649, by omega, rfl, rfl, Bis.start hn⟩
  case round =>
    obtain ⟨lo, hi, hb, rfl, rfl, hB⟩ := hrel
    have hl := hB.1
    have HB := Lib.hid hB
    clear hB
    by_cases hc : lo + 1 < hi
    · obtain ⟨m, hm⟩ : ∃ m : Nat, m = lo + (hi - lo) / 2 := ⟨_, rfl⟩
      have hmi : (lo : Int) + ((hi : Int) - (lo : Int)) / 2 = (m : Int) := by omega
      have h2 : lo < m := by omega
      have h3 : m < hi := by omega
      have hB := HB.out
      have hq0 : 0 ≤ (m : Int) * (m : Int) := Int.mul_nonneg (by omega) (by omega)
      have hq1 : (m : Int) * (m : Int) ≤ 4611686018427387904 := Int.le_trans (Int.mul_le_mul (by omega : (m : Int) ≤ 2147483648) (by omega : (m : Int) ≤ 2147483648) (by omega) (by omega)) (by omega)
      clear hB
      have HM := Lib.hid hm
      clear hm
      have HMI := Lib.hid hmi
      clear hmi
      by_cases hs : m * m ≤ n
      · have HS := Lib.hid (⟨h3, hs, HB.out.2.2⟩ : Bis n m hi)
        have hsi : (m : Int) * (m : Int) ≤ (n : Int) := by exact_mod_cast hs
        clear hs
        have hmi := HMI.out
        go_wp2
        go_round
        case rel => exact ⟨m, hi, hb, rfl, rfl, HS.out⟩
        case measure => simp [intOf]; omega
      · have HS := Lib.hid (⟨h2, HB.out.2.1, by omega⟩ : Bis n lo m)
        have hsi : (n : Int) < (m : Int) * (m : Int) := by have : n < m * m := by omega
                                                           exact_mod_cast this
        clear hs
        have hmi := HMI.out
        go_wp2
        go_round
        case rel => exact ⟨lo, m, by omega, rfl, rfl, HS.out⟩
        case measure => simp [intOf]; omega
    · have HR := Lib.hid (HB.out.root (by omega))
      go_wp2
      go_ret
      exact ⟨lo, rfl, HR.out, HR.out.small hn, rfl⟩

set_option maxRecDepth 100000 in
set_option maxHeartbeats 4000000 in
theorem sqrt_any (n : Nat) (w : World) (hn : n < 4611686018427387904) : Calls Try.prog 50 #[.int .i64 n] w (RootAt n w) := by
  by_cases h0 : n = 0
  · subst h0
    go_enter Try.func50, Try.ntmps50
    go_wp2
    go_step3
    go_wp2_with fail
    rw [Exit.noGoto_ret]
    go_ret
    exact ⟨0, rfl, ⟨by omega, by omega⟩, by omega, rfl⟩
  · obtain ⟨L, hL⟩ : ∃ L, L = Lib.bitLen n := ⟨_, rfl⟩
    have hL2 : L ≤ 62 := by rw [hL]; exact Lib.bitLen_le n 62 (by omega) (by omega)
    have HF := Lib.hid (by rw [hL]; exact Digit.first n (by omega) : Digit n 0 ((L + 1) / 2))
    have HL := Lib.hid hL
    clear hL
    have hp : 0 < n := by omega
    have hpi : 0 < (n : Int) := by omega
    clear h0
    go_enter Try.func50, Try.ntmps50
    go_wp2_with fail
    go_step3
    go_wp2_with fail
    go_step3
    go_wp2_with (go_at_call 52; refine (len_any _ _ (by omega) (by omega)).mono ?_; rintro e w' ⟨rfl, rfl⟩; rw [Int.toNat_natCast, ← HL.out])
    go_loop [3, 4] (fun rv kv => ∃ r k : Nat, k ≤ 31 ∧ rv = .int .i64 r ∧ kv = .int .i64 ((k : Int) - 1) ∧ Digit n r k) (fun _ kv => (intOf kv + 1).toNat)
    case atStart => exact ⟨0, (L + 1) / 2, by omega, rfl, rfl, HF.out⟩
    case round =>
      obtain ⟨r, k, hk, rfl, rfl, hD⟩ := hrel
      have hr := hD.small hn
      have HD := Lib.hid hD
      clear hD
      cases k with
      | zero =>
        have HR := Lib.hid HD.out.root
        go_wp2
        try rw [Exit.noGoto_ret]
        go_ret
        exact ⟨r, rfl, HR.out, hr, rfl⟩
      | succ j =>
        have hkj : ((j + 1 : Nat) : Int) - 1 = (j : Int) := by omega
        rw [hkj]
        clear hkj
        have hj2 : 2 ^ j ≤ 2 ^ 30 := Nat.pow_le_pow_right (by omega) (by omega)
        have hj1 : 0 < 2 ^ j := Nat.two_pow_pos j
        obtain ⟨N, hN⟩ : ∃ N, N = r + 2 ^ j := ⟨_, rfl⟩
        have hN0 : 0 < N := by omega
        have hN1 : N ≤ 4294967296 := by omega
        have hNi : ¬ (N : Int) = 0 := by omega
        obtain ⟨Q, hQ⟩ : ∃ Q, Q = n / N := ⟨_, rfl⟩
        have hQn : Q ≤ n := by rw [hQ]; exact Nat.div_le_self _ _
        have hw : wrap64 (2 ^ j : Int) = ((2 ^ j : Nat) : Int) := by
          rw [show ((2 : Int) ^ j) = ((2 ^ j : Nat) : Int) by rw [Int.natCast_pow]; rfl]
          exact w64_in _ (by omega) (by omega)
        have hb : bits .or .i64 (r : Int) (wrap64 (2 ^ j)) = (N : Int) := by
          rw [hw, bits_or_i64 r (2 ^ j) (by omega) (by omega), HD.out.or, hN]
        have hq : wrap64 ((n : Int) / (N : Int)) = (Q : Int) := by
          rw [show ((n : Int) / (N : Int)) = ((n / N : Nat) : Int) from (Int.natCast_ediv n N).symm, ← hQ]
          exact w64_in _ (by omega) (by omega)
        by_cases hlt : Q < N
        · have HS := Lib.hid (HD.out.no' hN (by rw [hQ] at hlt; exact hlt))
          have hlti : (Q : Int) < (N : Int) := Int.ofNat_lt.2 hlt
          clear hj2 hj1 hw hN hQ
          go_wp2
          go_round
          case rel => exact ⟨r, j, by omega, rfl, rfl, HS.out⟩
          case measure => simp [intOf]
        · have hge : N ≤ Q := Nat.le_of_not_lt hlt
          have HS := Lib.hid (HD.out.yes' hN (by rw [hQ] at hge; exact hge))
          have hlti : (N : Int) ≤ (Q : Int) := Int.ofNat_le.2 hge
          clear hj2 hj1 hw hN hQ hlt hge
          go_wp2
          go_round
          case rel => exact ⟨N, j, by omega, rfl, rfl, HS.out⟩
          case measure => simp [intOf]
end Go.Proofs.Ytdbngpncigjfiaa
/- A region that draws its order, inside a round of a range over a function: it may be walked as anywhere (a region that holds no defer statement). -/
namespace Go.Proofs.Ytdbngpncigjfiaa
open Go.RowKit

def noDefer (ops : Array Oper) : Bool := ops.all fun o => match o.op with | .defer _ => false | .call { callee := .builtin _, .. } => true | .call _ => false | .go _ => false | _ => true

theorem noDefer_spec {ops : Array Oper} (h : noDefer ops = true) {i : Nat} {o : Oper} (ho : ops[i]? = some o) : ∀ c, o.op ≠ .defer c := by
  intro c hc
  have h1 := Array.all_eq_true.1 h i (Array.getElem?_eq_some_iff.1 ho).1
  rw [(Array.getElem?_eq_some_iff.1 ho).2, hc] at h1
  cases h1

def onlyNormal (Q : Exit → Act → World → Prop) : Exit → Act → World → Prop := fun e a w => e = .normal ∧ Q .normal a w

theorem opsIn_of_ops {l n : Nat} {P : Program} {ops : Array Oper} {Q : Exit → Act → World → Prop} (hd : noDefer ops = true) (L : List Nat) :
    ∀ (a : Act) (w : World), wpOps P ops (onlyNormal Q) L a w → wpOpsIn (Fence.wide.inRound l) n P ops Q L a w := by
  induction L with
  | nil => intro a w h; exact h.2
  | cons i rest ih =>
    intro a w h
    simp only [wpOps] at h
    simp only [wpOpsIn]
    cases ho : ops[i]? with
    | none => simp only [ho] at h ⊢; exact ih a w h
    | some o =>
      simp only [ho] at h ⊢
      by_cases hw : Region.wanted o (yielded ops a.tmps) = true
      · simp only [hw, if_true] at h ⊢
        rcases h with h | ⟨_, a₀, w₀, hq⟩
        case inr => exact absurd hq.1 (by intro e; cases e)
        refine ⟨fun _ _ => trivial, ?_⟩
        rw [Fence.inRound_round, Oper.semAt_some l a.eval o (noDefer_spec hd ho)]
        unfold Oper.wp at h
        generalize (execOp a.eval o).run P w = r at h ⊢
        cases r with
        | ok x w' =>
          cases x <;> simp only [Oper.upon, Oper.uponIn] at h ⊢
          case value v => exact ih _ _ h
          case skip => exact ih _ _ h
          case defer d => exact ih _ _ h
          case enter f args =>
            refine ⟨fun he => by simp [Fence.wide, Fence.inRound] at he, CallsIn.inRound l ((callsIn_wide.2 h).mono fun e w'' he => ?_)⟩
            cases e with
            | returned v => exact ih _ _ he
            | panicked chain => exact absurd he.1 (by intro e; cases e)
            | outgrown => obtain ⟨a₀, w₀, hq⟩ := he; exact absurd hq.1 (by intro e; cases e)
          case row rw' args =>
            refine ⟨fun he => by simp [Fence.wide, Fence.inRound] at he, fun c cs _ => ?_⟩
            obtain ⟨v, w'', hv, hs⟩ := h c cs
            exact ⟨v, w'', ih _ _ hv, stepsIn_wide.2 hs⟩
        | halt x w' => cases x <;> simp only [Oper.upon, Oper.uponIn] at h ⊢ <;> exact absurd h.1 (by intro e; cases e)
      · simp only [hw, if_false, Bool.false_eq_true] at h ⊢
        exact ⟨fun _ _ => trivial, ih _ _ h⟩

theorem wpAny_still_tail {P : Program} {Q : Exit → Act → World → Prop} {a : Act} {w : World} {l : List Oper} (n : Nat) (hB : Region.lexTailB .any l.toArray n = true)
    (h : wpStill P l.toArray w (fun a' => wpList P l.toArray Q (l.drop n) a' w) (l.take n) a) : wpAny P .any l.toArray Q l.toArray.size (Array.replicate l.toArray.size false) a w := by
  simp only [Region.lexTailB, Bool.and_eq_true, decide_eq_true_eq] at hB
  obtain ⟨⟨⟨⟨hsel, hn⟩, hs⟩, hc⟩, hlex⟩ := hB
  have hn' : n < l.length := by simpa using hn
  have htl : (l.take n).length = n := by simp; omega
  have hdl : (l.drop n).length = l.toArray.size - n := by simp
  have inv0 : HeadInv .any l.toArray n (Array.replicate l.toArray.size false) :=
    ⟨by simp, fun j oj _ hl => (by rw [getD_replicate_false] at hl; cases hl), fun t _ ht => getD_in (by simpa using ht) (getD_replicate_false _ _)⟩
  have H := wpAnyL_lex (md := .any) (g := l.toArray.size - n) hsel hs hc hn (l.take n) 0 _ a (fun j hj => by
    have hj' : j < n := by rw [htl] at hj; exact hj
    simp [hj']) (by simpa using htl) inv0 (by rw [htl]; exact hlex) h
  have := wpAny_of_head (Q' := Q) (g := l.toArray.size - n) (fun listed a' hL => by
    have := wpAny_of_seq (md := .any) (Q' := Q) (l.drop n) n listed a' w (fun j => by simp [List.getElem?_drop]) (by rw [hdl]; exact hL.1) hL.2
    rwa [hdl] at this) _ _ _ H
  rw [htl, show n + (l.toArray.size - n) = l.toArray.size by omega] at this
  exact this

theorem wpIn_round_still_tail {l n : Nat} {P : Program} {id : Nat} {L : List Oper} {Q : Exit → Act → World → Prop} {a : Act} {w : World} (k : Nat) (hm : P.follows .mixedOrders = true) (hd : noDefer L.toArray = true) (hB : Region.lexTailB .any L.toArray k = true)
    (h : wpStill P L.toArray w.drew (fun a' => wpList P L.toArray (onlyNormal Q) (L.drop k) a' w.drew) (L.take k) a) :
    (Code.region id L.toArray true).wpIn (Fence.wide.inRound l) n P Q a w :=
  wpIn_region_draw fun t => by
    simp only [Region.schedule, hm, Bool.true_or, if_true]
    exact opsIn_of_ops hd _ _ _ (wpAny_sound _ t _ a _ (wpAny_still_tail k hB h))
theorem wp_still_tail {P : Program} {id : Nat} {L : List Oper} {Q : Exit → Act → World → Prop} {a : Act} {w : World} (k : Nat) (hm : P.follows .mixedOrders = true) (hB : Region.lexTailB .any L.toArray k = true)
    (h : wpStill P L.toArray w.drew (fun a' => wpList P L.toArray Q (L.drop k) a' w.drew) (L.take k) a) : (Code.region id L.toArray true).wp P Q a w :=
  wp_region_still_tail k hm hB h
/-! ### calls of functions that only draw, inside a quiet region (behind no other one; behind one) -/
theorem quiet1 {P : Program} {f : FuncId} {args : Array Value} {w : World} {n : Nat} {v : Value} (h : Calls P f args (w.drewN n) fun e w' => e = .returned v ∧ w.drewN n = w') :
    Calls P f args (w.drewN n) fun e w' => e = .returned v ∧ ∃ m, w' = w.drewN m := h.mono fun _ _ ⟨he, hw⟩ => ⟨he, n, hw.symm⟩
theorem quiet1d {P : Program} {f : FuncId} {args : Array Value} {w : World} {n : Nat} {v : Value} (h : Calls P f args (w.drewN n) fun e w' => e = .returned v ∧ ∃ m, w' = (w.drewN n).drewN m) :
    Calls P f args (w.drewN n) fun e w' => e = .returned v ∧ ∃ m, w' = w.drewN m := h.mono fun _ _ ⟨he, m, hw⟩ => ⟨he, n + m, by rw [hw, World.drewN_drewN]⟩
theorem quiet2 {P : Program} {f : FuncId} {args : Array Value} {w : World} {a n : Nat} {v : Value} (h : Calls P f args (w.drewN (a + n)) fun e w' => e = .returned v ∧ w.drewN (a + n) = w') :
    Calls P f args (w.drewN (a + n)) fun e w' => e = .returned v ∧ ∃ m, w' = w.drewN (a + m) := h.mono fun _ _ ⟨he, hw⟩ => ⟨he, n, hw.symm⟩
theorem quiet2d {P : Program} {f : FuncId} {args : Array Value} {w : World} {a n : Nat} {v : Value} (h : Calls P f args (w.drewN (a + n)) fun e w' => e = .returned v ∧ ∃ m, w' = (w.drewN (a + n)).drewN m) :
    Calls P f args (w.drewN (a + n)) fun e w' => e = .returned v ∧ ∃ m, w' = w.drewN (a + m) := h.mono fun _ _ ⟨he, m, hw⟩ => ⟨he, n + m, by rw [hw, World.drewN_drewN, Nat.add_assoc]⟩
end Go.Proofs.Ytdbngpncigjfiaa
/- Package vec: Sub, Len; the reference's. -/
namespace Go.Proofs.Ytdbngpncigjfiaa
open Go.RowKit

/-- a pair of coordinates -/
def V2 (x y : Int) : Value := .agg #[.int .i64 x, .int .i64 y]
def inC (x : Int) : Prop := -1048576 ≤ x ∧ x ≤ 1048576
def inD (x : Int) : Prop := -2097152 ≤ x ∧ x ≤ 2097152

/-- a root's function that made memory -/
def RootFr (n : Nat) (w : World) (e : Ending) (w' : World) : Prop := ∃ r : Nat, e = .returned (.int .i64 r) ∧ IsRoot n r ∧ r < 2147483648 ∧ Fr [] w w'
theorem mul_self_nn (x : Int) : 0 ≤ x * x := by
  rcases Int.le_total 0 x with h | h
  · exact Int.mul_nonneg h h
  · have := Int.mul_nonneg (show 0 ≤ -x by omega) (show 0 ≤ -x by omega); rwa [Int.neg_mul_neg] at this

set_option maxRecDepth 100000 in
set_option maxHeartbeats 1000000 in
theorem minus_any (w : World) (x y : Int) (hx : inC x) (hy : inC y) :
    Calls Try.prog 48 #[.int .i64 x, .int .i64 y] w fun e w' => e = .returned (.int .i64 (x - y)) ∧ w = w' := by
  obtain ⟨x0, x1⟩ := hx
  obtain ⟨y0, y1⟩ := hy
  go_enter Try.func48, Try.ntmps48
  go_wp2_with fail
  go_ret
  exact ⟨rfl, rfl⟩

set_option maxRecDepth 100000 in
set_option maxHeartbeats 4000000 in
theorem combine_any (w : World) (x y x2 y2 : Int) (hx : inC x) (hy : inC y) (hx2 : inC x2) (hy2 : inC y2) :
    Calls Try.prog 47 #[.agg #[.int .i64 x, .int .i64 y], .agg #[.int .i64 x2, .int .i64 y2], .func (.func 48) #[] #[]] w
      fun e w' => e = .returned (.agg #[.int .i64 (x - x2), .int .i64 (y - y2)]) ∧ Fr [] w w' := by
  go_enter Try.func47, Try.ntmps47
  go_upto_region 1 with (fail)
  have HA := Lib.hid fun u => (minus_any u x x2 hx hx2).mono fun _ _ h => (⟨h.1, h.2.symm⟩ : _ ∧ _ = u)
  have HB := Lib.hid fun u => (minus_any u y y2 hy hy2).mono fun _ _ h => (⟨h.1, h.2.symm⟩ : _ ∧ _ = u)
  refine wp_still_tail 13 (by kernel_rfl) (by kernel_rfl) ?_
  simp only [List.take_succ_cons, List.take_zero]
  repeat still_step
  still_call (HA.out _)
  repeat still_step
  still_call (HB.out _)
  repeat still_step
  refine wpStill_nil ?_
  go_wp2_with fail
  refine bodyPost_ret (v := .agg #[.int .i64 (x - x2), .int .i64 (y - y2)]) (by simp [results, Try.results47, go_sem]) rfl ⟨rfl, ?_⟩
  exact (((Fr.refl [] w).alloc _).alloc _).alloc _ |>.drew

set_option maxRecDepth 100000 in
set_option maxHeartbeats 4000000 in
theorem sub_any (w : World) (x y x2 y2 : Int) (hx : inC x) (hy : inC y) (hx2 : inC x2) (hy2 : inC y2) :
    Calls Try.prog 29 #[.agg #[.int .i64 x, .int .i64 y], .agg #[.int .i64 x2, .int .i64 y2]] w
      fun e w' => e = .returned (.agg #[.int .i64 (x - x2), .int .i64 (y - y2)]) ∧ Fr [] w w' := by
  have HC := Lib.hid fun u => combine_any u x y x2 y2 hx hy hx2 hy2
  go_enter Try.func29, Try.ntmps29
  go_upto_region 1 with (fail)
  obtain ⟨b, hb⟩ : ∃ b, b = w.heap.size + 1 + 1 := ⟨_, rfl⟩
  obtain ⟨wb, hwb⟩ : ∃ wb, wb = ((w.alloc (.cells #[.int .i64 x, .int .i64 y] 29)).alloc (.cells #[.int .i64 x2, .int .i64 y2] 29)).alloc (.cells #[.int .i64 0, .int .i64 0] 29) := ⟨_, rfl⟩
  have HB := Lib.hid (by rw [hwb, hb]; exact (show w.heap.size + 1 + 1 = ((w.alloc (.cells #[.int .i64 x, .int .i64 y] 29)).alloc (.cells #[.int .i64 x2, .int .i64 y2] 29)).heap.size by simp) ▸ alloc_new _ _ : wb.heap[b]? = some (.cells #[.int .i64 0, .int .i64 0] 29 (0, 0)))
  have HWB := Lib.hid (by rw [hwb]; exact (((Fr.refl [] w).alloc _).alloc _).alloc _ : Fr [] w wb)
  have hbw : w.heap.size ≤ b := by omega
  have HBE := Lib.hid hb
  have HWE := Lib.hid hwb
  clear hb hwb
  go_wp2_with (first | (go_at_call 47; refine (HC.out _).mono ?_; rintro e w1 ⟨rfl, hf1⟩; rw [← HWE.out] at hf1; rw [← HBE.out]; have HB1 := Lib.hid (hf1.blk HB.out (by simp)); have HF1 := Lib.hid hf1; clear hf1) | (refine wpList_storeB rfl 29 (Operand.tmp 4) (Operand.tmp 7) rfl b 2 #[.int .i64 (x - x2), .int .i64 (y - y2)] rfl rfl #[.int .i64 0, .int .i64 0] 29 HB1.out rfl rfl (by kernel_rfl) (by simp [Value.oneCell']) ?_; intro w5 hb5 hf5; have HB5 := Lib.hid hb5; have HF5 := Lib.hid hf5; clear hb5 hf5))
  have t0 := cell_blk HB5.out 0
  have t1 := cell_blk HB5.out 1
  refine bodyPost_ret (v := .agg #[.int .i64 (x - x2), .int .i64 (y - y2)]) (by simp [results, Try.results29, go_sem, t0, t1]) rfl ⟨rfl, ?_⟩
  exact (HWB.out.trans HF1.out (by simp [Ext])).trans HF5.out (by simp [Ext]; omega)

theorem dd_bound {x y : Int} (hx : inC x) (hy : inC y) : inD (x - y) := by unfold inC at hx hy; unfold inD; omega
theorem sq_bound {x : Int} (h : inD x) : 0 ≤ x * x ∧ x * x ≤ 4398046511104 := by
  obtain ⟨h0, h1⟩ := h
  constructor
  · exact mul_self_nn x
  · rcases Int.le_total 0 x with h | h
    · exact Int.le_trans (Int.mul_le_mul h1 h1 h (by omega)) (by omega)
    · have : x * x = (-x) * (-x) := by rw [Int.neg_mul_neg]
      rw [this]
      exact Int.le_trans (Int.mul_le_mul (by omega : -x ≤ 2097152) (by omega : -x ≤ 2097152) (by omega) (by omega)) (by omega)

set_option maxRecDepth 100000 in
set_option maxHeartbeats 4000000 in
theorem vlen_any (w : World) (x y : Int) (hx : inD x) (hy : inD y) :
    Calls Try.prog 42 #[.agg #[.int .i64 x, .int .i64 y]] w fun e w' => RootFr (x * x + y * y).toNat w e w' := by
  obtain ⟨a0, a1⟩ := sq_bound hx
  obtain ⟨b0, b1⟩ := sq_bound hy
  obtain ⟨n, hn⟩ : ∃ n, n = (x * x + y * y).toNat := ⟨_, rfl⟩
  have hn2 : n < 4611686018427387904 := by omega
  have HN := Lib.hid hn
  have HNI := Lib.hid (by omega : x * x + y * y = (n : Int))
  have HQ := Lib.hid fun u => sqrt_any n u hn2
  rw [← hn]
  clear hn hx hy
  go_enter Try.func42, Try.ntmps42
  go_wp2_with (go_at_call 50; rw [HNI.out]; refine (HQ.out _).mono ?_; rintro e w1 ⟨r, rfl, hr, hrs, rfl⟩; have HR := Lib.hid hr; clear hr)
  go_ret
  exact ⟨r, rfl, HR.out, hrs, (Fr.refl [] w).alloc _⟩

set_option maxRecDepth 100000 in
set_option maxHeartbeats 4000000 in
theorem rlen_any (w : World) (x y : Int) (hx : inD x) (hy : inD y) :
    Calls Try.prog 44 #[.agg #[.int .i64 x, .int .i64 y]] w fun e w' => RootFr (x * x + y * y).toNat w e w' := by
  obtain ⟨a0, a1⟩ := sq_bound hx
  obtain ⟨b0, b1⟩ := sq_bound hy
  obtain ⟨n, hn⟩ : ∃ n, n = (x * x + y * y).toNat := ⟨_, rfl⟩
  have hn2 : n < 4611686018427387904 := by omega
  have HN := Lib.hid hn
  have HNI := Lib.hid (by omega : x * x + y * y = (n : Int))
  have HQ := Lib.hid fun u => rsqrt_any n u hn2
  rw [← hn]
  clear hn hx hy
  go_enter Try.func44, Try.ntmps44
  go_wp2_with (go_at_call 51; rw [HNI.out]; refine (HQ.out _).mono ?_; rintro e w1 ⟨r, rfl, hr, hrs, rfl⟩; have HR := Lib.hid hr; clear hr)
  go_ret
  exact ⟨r, rfl, HR.out, hrs, (Fr.refl [] w).alloc _⟩

set_option maxRecDepth 100000 in
set_option maxHeartbeats 4000000 in
theorem rsub_any (w : World) (x y x2 y2 : Int) (hx : inC x) (hy : inC y) (hx2 : inC x2) (hy2 : inC y2) :
    Calls Try.prog 45 #[.agg #[.int .i64 x, .int .i64 y], .agg #[.int .i64 x2, .int .i64 y2]] w
      fun e w' => e = .returned (.agg #[.int .i64 (x - x2), .int .i64 (y - y2)]) ∧ Fr [] w w' := by
  obtain ⟨x0, x1⟩ := hx
  obtain ⟨y0, y1⟩ := hy
  obtain ⟨x20, x21⟩ := hx2
  obtain ⟨y20, y21⟩ := hy2
  go_enter Try.func45, Try.ntmps45
  go_wp2_with fail
  refine bodyPost_ret (v := .agg #[.int .i64 (x - x2), .int .i64 (y - y2)]) (by simp [results, Try.results45, go_sem]) rfl ⟨rfl, ?_⟩
  exact (((Fr.refl [] w).alloc _).alloc _).alloc _
end Go.Proofs.Ytdbngpncigjfiaa
/- Chapter 12's generator: ShapeOf. -/
namespace Go.Proofs.Ytdbngpncigjfiaa
open Go.RowKit

theorem infoShape : (Try.prog.info? 72).map (·.size) = some 2 := by kernel_rfl

def vecs (l : List (Int × Int)) : List Value := l.flatMap drCells
/-- the polygons that the generator makes -/
def polyOf : Nat → Int → List (Int × Int)
  | 3, r => [(-r, -r), (r, -r), (r, r), (-r, r)]
  | 5, r => [(-r, -r), (r, -r), (0, r)]
  | _, r => [(-2 * r, -300), (2 * r, -300), (2 * r, 300), (-2 * r, 300)]

def ShapeAt (w : World) (rad : Int) (po : Option Addr) (pn pc : Nat) : Prop :=
  (po = none ∧ pn = 0 ∧ pc = 0 ∧ 512 ≤ rad ∧ rad ≤ 2560) ∨
  ∃ (q : Nat) (r : Int), (q = 3 ∨ q = 5 ∨ q = 6) ∧ 512 ≤ r ∧ r ≤ 2560 ∧ rad = 0 ∧ Seg w 29 2 po pn pc (vecs (polyOf q r)) ∧ pn = (polyOf q r).length

def ShapeTo (w : World) (e : Ending) (w' : World) : Prop := ∃ rad po pn pc, e = .returned (.agg #[.int .i64 rad, .slice po pn pc]) ∧ ShapeAt w' rad po pn pc ∧ Fr [] w w' ∧ ∀ k ∈ blk po, w.heap.size ≤ k

set_option maxRecDepth 100000 in
set_option maxHeartbeats 8000000 in
theorem shapeof_any (w : World) (n : Int) (hn : bounded n) : Calls Try.prog 46 #[.int .i64 n] w (ShapeTo w) := by
  obtain ⟨k, hk, -, hA⟩ := around_nat n 1000 hn (by omega) (by omega)
  have HA := Lib.hid hA
  obtain ⟨r, hr⟩ : ∃ r : Int, r = 512 * (1 + (k : Int) / 7 % 5) := ⟨_, rfl⟩
  have hr1 : 512 ≤ r := by omega
  have hr2 : r ≤ 2560 := by omega
  have hre : 512 * (1 + (k : Int) / 7 % 5) = r := hr.symm
  obtain ⟨q, hq⟩ : ∃ q : Nat, (k : Int) % 7 = (q : Int) := ⟨k % 7, by omega⟩
  have hq7 : q < 7 := by omega
  have HZ := Lib.hid (alloc_new w (.cells #[.int .i64 0, .slice none 0 0] 72))
  have HF := Lib.hid ((Fr.refl [] w).alloc (.cells #[.int .i64 0, .slice none 0 0] 72))
  clear hA hn hr
  rcases (show q = 0 ∨ q = 1 ∨ q = 2 ∨ q = 3 ∨ q = 4 ∨ q = 5 ∨ q = 6 by omega) with e | e | e | e | e | e | e
  · subst e
    go_enter Try.func46, Try.ntmps46
    go_wp2_with fail
    refine (HA.out _).mono ?_
    rintro e w1 ⟨rfl, rfl⟩
    go_wp2_with (refine wpList_storeB rfl 72 (Operand.tmp 2) (Operand.tmp 19) rfl w.heap.size 2 #[.int .i64 r, .slice none 0 0] rfl rfl _ 72 HZ.out rfl rfl infoShape (by simp [Value.oneCell']) ?_; intro wf hbf hff; have HBF := Lib.hid hbf; have HFF := Lib.hid hff; clear hbf hff)
    have t0 : wf.cell? ⟨w.heap.size, 0, none⟩ = some (.int .i64 r) := cell_blk HBF.out 0
    have t1 : wf.cell? ⟨w.heap.size, 1, none⟩ = some (.slice none 0 0) := cell_blk HBF.out 1
    refine bodyPost_ret (by simp [results, Try.results46, go_sem, t0, t1]; rfl) rfl ?_
    exact ⟨_, _, _, _, rfl, .inl ⟨rfl, rfl, rfl, hr1, hr2⟩, HF.out.trans HFF.out (fun k hk => .inr (by simp at hk; omega)), by simp [blk]⟩
  · subst e
    go_enter Try.func46, Try.ntmps46
    go_wp2_with fail
    refine (HA.out _).mono ?_
    rintro e w1 ⟨rfl, rfl⟩
    go_wp2_with (refine wpList_storeB rfl 72 (Operand.tmp 2) (Operand.tmp 19) rfl w.heap.size 2 #[.int .i64 r, .slice none 0 0] rfl rfl _ 72 HZ.out rfl rfl infoShape (by simp [Value.oneCell']) ?_; intro wf hbf hff; have HBF := Lib.hid hbf; have HFF := Lib.hid hff; clear hbf hff)
    have t0 : wf.cell? ⟨w.heap.size, 0, none⟩ = some (.int .i64 r) := cell_blk HBF.out 0
    have t1 : wf.cell? ⟨w.heap.size, 1, none⟩ = some (.slice none 0 0) := cell_blk HBF.out 1
    refine bodyPost_ret (by simp [results, Try.results46, go_sem, t0, t1]; rfl) rfl ?_
    exact ⟨_, _, _, _, rfl, .inl ⟨rfl, rfl, rfl, hr1, hr2⟩, HF.out.trans HFF.out (fun k hk => .inr (by simp at hk; omega)), by simp [blk]⟩
  · subst e
    go_enter Try.func46, Try.ntmps46
    go_wp2_with fail
    refine (HA.out _).mono ?_
    rintro e w1 ⟨rfl, rfl⟩
    go_wp2_with (refine wpList_storeB rfl 72 (Operand.tmp 2) (Operand.tmp 19) rfl w.heap.size 2 #[.int .i64 r, .slice none 0 0] rfl rfl _ 72 HZ.out rfl rfl infoShape (by simp [Value.oneCell']) ?_; intro wf hbf hff; have HBF := Lib.hid hbf; have HFF := Lib.hid hff; clear hbf hff)
    have t0 : wf.cell? ⟨w.heap.size, 0, none⟩ = some (.int .i64 r) := cell_blk HBF.out 0
    have t1 : wf.cell? ⟨w.heap.size, 1, none⟩ = some (.slice none 0 0) := cell_blk HBF.out 1
    refine bodyPost_ret (by simp [results, Try.results46, go_sem, t0, t1]; rfl) rfl ?_
    exact ⟨_, _, _, _, rfl, .inl ⟨rfl, rfl, rfl, hr1, hr2⟩, HF.out.trans HFF.out (fun k hk => .inr (by simp at hk; omega)), by simp [blk]⟩
  · subst e
    go_enter Try.func46, Try.ntmps46
    go_wp2_with fail
    refine (HA.out _).mono ?_
    rintro e w1 ⟨rfl, rfl⟩
    go_wp2_with (refine wpList_storeB rfl 72 (Operand.tmp 2) (Operand.tmp 40) rfl w.heap.size 2 #[.int .i64 0, .slice (some ⟨w.heap.size + 1, 0, none⟩) 4 4] rfl rfl _ 72 (alloc_old HZ.out) rfl rfl infoShape (by simp [Value.oneCell']) ?_; intro wf hbf hff; have HBF := Lib.hid hbf; have HFF := Lib.hid hff; clear hbf hff)
    have t0 : wf.cell? ⟨w.heap.size, 0, none⟩ = some (.int .i64 0) := cell_blk HBF.out 0
    have t1 : wf.cell? ⟨w.heap.size, 1, none⟩ = some (.slice (some ⟨w.heap.size + 1, 0, none⟩) 4 4) := cell_blk HBF.out 1
    have hseg : Seg wf 29 2 (some ⟨w.heap.size + 1, 0, none⟩) 4 4 (vecs (polyOf 3 r)) := Seg.one (w.heap.size + 1) #[.int .i64 (-r), .int .i64 (-r), .int .i64 (r), .int .i64 (-r), .int .i64 (r), .int .i64 (r), .int .i64 (-r), .int .i64 (r)] _ 2 4 (HFF.out.blk (alloc_new2 w _ _) (by simp)) rfl (by unfold maxLen; omega)
    refine bodyPost_ret (by simp [results, Try.results46, go_sem, t0, t1]; rfl) rfl ?_
    exact ⟨_, _, _, _, rfl, .inr ⟨3, r, .inl rfl, hr1, hr2, rfl, hseg, rfl⟩, (HF.out.alloc _).trans HFF.out (fun k hk => .inr (by simp at hk; omega)), by intro k hk; simp [blk] at hk; omega⟩
  · subst e
    go_enter Try.func46, Try.ntmps46
    go_wp2_with fail
    refine (HA.out _).mono ?_
    rintro e w1 ⟨rfl, rfl⟩
    go_wp2_with (refine wpList_storeB rfl 72 (Operand.tmp 2) (Operand.tmp 40) rfl w.heap.size 2 #[.int .i64 0, .slice (some ⟨w.heap.size + 1, 0, none⟩) 4 4] rfl rfl _ 72 (alloc_old HZ.out) rfl rfl infoShape (by simp [Value.oneCell']) ?_; intro wf hbf hff; have HBF := Lib.hid hbf; have HFF := Lib.hid hff; clear hbf hff)
    have t0 : wf.cell? ⟨w.heap.size, 0, none⟩ = some (.int .i64 0) := cell_blk HBF.out 0
    have t1 : wf.cell? ⟨w.heap.size, 1, none⟩ = some (.slice (some ⟨w.heap.size + 1, 0, none⟩) 4 4) := cell_blk HBF.out 1
    have hseg : Seg wf 29 2 (some ⟨w.heap.size + 1, 0, none⟩) 4 4 (vecs (polyOf 3 r)) := Seg.one (w.heap.size + 1) #[.int .i64 (-r), .int .i64 (-r), .int .i64 (r), .int .i64 (-r), .int .i64 (r), .int .i64 (r), .int .i64 (-r), .int .i64 (r)] _ 2 4 (HFF.out.blk (alloc_new2 w _ _) (by simp)) rfl (by unfold maxLen; omega)
    refine bodyPost_ret (by simp [results, Try.results46, go_sem, t0, t1]; rfl) rfl ?_
    exact ⟨_, _, _, _, rfl, .inr ⟨3, r, .inl rfl, hr1, hr2, rfl, hseg, rfl⟩, (HF.out.alloc _).trans HFF.out (fun k hk => .inr (by simp at hk; omega)), by intro k hk; simp [blk] at hk; omega⟩
  · subst e
    go_enter Try.func46, Try.ntmps46
    go_wp2_with fail
    refine (HA.out _).mono ?_
    rintro e w1 ⟨rfl, rfl⟩
    go_wp2_with (refine wpList_storeB rfl 72 (Operand.tmp 2) (Operand.tmp 55) rfl w.heap.size 2 #[.int .i64 0, .slice (some ⟨w.heap.size + 1, 0, none⟩) 3 3] rfl rfl _ 72 (alloc_old HZ.out) rfl rfl infoShape (by simp [Value.oneCell']) ?_; intro wf hbf hff; have HBF := Lib.hid hbf; have HFF := Lib.hid hff; clear hbf hff)
    have t0 : wf.cell? ⟨w.heap.size, 0, none⟩ = some (.int .i64 0) := cell_blk HBF.out 0
    have t1 : wf.cell? ⟨w.heap.size, 1, none⟩ = some (.slice (some ⟨w.heap.size + 1, 0, none⟩) 3 3) := cell_blk HBF.out 1
    have hseg : Seg wf 29 2 (some ⟨w.heap.size + 1, 0, none⟩) 3 3 (vecs (polyOf 5 r)) := Seg.one (w.heap.size + 1) #[.int .i64 (-r), .int .i64 (-r), .int .i64 (r), .int .i64 (-r), .int .i64 (0), .int .i64 (r)] _ 2 3 (HFF.out.blk (alloc_new2 w _ _) (by simp)) rfl (by unfold maxLen; omega)
    refine bodyPost_ret (by simp [results, Try.results46, go_sem, t0, t1]; rfl) rfl ?_
    exact ⟨_, _, _, _, rfl, .inr ⟨5, r, .inr (.inl rfl), hr1, hr2, rfl, hseg, rfl⟩, (HF.out.alloc _).trans HFF.out (fun k hk => .inr (by simp at hk; omega)), by intro k hk; simp [blk] at hk; omega⟩
  · subst e
    go_enter Try.func46, Try.ntmps46
    go_wp2_with fail
    refine (HA.out _).mono ?_
    rintro e w1 ⟨rfl, rfl⟩
    go_wp2_with (refine wpList_storeB rfl 72 (Operand.tmp 2) (Operand.tmp 69) rfl w.heap.size 2 #[.int .i64 0, .slice (some ⟨w.heap.size + 1, 0, none⟩) 4 4] rfl rfl _ 72 (alloc_old HZ.out) rfl rfl infoShape (by simp [Value.oneCell']) ?_; intro wf hbf hff; have HBF := Lib.hid hbf; have HFF := Lib.hid hff; clear hbf hff)
    have t0 : wf.cell? ⟨w.heap.size, 0, none⟩ = some (.int .i64 0) := cell_blk HBF.out 0
    have t1 : wf.cell? ⟨w.heap.size, 1, none⟩ = some (.slice (some ⟨w.heap.size + 1, 0, none⟩) 4 4) := cell_blk HBF.out 1
    have hseg : Seg wf 29 2 (some ⟨w.heap.size + 1, 0, none⟩) 4 4 (vecs (polyOf 6 r)) := Seg.one (w.heap.size + 1) #[.int .i64 (-2 * r), .int .i64 (-300), .int .i64 (2 * r), .int .i64 (-300), .int .i64 (2 * r), .int .i64 (300), .int .i64 (-2 * r), .int .i64 (300)] _ 2 4 (HFF.out.blk (alloc_new2 w _ _) (by simp)) rfl (by unfold maxLen; omega)
    refine bodyPost_ret (by simp [results, Try.results46, go_sem, t0, t1]; rfl) rfl ?_
    exact ⟨_, _, _, _, rfl, .inr ⟨6, r, .inr (.inr rfl), hr1, hr2, rfl, hseg, rfl⟩, (HF.out.alloc _).trans HFF.out (fun k hk => .inr (by simp at hk; omega)), by intro k hk; simp [blk] at hk; omega⟩
end Go.Proofs.Ytdbngpncigjfiaa
