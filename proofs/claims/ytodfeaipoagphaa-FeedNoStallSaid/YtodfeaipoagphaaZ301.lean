/- Bits, App28, SnapP, ApplyP (merged by merge.py). -/
import Derived.Laws.Bits64b
import Derived.IntWalk
import Derived.Test.YtodfeaipoagphaaZ300
import Derived.Lib.Zigzag
import Derived.Laws.BitsAllLaws
/- Bits of small numbers, as the walk meets them. -/
namespace Go.Proofs.Ytodfeaipoagphaa
open Go

theorem or_low (a b i : Nat) (h : b < 2 ^ i) : a * 2 ^ i ||| b = a * 2 ^ i + b := by rw [Nat.mul_comm]; exact (Nat.two_pow_add_eq_or_of_lt h a).symm

theorem bits_or_u32 (a b : Nat) (ha : a < 4294967296) (hb : b < 4294967296) : bits .or .u32 (a : Int) (b : Int) = ((a ||| b : Nat) : Int) := by
  have hx : a ||| b < 2 ^ 32 := Nat.or_lt_two_pow (by omega) (by omega)
  have h1 : (BitVec.ofInt 32 (a : Int)).toNat = a := by rw [BitVec.ofInt_natCast, BitVec.toNat_ofNat]; exact Nat.mod_eq_of_lt (by omega)
  have h2 : (BitVec.ofInt 32 (b : Int)).toNat = b := by rw [BitVec.ofInt_natCast, BitVec.toNat_ofNat]; exact Nat.mod_eq_of_lt (by omega)
  show IntKind.u32.wrap ((BitVec.ofInt 32 (a : Int) ||| BitVec.ofInt 32 (b : Int)).toNat : Int) = _
  rw [BitVec.toNat_or, h1, h2]
  exact IntWalk.u32_in _ (by omega)

theorem bits_or_u8 (a b : Nat) (ha : a < 256) (hb : b < 256) : bits .or .u8 (a : Int) (b : Int) = ((a ||| b : Nat) : Int) := by
  have hx : a ||| b < 2 ^ 8 := Nat.or_lt_two_pow (by omega) (by omega)
  have h1 : (BitVec.ofInt 8 (a : Int)).toNat = a := by rw [BitVec.ofInt_natCast, BitVec.toNat_ofNat]; exact Nat.mod_eq_of_lt (by omega)
  have h2 : (BitVec.ofInt 8 (b : Int)).toNat = b := by rw [BitVec.ofInt_natCast, BitVec.toNat_ofNat]; exact Nat.mod_eq_of_lt (by omega)
  show IntKind.u8.wrap ((BitVec.ofInt 8 (a : Int) ||| BitVec.ofInt 8 (b : Int)).toNat : Int) = _
  rw [BitVec.toNat_or, h1, h2]
  exact IntWalk.u8_in _ (by omega)

theorem bits_and_u8 (a b : Nat) (ha : a < 256) (hb : b < 256) : bits .and .u8 (a : Int) (b : Int) = ((a &&& b : Nat) : Int) := by
  have hx : a &&& b < 2 ^ 8 := Nat.and_lt_two_pow _ (by omega)
  have h1 : (BitVec.ofInt 8 (a : Int)).toNat = a := by rw [BitVec.ofInt_natCast, BitVec.toNat_ofNat]; exact Nat.mod_eq_of_lt (by omega)
  have h2 : (BitVec.ofInt 8 (b : Int)).toNat = b := by rw [BitVec.ofInt_natCast, BitVec.toNat_ofNat]; exact Nat.mod_eq_of_lt (by omega)
  show IntKind.u8.wrap ((BitVec.ofInt 8 (a : Int) &&& BitVec.ofInt 8 (b : Int)).toNat : Int) = _
  rw [BitVec.toNat_and, h1, h2]
  exact IntWalk.u8_in _ (by omega)

theorem bits_or_i64 (a b : Nat) (ha : a < 9223372036854775808) (hb : b < 9223372036854775808) : bits .or .i64 (a : Int) (b : Int) = ((a ||| b : Nat) : Int) := by
  have hx : a ||| b < 2 ^ 63 := Nat.or_lt_two_pow (by omega) (by omega)
  have h1 : (BitVec.ofInt 64 (a : Int)).toNat = a := by rw [BitVec.ofInt_natCast, BitVec.toNat_ofNat]; exact Nat.mod_eq_of_lt (by omega)
  have h2 : (BitVec.ofInt 64 (b : Int)).toNat = b := by rw [BitVec.ofInt_natCast, BitVec.toNat_ofNat]; exact Nat.mod_eq_of_lt (by omega)
  show IntKind.i64.wrap ((BitVec.ofInt 64 (a : Int) ||| BitVec.ofInt 64 (b : Int)).toNat : Int) = _
  rw [BitVec.toNat_or, h1, h2]
  exact IntWalk.i64_in _ (by omega)

theorem bits_and_i64 (a b : Nat) (ha : a < 9223372036854775808) (hb : b < 9223372036854775808) : bits .and .i64 (a : Int) (b : Int) = ((a &&& b : Nat) : Int) := by
  have hx : a &&& b < 2 ^ 63 := Nat.and_lt_two_pow _ (by omega)
  have h1 : (BitVec.ofInt 64 (a : Int)).toNat = a := by rw [BitVec.ofInt_natCast, BitVec.toNat_ofNat]; exact Nat.mod_eq_of_lt (by omega)
  have h2 : (BitVec.ofInt 64 (b : Int)).toNat = b := by rw [BitVec.ofInt_natCast, BitVec.toNat_ofNat]; exact Nat.mod_eq_of_lt (by omega)
  show IntKind.i64.wrap ((BitVec.ofInt 64 (a : Int) &&& BitVec.ofInt 64 (b : Int)).toNat : Int) = _
  rw [BitVec.toNat_and, h1, h2]
  exact IntWalk.i64_in _ (by omega)

end Go.Proofs.Ytodfeaipoagphaa
/- Package snapshot: appendNumber, zigzag, unzigzag, gaps. -/
namespace Go.Proofs.Ytodfeaipoagphaa
open Go.RowKit

/-- a list of bytes has grown by some -/
def AppTo (w : World) (ao : Option Addr) (out : List Nat) (e : Ending) (w' : World) : Prop := ∃ ao' cap', e = .returned (.slice ao' out.length cap') ∧ Seg w' 5 1 ao' out.length cap' (bts out) ∧ Fr (blk ao) w w' ∧ Ext (blk ao) w (blk ao')
set_option maxRecDepth 100000 in
theorem or128 : ∀ a, a < 256 → a ||| 128 = a % 128 + 128 := by decide

set_option maxRecDepth 100000 in
set_option maxHeartbeats 4000000 in
theorem append_any (w : World) (ao : Option Addr) (cap : Nat) (out : List Nat) (n : Nat) (hs : Seg w 5 1 ao out.length cap (bts out)) (hn : n < 18446744073709551616) (hl : out.length ≤ 1099511627776) :
    Calls Try.prog 42 #[.slice ao out.length cap, .int .u64 (n : Int)] w (AppTo w ao (out ++ varN n)) := by
  obtain ⟨ib, hib, hb0, hb1, hb2⟩ := info_parts infoByte
  have HS := Lib.hid hs
  have HVL := Lib.hid (varN_len hn)
  clear hs
  go_enter Try.func42, Try.ntmps42
  go_wp2_with fail
  go_loopw [0, 1] (fun bv nv wr => ∃ (d : List Nat) (m : Nat) (oa : Option Addr) (oc : Nat), bv = .slice oa (out ++ d).length oc ∧ nv = .int .u64 (m : Int) ∧ m < 18446744073709551616 ∧ d ++ varN m = varN n ∧ Seg wr 5 1 oa (out ++ d).length oc (bts (out ++ d)) ∧ Fr (blk ao) w wr ∧ Ext (blk ao) w (blk oa)) (fun _ nv _ => (intOf nv).toNat)
  case atStart => exact ⟨[], n, ao, cap, by simp, rfl, hn, rfl, by simpa using HS.out, Fr.refl _ _, Ext.refl _ _⟩
  case round =>
    obtain ⟨d, m, oa, oc, rfl, rfl, hm, hd, hseg, hf, hx⟩ := hrel
    obtain ⟨D, hD⟩ : ∃ D, D = out ++ d := ⟨_, rfl⟩
    have hdl : d.length ≤ 10 := by have := congrArg List.length hd; rw [List.length_append] at this; have := HVL.out; omega
    have hDl : D.length ≤ 1099511627786 := by rw [hD, List.length_append]; omega
    have HDE := Lib.hid hD
    rw [← hD] at hseg ⊢
    have HD := Lib.hid hd
    have HSG := Lib.hid fun (o : Obj) => hseg.alloc o
    have HF := Lib.hid hf
    have HX := Lib.hid hx
    clear hD hd hseg hf hx
    by_cases hm1 : 128 ≤ m
    · have hmi : (128 : Int) ≤ (m : Int) := by omega
      obtain ⟨x, hx⟩ : ∃ x, x = m % 128 + 128 := ⟨_, rfl⟩
      have hor : bits .or .u8 ((m : Int) % 256) 128 = (x : Int) := by
        have h := bits_or_u8 (m % 256) 128 (by omega) (by omega)
        rw [or128 _ (by omega)] at h
        rw [hx, show (m : Int) % 256 = ((m % 256 : Nat) : Int) by omega]
        refine Eq.trans h ?_
        omega
      have HXE := Lib.hid hx
      clear hx
      go_wp2_with (at_builtin; refine wpList_append_seg rfl _ _ 33 rfl 5 ib _ 1 1 Try.underlying33 hib hb0 hb1 hb2 rfl (by decide) oa D.length oc (bts D) rfl (HSG.out _) ⟨_, 0, none⟩ 1 1 [.int .u8 (x : Int)] rfl rfl (fun j u hu => by rw [Addr.add_mid, Nat.zero_add, World.cell?_alloc_new]; simpa using hu) (by simp [Value.oneCell']) (by unfold maxLen; omega) (by omega) ?_; intro ao' cap' w5 hs5 hf5 hx5; have HS5 := Lib.hid hs5; have HF5 := Lib.hid (((Fr.refl (blk oa) wr).alloc _).trans hf5 (Ext.refl _ _)); have HX5 := Lib.hid hx5; clear hs5 hf5 hx5)
      go_roundw
      case rel =>
        have hlen : (out ++ (d ++ [x])).length = D.length + 1 := by rw [HDE.out]; simp; omega
        have e : out ++ (d ++ [x]) = D ++ [x] := by rw [HDE.out, List.append_assoc]
        refine ⟨d ++ [x], m / 128, ao', cap', by rw [hlen], by go_num, by omega, by rw [← HD.out, varN_ge hm1, ← HXE.out]; simp, by rw [hlen, e, bts_append]; exact HS5.out, HF.out.trans HF5.out HX.out, fun k hk => ?_⟩
        rcases HX5.out k hk with h | h
        · exact HX.out k h
        · have := HF.out.size; simp at h; exact .inr (by omega)
      case measure => simp [intOf]; omega
    · have hmi : (m : Int) < 128 := by omega
      have hm8 : (m : Int) % 256 = (m : Int) := by omega
      go_wp2_with (at_builtin; refine wpList_append_seg rfl _ _ 33 rfl 5 ib _ 1 1 Try.underlying33 hib hb0 hb1 hb2 rfl (by decide) oa D.length oc (bts D) rfl (HSG.out _) ⟨_, 0, none⟩ 1 1 [.int .u8 (m : Int)] rfl rfl (fun j u hu => by rw [Addr.add_mid, Nat.zero_add, World.cell?_alloc_new]; simpa using hu) (by simp [Value.oneCell']) (by unfold maxLen; omega) (by omega) ?_; intro ao' cap' w5 hs5 hf5 hx5; have HS5 := Lib.hid hs5; have HF5 := Lib.hid (((Fr.refl (blk oa) wr).alloc _).trans hf5 (Ext.refl _ _)); have HX5 := Lib.hid hx5; clear hs5 hf5 hx5)
      go_ret
      have hlen : (D ++ [m]).length = D.length + 1 := by simp
      have e : out ++ varN n = D ++ [m] := by rw [HDE.out, ← HD.out, varN_lt (by omega), List.append_assoc]
      rw [e]
      refine ⟨ao', cap', by rw [hlen]; rfl, by rw [hlen, bts_append]; exact HS5.out, HF.out.trans HF5.out HX.out, fun k hk => ?_⟩
      rcases HX5.out k hk with h | h
      · exact HX.out k h
      · have := HF.out.size; simp at h; exact .inr (by omega)

theorem zig_bits (d : Int) (h0 : -9223372036854775808 ≤ d) (h1 : d ≤ 9223372036854775807) : bits .xor .u64 (IntKind.u64.wrap (IntKind.u64.wrap d * 2)) (IntKind.u64.wrap (d / 9223372036854775808)) = ((zz d : Nat) : Int) := by
  by_cases hd : d < 0
  · have e1 : IntKind.u64.wrap (IntKind.u64.wrap d * 2) = (((2 * d + 18446744073709551616).toNat : Nat) : Int) := by
      rw [IntKind.wrap_u64, IntKind.wrap_u64]; omega
    have e2 : IntKind.u64.wrap (d / 9223372036854775808) = ((2 ^ 64 - 1 : Nat) : Int) := by
      rw [show d / 9223372036854775808 = -1 by omega]; decide
    rw [e1, e2, Go.u64_xor_nat _ _ (by omega) (by decide), Nat.xor_comm, Go.Lib.xor_ones64 _ (by omega)]
    unfold zz
    rw [if_pos hd]
    omega
  · have e1 : IntKind.u64.wrap (IntKind.u64.wrap d * 2) = (((2 * d).toNat : Nat) : Int) := by
      rw [IntKind.wrap_u64, IntKind.wrap_u64]; omega
    have e2 : IntKind.u64.wrap (d / 9223372036854775808) = ((0 : Nat) : Int) := by
      rw [show d / 9223372036854775808 = 0 by omega]; decide
    rw [e1, e2, Go.u64_xor_nat _ _ (by omega) (by decide), Nat.xor_zero]
    unfold zz
    rw [if_neg hd]
theorem uzig_bits (n : Nat) (hn : n < 18446744073709551616) : bits .xor .i64 ((n : Int) / 2) (wrap64 (-wrap64 (bits .and .u64 (n : Int) 1))) = uz n := by
  rw [Go.Lib.u64_and1 _ (by omega) (by omega)]
  unfold uz
  split
  · rename_i h
    rw [show (n : Int) % 2 = 1 by omega]
    have e : wrap64 (-wrap64 1) = -1 := by unfold wrap64; omega
    rw [e]
    have h2 := Go.Lib.i64_not (n / 2) (by omega)
    have hc : bits .xor .i64 ((n : Int) / 2) (-1) = bits .xor .i64 (-1) ((n / 2 : Nat) : Int) := by
      show IntKind.i64.wrap ((BitVec.ofInt 64 ((n : Int) / 2) ^^^ BitVec.ofInt 64 (-1)).toNat : Int) = IntKind.i64.wrap ((BitVec.ofInt 64 (-1) ^^^ BitVec.ofInt 64 ((n / 2 : Nat) : Int)).toNat : Int)
      rw [BitVec.xor_comm]; rfl
    rw [hc, h2]
  · rename_i h
    rw [show (n : Int) % 2 = 0 by omega]
    have e : wrap64 (-wrap64 0) = 0 := by unfold wrap64; omega
    rw [e]
    show IntKind.i64.wrap ((BitVec.ofInt 64 ((n : Int) / 2) ^^^ BitVec.ofInt 64 0).toNat : Int) = _
    have h2 : (BitVec.ofInt 64 ((n / 2 : Nat) : Int)).toNat = n / 2 := by
      rw [BitVec.ofInt_natCast, BitVec.toNat_ofNat]; exact Nat.mod_eq_of_lt (by omega)
    have h3 : (BitVec.ofInt 64 0).toNat = 0 := by decide
    rw [show (n : Int) / 2 = ((n / 2 : Nat) : Int) by omega, BitVec.toNat_xor, h2, h3, Nat.xor_zero, IntKind.wrap_i64]
    omega

set_option maxHeartbeats 1000000 in
theorem zigzag_any (w : World) (d : Int) (h0 : -9223372036854775808 ≤ d) (h1 : d ≤ 9223372036854775807) : Calls Try.prog 43 #[.int .i64 d] w fun e w' => e = .returned (.int .u64 ((zz d : Nat) : Int)) ∧ w = w' := by
  have HZ := Lib.hid (zig_bits d h0 h1)
  go_enter Try.func43, Try.ntmps43
  go_wp2
  go_ret
  exact ⟨ret_int HZ.out, rfl⟩
set_option maxHeartbeats 1000000 in
theorem unzigzag_any (w : World) (n : Nat) (hn : n < 18446744073709551616) : Calls Try.prog 59 #[.int .u64 (n : Int)] w fun e w' => e = .returned (.int .i64 (uz n)) ∧ w = w' := by
  have HZ := Lib.hid (uzig_bits n hn)
  go_enter Try.func59, Try.ntmps59
  go_wp2
  go_ret
  exact ⟨ret_int HZ.out, rfl⟩

set_option maxHeartbeats 1000000 in
theorem gaps_any (w : World) : Calls Try.prog 40 #[] w fun e w' => e = .returned (.func (.func 55) #[] #[.pointer (some ⟨w.heap.size, 0, none⟩)]) ∧ w' = w.alloc (.cells #[.int .i64 (-1)] 3) := by
  go_enter Try.func40, Try.ntmps40
  go_wp2
  go_ret
  exact ⟨rfl, rfl⟩
set_option maxHeartbeats 1000000 in
theorem gap_any (w : World) (p : Nat) (prev k : Int) (hp : w.heap[p]? = some (.cells #[.int .i64 prev] 3 (0, 0))) (h0 : -1 ≤ prev) (h1 : prev < k) (h2 : k ≤ 2147483647) :
    Calls Try.prog 55 #[.int .i64 k, .pointer (some ⟨p, 0, none⟩)] w fun e w' => e = .returned (.int .u64 (((k - prev - 1).toNat : Nat) : Int)) ∧ w' = w.setCell ⟨p, 0, none⟩ (.int .i64 k) := by
  have c := cell_blk hp 0
  have f := frozen_blk hp 0
  simp at c
  have HE := Lib.hid (by omega : (((k - prev - 1).toNat : Nat) : Int) = k - prev - 1)
  have h3 : 0 ≤ k - prev - 1 := by omega
  clear hp
  go_enter Try.func55, Try.ntmps55
  go_wp2
  go_ret
  exact ⟨by rw [HE.out]; rfl, rfl⟩
end Go.Proofs.Ytodfeaipoagphaa
/- Chapter 28, plain: views, the difference of two views, and what applying it leaves. -/
namespace Go.Proofs.Ytodfeaipoagphaa
open Go.RowKit

/-! ### views -/
def bd64 (x : Int) : Prop := -9223372036854775808 ≤ x ∧ x ≤ 9223372036854775807
def Srt (l : List (Int × Int)) : Prop := l.Pairwise fun a b => a.1 < b.1
def idxOk (k : Int) : Prop := 0 ≤ k ∧ k ≤ 2147483647
structure IsView (l : List (Int × Int)) : Prop where
  srt : Srt l
  idx : ∀ x ∈ l, idxOk x.1
  val : ∀ x ∈ l, bd64 x.2
def has (l : List (Int × Int)) (k : Int) : Bool := l.any fun x => x.1 == k
def getv : List (Int × Int) → Int → Int
  | [], _ => 0
  | x :: l, k => if x.1 = k then x.2 else getv l k

theorem has_mem {l : List (Int × Int)} {k : Int} : has l k = true ↔ ∃ v, (k, v) ∈ l := by
  unfold has
  rw [List.any_eq_true]
  constructor
  · rintro ⟨x, hx, h⟩; rw [beq_iff_eq] at h; exact ⟨x.2, by rw [← h]; exact hx⟩
  · rintro ⟨v, h⟩; exact ⟨_, h, by simp⟩
theorem has_cons (x : Int × Int) (l : List (Int × Int)) (k : Int) : has (x :: l) k = ((x.1 == k) || has l k) := rfl
theorem has_lt {l : List (Int × Int)} {k : Int} (h : ∀ x ∈ l, k < x.1) : has l k = false := by
  rw [Bool.eq_false_iff]
  intro h1
  obtain ⟨v, hv⟩ := has_mem.1 h1
  have := h _ hv
  simp only at this; omega
theorem Srt.tail {x : Int × Int} {l : List (Int × Int)} (h : Srt (x :: l)) : Srt l := (List.pairwise_cons.1 h).2
theorem Srt.head {x : Int × Int} {l : List (Int × Int)} (h : Srt (x :: l)) : ∀ y ∈ l, x.1 < y.1 := (List.pairwise_cons.1 h).1
theorem getv_mem {l : List (Int × Int)} (h : Srt l) {x : Int × Int} (hx : x ∈ l) : getv l x.1 = x.2 := by
  induction l with
  | nil => cases hx
  | cons y l ih =>
    unfold getv
    rcases List.mem_cons.1 hx with h1 | h1
    · subst h1; rw [if_pos rfl]
    · have := h.head x h1
      rw [if_neg (by omega)]; exact ih h.tail h1
theorem getv_none {l : List (Int × Int)} {k : Int} (h : has l k = false) : getv l k = 0 := by
  induction l with
  | nil => rfl
  | cons y l ih =>
    rw [has_cons, Bool.or_eq_false_iff] at h
    unfold getv
    rw [if_neg (by have := h.1; rw [beq_eq_false_iff_ne] at this; exact this)]
    exact ih h.2
theorem getv_bd {l : List (Int × Int)} (h : ∀ x ∈ l, bd64 x.2) (k : Int) : bd64 (getv l k) := by
  induction l with
  | nil => unfold getv bd64; omega
  | cons y l ih =>
    unfold getv
    split
    · exact h y (by simp)
    · exact ih fun x hx => h x (by simp [hx])
theorem getv_has {l : List (Int × Int)} {k : Int} (h : has l k = true) : (k, getv l k) ∈ l := by
  induction l with
  | nil => cases h
  | cons y l ih =>
    unfold getv
    by_cases e : y.1 = k
    · rw [if_pos e, ← e]; simp
    · rw [if_neg e]
      rw [has_cons, Bool.or_eq_true, beq_iff_eq] at h
      rcases h with h1 | h1
      · exact absurd h1 e
      · exact List.mem_cons_of_mem _ (ih h1)

/-- two lists in strictly rising order that hold the same elements -/
theorem srt_eq : ∀ {l m : List (Int × Int)}, Srt l → Srt m → (∀ x, x ∈ l ↔ x ∈ m) → l = m := by
  intro l
  induction l with
  | nil =>
    intro m _ _ h
    cases m with
    | nil => rfl
    | cons y m => exact absurd ((h y).2 (by simp)) (by simp)
  | cons x l ih =>
    intro m hl hm h
    cases m with
    | nil => exact absurd ((h x).1 (by simp)) (by simp)
    | cons y m =>
      have hxy : x = y := by
        have h1 := (h x).1 (by simp)
        have h2 := (h y).2 (by simp)
        rcases List.mem_cons.1 h1 with e | e
        · exact e
        · rcases List.mem_cons.1 h2 with e2 | e2
          · exact e2.symm
          · have a1 := hm.head x e
            have a2 := hl.head y e2
            omega
      subst hxy
      congr 1
      refine ih hl.tail hm.tail fun z => ?_
      constructor
      · intro hz
        rcases List.mem_cons.1 ((h z).1 (by simp [hz])) with e | e
        · subst e; have := hl.head z hz; omega
        · exact e
      · intro hz
        rcases List.mem_cons.1 ((h z).2 (by simp [hz])) with e | e
        · subst e; have := hm.head z hz; omega
        · exact e
theorem ints_eq {l m : List Int} (hl : l.Pairwise (· < ·)) (hm : m.Pairwise (· < ·)) (h : ∀ x, x ∈ l ↔ x ∈ m) : l = m := by
  have e : ∀ l : List Int, (l.map fun x => (x, (0 : Int))).map Prod.fst = l := fun l => by rw [List.map_map]; exact List.map_id _
  have h1 : (l.map fun x => (x, (0 : Int))) = m.map fun x => (x, (0 : Int)) := by
    refine srt_eq ?_ ?_ fun x => ?_
    · unfold Srt; rw [List.pairwise_map]; exact hl
    · unfold Srt; rw [List.pairwise_map]; exact hm
    · simp only [List.mem_map]
      constructor
      · rintro ⟨y, hy, rfl⟩; exact ⟨y, (h y).1 hy, rfl⟩
      · rintro ⟨y, hy, rfl⟩; exact ⟨y, (h y).2 hy, rfl⟩
  rw [← e l, ← e m, h1]

/-! ### the merge of two views -/
structure Pr where
  bi : Int
  bv : Int
  ai : Int
  av : Int
  ib : Bool
  ia : Bool
def prB (x : Int × Int) : Pr := ⟨x.1, x.2, 0, 0, true, false⟩
def prA (y : Int × Int) : Pr := ⟨0, 0, y.1, y.2, false, true⟩
def prX (x y : Int × Int) : Pr := ⟨x.1, x.2, y.1, y.2, true, true⟩
def mg : List (Int × Int) → List (Int × Int) → List Pr
  | [], b => b.map prA
  | x :: a, [] => (x :: a).map prB
  | x :: a, y :: b => if x.1 < y.1 then prB x :: mg a (y :: b) else if y.1 < x.1 then prA y :: mg (x :: a) b else prX x y :: mg a b
termination_by a b => a.length + b.length
theorem mg_nil (b : List (Int × Int)) : mg [] b = b.map prA := by cases b <;> rw [mg]
theorem mg_nil' (a : List (Int × Int)) : mg a [] = a.map prB := by cases a <;> simp [mg]
theorem mg_lt {x y : Int × Int} {a b : List (Int × Int)} (h : x.1 < y.1) : mg (x :: a) (y :: b) = prB x :: mg a (y :: b) := by rw [mg, if_pos h]
theorem mg_gt {x y : Int × Int} {a b : List (Int × Int)} (h : y.1 < x.1) : mg (x :: a) (y :: b) = prA y :: mg (x :: a) b := by rw [mg, if_neg (by omega), if_pos h]
theorem mg_eq {x y : Int × Int} {a b : List (Int × Int)} (h : x.1 = y.1) : mg (x :: a) (y :: b) = prX x y :: mg a b := by rw [mg, if_neg (by omega), if_neg (by omega)]
theorem mg_len : ∀ (a b : List (Int × Int)), (mg a b).length ≤ a.length + b.length := by
  intro a b
  induction a, b using mg.induct with
  | case1 b => rw [mg_nil]; simp
  | case2 x a => rw [mg_nil']; simp
  | case3 x a y b h ih => rw [mg_lt h]; simp only [List.length_cons] at ih ⊢; omega
  | case4 x a y b h h2 ih => rw [mg_gt h2]; simp only [List.length_cons] at ih ⊢; omega
  | case5 x a y b h h2 ih => rw [mg_eq (by omega)]; simp only [List.length_cons] at ih ⊢; omega

/-- what is gone, what is changed -/
def goneL (a b : List (Int × Int)) : List Int := (a.filter fun x => !(has b x.1)).map (·.1)
def same (a : List (Int × Int)) (y : Int × Int) : Bool := has a y.1 && getv a y.1 == y.2
def chgL (a b : List (Int × Int)) : List (Int × Int) := b.filter fun y => !(same a y)
def isGone (p : Pr) : Bool := !p.ia
def isChg (p : Pr) : Bool := p.ia && (!p.ib || !(p.bi == p.ai && p.bv == p.av))
def goneP (t : List Pr) : List Int := (t.filter isGone).map (·.bi)
def chgP' (t : List Pr) : List (Int × Int × Int) := (t.filter isChg).map fun p => (p.ai, p.av, p.bv)

def encG (prev : Int) : List Int → List Nat
  | [] => []
  | k :: r => varN (k - prev - 1).toNat ++ encG k r
def encD (prev : Int) : List (Int × Int × Int) → List Nat
  | [] => []
  | y :: r => varN (y.1 - prev - 1).toNat ++ varN (zz (wrap64 (y.2.1 - y.2.2))) ++ encD y.1 r
def withOld (a : List (Int × Int)) (l : List (Int × Int)) : List (Int × Int × Int) := l.map fun y => (y.1, y.2, getv a y.1)
def encC (a : List (Int × Int)) (prev : Int) (l : List (Int × Int)) : List Nat := encD prev (withOld a l)
theorem encC_cons (a : List (Int × Int)) (prev : Int) (y : Int × Int) (l : List (Int × Int)) : encC a prev (y :: l) = varN (y.1 - prev - 1).toNat ++ varN (zz (wrap64 (y.2 - getv a y.1))) ++ encC a y.1 l := rfl
def diffL (a b : List (Int × Int)) : List Nat := varN (goneL a b).length ++ encG (-1) (goneL a b) ++ varN (chgL a b).length ++ encC a (-1) (chgL a b)

theorem filter_congr' {α : Type} {p q : α → Bool} {l : List α} (h : ∀ x ∈ l, p x = q x) : l.filter p = l.filter q := List.filter_congr h

theorem mg_gone : ∀ (a b : List (Int × Int)), Srt a → Srt b → goneP (mg a b) = goneL a b := by
  intro a b
  induction a, b using mg.induct with
  | case1 b =>
    intro _ _
    rw [mg_nil]
    unfold goneP goneL
    rw [List.filter_map]
    have : (b.filter (isGone ∘ prA)) = [] := by rw [List.filter_eq_nil_iff]; intro x _; simp [isGone, prA]
    rw [this]; rfl
  | case2 x a =>
    intro _ _
    rw [mg_nil']
    unfold goneP goneL
    rw [List.filter_map, List.map_map]
    congr 1
  | case3 x a y b h ih =>
    intro ha hb
    have ih := ih ha.tail hb
    rw [mg_lt h]
    have h1 : has (y :: b) x.1 = false := has_lt fun z hz => by
      rcases List.mem_cons.1 hz with e | e
      · subst e; exact h
      · have := hb.head z e; omega
    unfold goneP goneL at ih ⊢
    rw [List.filter_cons_of_pos (by simp [isGone, prB]), List.filter_cons_of_pos (by simp [h1])]
    rw [List.map_cons, List.map_cons, ih]; rfl
  | case4 x a y b h h2 ih =>
    intro ha hb
    have ih := ih ha hb.tail
    rw [mg_gt h2]
    unfold goneP goneL at ih ⊢
    rw [List.filter_cons_of_neg (by simp [isGone, prA]), ih]
    congr 1
    refine filter_congr' fun z hz => ?_
    have : y.1 < z.1 := by
      rcases List.mem_cons.1 hz with e | e
      · subst e; exact h2
      · have := ha.head z e; omega
    rw [has_cons, show (y.1 == z.1) = false from beq_eq_false_iff_ne.2 (by omega), Bool.false_or]
  | case5 x a y b h h2 ih =>
    intro ha hb
    have ih := ih ha.tail hb.tail
    have e : x.1 = y.1 := by omega
    rw [mg_eq e]
    unfold goneP goneL at ih ⊢
    rw [List.filter_cons_of_neg (by simp [isGone, prX]), List.filter_cons_of_neg (by simp [has_cons, e]), ih]
    congr 1
    refine filter_congr' fun z hz => ?_
    have := ha.head z hz
    rw [has_cons, show (y.1 == z.1) = false from beq_eq_false_iff_ne.2 (by omega), Bool.false_or]

theorem same_cons {x : Int × Int} {a : List (Int × Int)} {y : Int × Int} (h : x.1 ≠ y.1) : same (x :: a) y = same a y ∧ getv (x :: a) y.1 = getv a y.1 := by
  have e : getv (x :: a) y.1 = getv a y.1 := by unfold getv; rw [if_neg h]; cases a <;> rfl
  refine ⟨?_, e⟩
  unfold same
  rw [has_cons, e, show (x.1 == y.1) = false from beq_eq_false_iff_ne.2 h, Bool.false_or]

theorem mg_chg : ∀ (a b : List (Int × Int)), Srt a → Srt b → chgP' (mg a b) = withOld a (chgL a b) := by
  intro a b
  induction a, b using mg.induct with
  | case1 b =>
    intro _ _
    rw [mg_nil]
    unfold chgP' withOld chgL
    rw [List.filter_map, List.map_map]
    have e1 : b.filter (isChg ∘ prA) = b.filter fun y => !(same [] y) := filter_congr' fun x _ => by simp [isChg, prA, same, has]
    rw [e1]
    refine List.map_congr_left fun y _ => ?_
    simp [prA, getv]
  | case2 x a =>
    intro _ _
    rw [mg_nil']
    unfold chgP' withOld chgL
    rw [List.filter_map]
    have : ((x :: a).filter (isChg ∘ prB)) = [] := by rw [List.filter_eq_nil_iff]; intro x _; simp [isChg, prB]
    rw [this]; rfl
  | case3 x a y b h ih =>
    intro ha hb
    have ih := ih ha.tail hb
    rw [mg_lt h]
    have hlt : ∀ z ∈ y :: b, x.1 < z.1 := fun z hz => by
      rcases List.mem_cons.1 hz with e | e
      · subst e; exact h
      · have := hb.head z e; omega
    unfold chgP' withOld chgL at ih ⊢
    rw [List.filter_cons_of_neg (by simp [isChg, prB]), ih]
    have e1 : (y :: b).filter (fun y => !(same (x :: a) y)) = (y :: b).filter fun y => !(same a y) := filter_congr' fun z hz => by rw [(same_cons (by have := hlt z hz; omega)).1]
    rw [e1]
    refine List.map_congr_left fun z hz => ?_
    rw [(same_cons (by have := hlt z ((List.mem_filter.1 hz).1); omega)).2]
  | case4 x a y b h h2 ih =>
    intro ha hb
    have ih := ih ha hb.tail
    rw [mg_gt h2]
    have hn : has (x :: a) y.1 = false := has_lt fun z hz => by
      rcases List.mem_cons.1 hz with e | e
      · subst e; exact h2
      · have := ha.head z e; omega
    unfold chgP' withOld chgL at ih ⊢
    rw [List.filter_cons_of_pos (by simp [isChg, prA]), List.filter_cons_of_pos (by simp [same, hn]), List.map_cons, List.map_cons, ih, getv_none hn]
    rfl
  | case5 x a y b h h2 ih =>
    intro ha hb
    have ih := ih ha.tail hb.tail
    have e : x.1 = y.1 := by omega
    rw [mg_eq e]
    have hg : getv (x :: a) y.1 = x.2 := by unfold getv; rw [if_pos e]
    have hs : same (x :: a) y = (x.2 == y.2) := by unfold same; rw [has_cons, hg, show (x.1 == y.1) = true from beq_iff_eq.2 e]; simp
    have hlt : ∀ z ∈ b, x.1 < z.1 := fun z hz => by have := hb.head z hz; omega
    have e1 : b.filter (fun y => !(same (x :: a) y)) = b.filter fun y => !(same a y) := filter_congr' fun z hz => by rw [(same_cons (by have := hlt z hz; omega)).1]
    have e2 : (b.filter fun y => !(same a y)).map (fun y => (y.1, y.2, getv (x :: a) y.1)) = (b.filter fun y => !(same a y)).map fun y => (y.1, y.2, getv a y.1) := List.map_congr_left fun z hz => by
      rw [(same_cons (by have := hlt z ((List.mem_filter.1 hz).1); omega)).2]
    unfold chgP' withOld chgL at ih ⊢
    cases hxy : (x.2 == y.2)
    · rw [List.filter_cons_of_pos (by simp [isChg, prX, hxy]), List.filter_cons_of_pos (by simp [hs, hxy]), List.map_cons, List.map_cons, ih, e1, e2, hg]; rfl
    · rw [List.filter_cons_of_neg (by simp [isChg, prX, hxy, e]), List.filter_cons_of_neg (by simp [hs, hxy]), ih, e1, e2]

/-! ### what applying leaves -/
def inL (gone : List Int) (k : Int) : Bool := decide (k ∈ gone)
theorem inL_t {gone : List Int} {k : Int} (h : k ∈ gone) : inL gone k = true := decide_eq_true h
theorem inL_f {gone : List Int} {k : Int} (h : k ∉ gone) : inL gone k = false := decide_eq_false h
def outP (gone : List Int) (p : Pr) : Option (Int × Int) := cond p.ia (some (p.ai, p.av)) (cond (inL gone p.bi) none (some (p.bi, p.bv)))
theorem outP_A (gone : List Int) (y : Int × Int) : outP gone (prA y) = some y := rfl
theorem outP_X (gone : List Int) (x y : Int × Int) : outP gone (prX x y) = some y := rfl
theorem outP_Bt {gone : List Int} {x : Int × Int} (h : x.1 ∈ gone) : outP gone (prB x) = none := by unfold outP prB; simp only [cond_false, inL_t h, cond_true]
theorem outP_Bf {gone : List Int} {x : Int × Int} (h : x.1 ∉ gone) : outP gone (prB x) = some x := by unfold outP prB; simp only [cond_false, inL_f h]
def mv (a c : List (Int × Int)) (gone : List Int) : List (Int × Int) := (mg a c).filterMap (outP gone)
theorem mv_mem (gone : List Int) : ∀ (a c : List (Int × Int)), Srt a → Srt c → ∀ x, x ∈ mv a c gone ↔ x ∈ c ∨ (x ∈ a ∧ has c x.1 = false ∧ x.1 ∉ gone) := by
  intro a c
  unfold mv
  induction a, c using mg.induct with
  | case1 b =>
    intro _ _ x
    rw [mg_nil, List.filterMap_map, show (outP gone ∘ prA) = some from funext fun y => outP_A gone y, List.filterMap_some]
    simp
  | case2 x a =>
    intro _ _ z
    rw [mg_nil', List.filterMap_map]
    simp only [List.mem_filterMap, Function.comp_apply]
    constructor
    · rintro ⟨u, hu, h⟩
      by_cases h1 : u.1 ∈ gone
      · rw [outP_Bt h1] at h; cases h
      · rw [outP_Bf h1] at h; cases h; exact .inr ⟨hu, rfl, h1⟩
    · rintro (h | ⟨h1, -, h3⟩)
      · cases h
      · exact ⟨z, h1, outP_Bf h3⟩
  | case3 x a y b h ih =>
    intro ha hb z
    have ih := ih ha.tail hb z
    rw [mg_lt h]
    have hn : has (y :: b) x.1 = false := has_lt fun z hz => by
      rcases List.mem_cons.1 hz with e | e
      · subst e; exact h
      · have := hb.head z e; omega
    have key : z ∈ (prB x :: mg a (y :: b)).filterMap (outP gone) ↔ (z = x ∧ x.1 ∉ gone) ∨ z ∈ (mg a (y :: b)).filterMap (outP gone) := by
      by_cases hg : x.1 ∈ gone
      · rw [List.filterMap_cons_none (by first | exact outP_Bt hg | exact outP_Bf hg)]; simp [hg]
      · rw [List.filterMap_cons_some (b := x) (by first | exact outP_Bt hg | exact outP_Bf hg)]; simp [hg]
    rw [key, ih]
    constructor
    · rintro (⟨rfl, h1⟩ | h1 | ⟨h1, h2, h3⟩)
      · exact .inr ⟨by simp, hn, h1⟩
      · exact .inl h1
      · exact .inr ⟨by simp [h1], h2, h3⟩
    · rintro (h1 | ⟨h1, h2, h3⟩)
      · exact .inr (.inl h1)
      · rcases List.mem_cons.1 h1 with e | e
        · subst e; exact .inl ⟨rfl, h3⟩
        · exact .inr (.inr ⟨e, h2, h3⟩)
  | case4 x a y b h h2 ih =>
    intro ha hb z
    have ih := ih ha hb.tail z
    rw [mg_gt h2, List.filterMap_cons_some (b := y) (outP_A gone y), List.mem_cons, ih]
    have hc : z ∈ x :: a → has (y :: b) z.1 = has b z.1 := fun hz => by
      have : y.1 < z.1 := by
        rcases List.mem_cons.1 hz with e | e
        · subst e; exact h2
        · have := ha.head z e; omega
      rw [has_cons, show (y.1 == z.1) = false from beq_eq_false_iff_ne.2 (by omega), Bool.false_or]
    constructor
    · rintro (h1 | h1 | ⟨h1, h3, h4⟩)
      · exact .inl (by simp [h1])
      · exact .inl (by simp [h1])
      · exact .inr ⟨h1, by rw [hc h1]; exact h3, h4⟩
    · rintro (h1 | ⟨h1, h3, h4⟩)
      · rcases List.mem_cons.1 h1 with e | e
        · exact .inl e
        · exact .inr (.inl e)
      · exact .inr (.inr ⟨h1, by rw [← hc h1]; exact h3, h4⟩)
  | case5 x a y b h h2 ih =>
    intro ha hb z
    have ih := ih ha.tail hb.tail z
    have e : x.1 = y.1 := by omega
    rw [mg_eq e, List.filterMap_cons_some (b := y) (outP_X gone x y), List.mem_cons, ih]
    have hc : z ∈ a → has (y :: b) z.1 = has b z.1 := fun hz => by
      have := ha.head z hz
      rw [has_cons, show (y.1 == z.1) = false from beq_eq_false_iff_ne.2 (by omega), Bool.false_or]
    constructor
    · rintro (h1 | h1 | ⟨h1, h3, h4⟩)
      · exact .inl (by simp [h1])
      · exact .inl (by simp [h1])
      · exact .inr ⟨by simp [h1], by rw [hc h1]; exact h3, h4⟩
    · rintro (h1 | ⟨h1, h3, h4⟩)
      · rcases List.mem_cons.1 h1 with e | e
        · exact .inl e
        · exact .inr (.inl e)
      · rcases List.mem_cons.1 h1 with e1 | e1
        · subst e1; rw [has_cons, show (y.1 == z.1) = true from beq_iff_eq.2 e.symm] at h3; cases h3
        · exact .inr (.inr ⟨e1, by rw [← hc e1]; exact h3, h4⟩)
theorem mv_srt (gone : List Int) : ∀ (a c : List (Int × Int)), Srt a → Srt c → Srt (mv a c gone) := by
  intro a c
  have hm := mv_mem gone
  induction a, c using mg.induct with
  | case1 b =>
    intro _ hb
    unfold mv
    rw [mg_nil, List.filterMap_map, show (outP gone ∘ prA) = some from funext fun y => outP_A gone y, List.filterMap_some]; exact hb
  | case2 x a =>
    intro ha _
    unfold mv
    rw [mg_nil', List.filterMap_map]
    unfold Srt at ha ⊢
    rw [List.pairwise_filterMap]
    refine ha.imp fun {u v} huv z hz t ht => ?_
    simp only [Function.comp_apply] at hz ht
    by_cases h1 : u.1 ∈ gone
    · rw [outP_Bt h1] at hz; cases hz
    · by_cases h2 : v.1 ∈ gone
      · rw [outP_Bt h2] at ht; cases ht
      · rw [outP_Bf h1] at hz; rw [outP_Bf h2] at ht; cases hz; cases ht; exact huv
  | case3 x a y b h ih =>
    intro ha hb
    have ih := ih ha.tail hb
    unfold mv at ih ⊢
    rw [mg_lt h]
    by_cases hg : x.1 ∈ gone
    · rw [List.filterMap_cons_none (by first | exact outP_Bt hg | exact outP_Bf hg)]; exact ih
    · rw [List.filterMap_cons_some (b := x) (by first | exact outP_Bt hg | exact outP_Bf hg)]
      refine List.pairwise_cons.2 ⟨fun z hz => ?_, ih⟩
      rcases (hm a (y :: b) ha.tail hb z).1 hz with h1 | ⟨h1, -, -⟩
      · rcases List.mem_cons.1 h1 with e | e
        · subst e; exact h
        · have := hb.head z e; omega
      · exact ha.head z h1
  | case4 x a y b h h2 ih =>
    intro ha hb
    have ih := ih ha hb.tail
    unfold mv at ih ⊢
    rw [mg_gt h2, List.filterMap_cons_some (b := y) (outP_A gone y)]
    refine List.pairwise_cons.2 ⟨fun z hz => ?_, ih⟩
    rcases (hm (x :: a) b ha hb.tail z).1 hz with h1 | ⟨h1, -, -⟩
    · exact hb.head z h1
    · rcases List.mem_cons.1 h1 with e | e
      · subst e; exact h2
      · have := ha.head z e; omega
  | case5 x a y b h h2 ih =>
    intro ha hb
    have ih := ih ha.tail hb.tail
    have e : x.1 = y.1 := by omega
    unfold mv at ih ⊢
    rw [mg_eq e, List.filterMap_cons_some (b := y) (outP_X gone x y)]
    refine List.pairwise_cons.2 ⟨fun z hz => ?_, ih⟩
    rcases (hm a b ha.tail hb.tail z).1 hz with h1 | ⟨h1, -, -⟩
    · exact hb.head z h1
    · have := ha.head z h1; omega
end Go.Proofs.Ytodfeaipoagphaa
/- Chapter 28, plain: reading a difference; the round trip, the one encoding, the prefixes. -/
namespace Go.Proofs.Ytodfeaipoagphaa
open Go.RowKit

def maxI : Int := 2147483647
/-- the next index, if the gap fits -/
def idxN (prev : Int) (g : Nat) : Option Int := if (maxI - prev - 1 < (g : Int)) ∨ prev = maxI then none else some (prev + 1 + (g : Int))
def remP (a : List (Int × Int)) : Nat → Int → List Nat → Rdr (List Int)
  | 0, _, b => .ok [] b
  | n + 1, prev, b => match readV b with
    | .bad e => .bad e
    | .ok g r => match idxN prev g with
      | none => .bad 8
      | some k => bif has a k then (match remP a n k r with | .bad e => .bad e | .ok l r' => .ok (k :: l) r') else .bad 8
def newV (a : List (Int × Int)) (k : Int) (z : Nat) : Int := wrap64 (getv a k + uz z)
def stays (a : List (Int × Int)) (k v : Int) : Bool := has a k && (v == getv a k)
def chgQ (a : List (Int × Int)) (gone : List Int) : Nat → Int → List Nat → Rdr (List (Int × Int))
  | 0, _, b => .ok [] b
  | n + 1, prev, b => match readV b with
    | .bad e => .bad e
    | .ok g r => match idxN prev g with
      | none => .bad 8
      | some k => bif inL gone k then .bad 8 else (match readV r with
        | .bad e => .bad e
        | .ok z r1 => bif stays a k (newV a k z) then .bad 8 else (match chgQ a gone n k r1 with | .bad e => .bad e | .ok l r' => .ok ((k, newV a k z) :: l) r'))
def applyR (a : List (Int × Int)) (b : List Nat) : Rdr (List (Int × Int)) := match readV b with
  | .bad e => .bad e
  | .ok n1 r1 => match remP a n1 (-1) r1 with
    | .bad e => .bad e
    | .ok gone r2 => match readV r2 with
      | .bad e => .bad e
      | .ok n2 r3 => match chgQ a gone n2 (-1) r3 with
        | .bad e => .bad e
        | .ok ch r4 => match r4 with
          | [] => .ok (mv a ch gone) []
          | _ :: _ => .bad 8

/-! ### bounds of wraps -/
theorem wrap64_bd (x : Int) : bd64 (wrap64 x) := by unfold bd64 wrap64; omega
theorem wrap64_in {x : Int} (h : bd64 x) : wrap64 x = x := by unfold bd64 at h; unfold wrap64; omega
theorem wrap_back (x v : Int) (h : bd64 x) : wrap64 (v + wrap64 (x - v)) = x := by unfold bd64 at h; unfold wrap64; omega
theorem wrap_fore (u v : Int) (h : bd64 u) : wrap64 (wrap64 (v + u) - v) = u := by unfold bd64 at h; unfold wrap64; omega

/-! ### reading what was written -/
theorem idxN_ok {prev k : Int} (h0 : -1 ≤ prev) (h : prev < k) (hk : k ≤ maxI) : idxN prev (k - prev - 1).toNat = some k ∧ (k - prev - 1).toNat < 18446744073709551616 := by
  unfold maxI at hk
  unfold idxN maxI
  constructor
  · rw [if_neg (by omega)]; congr 1; omega
  · omega
theorem idxN_inv {prev k : Int} {g : Nat} (h : idxN prev g = some k) : prev < k ∧ k ≤ maxI ∧ g = (k - prev - 1).toNat := by
  unfold idxN at h
  split at h
  · cases h
  · rename_i h1
    cases h
    unfold maxI at *
    omega
def Rise (prev : Int) (l : List Int) : Prop := (∀ k ∈ l, prev < k ∧ k ≤ maxI) ∧ l.Pairwise (· < ·)
theorem Rise.tail {prev k : Int} {l : List Int} (h : Rise prev (k :: l)) : Rise k l := ⟨fun x hx => ⟨(List.pairwise_cons.1 h.2).1 x hx, (h.1 x (by simp [hx])).2⟩, (List.pairwise_cons.1 h.2).2⟩
theorem remP_enc (a : List (Int × Int)) : ∀ (L : List Int) (prev : Int) (r : List Nat), -1 ≤ prev → Rise prev L → (∀ k ∈ L, has a k = true) → remP a L.length prev (encG prev L ++ r) = .ok L r := by
  intro L
  induction L with
  | nil => intro prev r _ _ _; rfl
  | cons k L ih =>
    intro prev r hp hr hh
    have hk := hr.1 k (by simp)
    obtain ⟨h1, h2⟩ := idxN_ok hp hk.1 hk.2
    rw [List.length_cons, encG, List.append_assoc, remP, readV_var h2]
    simp only [h1, hh k (by simp), cond_true]
    rw [ih k r (by omega) hr.tail fun x hx => hh x (by simp [hx])]
theorem remP_inv (a : List (Int × Int)) : ∀ (n : Nat) (prev : Int) (b : List Nat) (L : List Int) (r : List Nat), -1 ≤ prev → BytesB b → remP a n prev b = .ok L r → b = encG prev L ++ r ∧ L.length = n ∧ Rise prev L ∧ (∀ k ∈ L, has a k = true) ∧ BytesB r := by
  intro n
  induction n with
  | zero => intro prev b L r _ hb h; cases h; exact ⟨rfl, rfl, ⟨by simp, List.Pairwise.nil⟩, by simp, hb⟩
  | succ n ih =>
    intro prev b L r hp hb h
    rw [remP] at h
    cases hv : readV b with
    | bad e => rw [hv] at h; cases h
    | ok g t =>
      rw [hv] at h
      simp only at h
      cases hi : idxN prev g with
      | none => rw [hi] at h; cases h
      | some k =>
        rw [hi] at h
        simp only at h
        cases hh : has a k with
        | false => rw [hh] at h; cases h
        | true =>
          rw [hh] at h
          simp only [cond_true] at h
          obtain ⟨e1, e2⟩ := readV_ok hb hv
          have hbt : BytesB t := fun x hx => hb x (by rw [e1]; simp [hx])
          obtain ⟨i1, i2, i3⟩ := idxN_inv hi
          cases hr : remP a n k t with
          | bad e => rw [hr] at h; cases h
          | ok l r' =>
            rw [hr] at h
            cases h
            obtain ⟨a1, a2, a3, a4, a5⟩ := ih k t l r (by omega) hbt hr
            refine ⟨?_, by rw [List.length_cons, a2], ⟨?_, ?_⟩, ?_, a5⟩
            · rw [encG, ← i3, e1, a1, List.append_assoc]
            · intro x hx
              rcases List.mem_cons.1 hx with e | e
              · subst e; exact ⟨i1, i2⟩
              · have := a3.1 x e; exact ⟨by omega, this.2⟩
            · exact List.pairwise_cons.2 ⟨fun x hx => (a3.1 x hx).1, a3.2⟩
            · intro x hx
              rcases List.mem_cons.1 hx with e | e
              · subst e; exact hh
              · exact a4 x e
theorem remP_bad (a : List (Int × Int)) : ∀ (n : Nat) (prev : Int) (b : List Nat) (e : Nat), remP a n prev b = .bad e → e = 7 ∨ e = 8 := by
  intro n
  induction n with
  | zero => intro prev b e h; cases h
  | succ n ih =>
    intro prev b e h
    rw [remP] at h
    cases hv : readV b with
    | bad e' => rw [hv] at h; cases h; exact readV_bad hv
    | ok g t =>
      rw [hv] at h
      simp only at h
      cases hi : idxN prev g with
      | none => rw [hi] at h; cases h; exact .inr rfl
      | some k =>
        rw [hi] at h
        simp only at h
        cases hh : has a k with
        | false => rw [hh] at h; cases h; exact .inr rfl
        | true =>
          rw [hh] at h
          simp only [cond_true] at h
          cases hr : remP a n k t with
          | bad e' => rw [hr] at h; cases h; exact ih _ _ _ hr
          | ok l r' => rw [hr] at h; cases h
theorem remP_short (a : List (Int × Int)) : ∀ (L : List Int) (prev : Int) (j : Nat), -1 ≤ prev → Rise prev L → (∀ k ∈ L, has a k = true) → j < (encG prev L).length → remP a L.length prev ((encG prev L).take j) = .bad 7 := by
  intro L
  induction L with
  | nil => intro prev j _ _ _ hj; simp [encG] at hj
  | cons k L ih =>
    intro prev j hp hr hh hj
    have hk := hr.1 k (by simp)
    obtain ⟨h1, h2⟩ := idxN_ok hp hk.1 hk.2
    rw [List.length_cons, encG]
    rw [encG, List.length_append] at hj
    by_cases hj2 : j < (varN (k - prev - 1).toNat).length
    · rw [List.take_append_of_le_length (by omega), remP, readV_short h2 hj2]
    · obtain ⟨i, rfl⟩ : ∃ i, j = (varN (k - prev - 1).toNat).length + i := ⟨j - (varN (k - prev - 1).toNat).length, by omega⟩
      rw [List.take_length_add_append, remP, readV_var h2]
      simp only [h1, hh k (by simp), cond_true]
      rw [ih k i (by omega) hr.tail (fun x hx => hh x (by simp [hx])) (by omega)]

structure ChOk (a : List (Int × Int)) (gone : List Int) (y : Int × Int) : Prop where
  out : y.1 ∉ gone
  val : bd64 y.2
  ne : same a y = false
theorem same_stays (a : List (Int × Int)) (y : Int × Int) : stays a y.1 y.2 = same a y := by
  unfold stays same
  congr 1
  rw [Bool.eq_iff_iff, beq_iff_eq, beq_iff_eq]; exact eq_comm
def keys (l : List (Int × Int)) : List Int := l.map (·.1)
theorem newV_enc {a : List (Int × Int)} {y : Int × Int} (hv : bd64 y.2) : newV a y.1 (zz (wrap64 (y.2 - getv a y.1))) = y.2 := by
  unfold newV; rw [uz_zz]; exact wrap_back _ _ hv
theorem zz_fit (x : Int) : zz (wrap64 x) < 18446744073709551616 := zz_lt (wrap64_bd x).1 (wrap64_bd x).2
theorem chgQ_enc (a : List (Int × Int)) (gone : List Int) : ∀ (L : List (Int × Int)) (prev : Int) (r : List Nat), -1 ≤ prev → Rise prev (keys L) → (∀ y ∈ L, ChOk a gone y) → chgQ a gone L.length prev (encC a prev L ++ r) = .ok L r := by
  intro L
  induction L with
  | nil => intro prev r _ _ _; rfl
  | cons y L ih =>
    intro prev r hp hr hh
    have hk := hr.1 y.1 (by simp [keys])
    obtain ⟨h1, h2⟩ := idxN_ok hp hk.1 hk.2
    have hy := hh y (by simp)
    rw [List.length_cons, encC_cons, List.append_assoc, List.append_assoc, chgQ, readV_var h2]
    simp only [h1, inL_f hy.out, cond_false]
    rw [readV_var (zz_fit _)]
    simp only [newV_enc hy.val]
    have e : stays a y.1 y.2 = false := by rw [same_stays]; exact hy.ne
    rw [e]
    simp only [cond_false]
    rw [ih y.1 r (by omega) hr.tail fun x hx => hh x (by simp [hx])]
theorem chgQ_inv (a : List (Int × Int)) (ha : ∀ x ∈ a, bd64 x.2) (gone : List Int) : ∀ (n : Nat) (prev : Int) (b : List Nat) (L : List (Int × Int)) (r : List Nat), -1 ≤ prev → BytesB b → chgQ a gone n prev b = .ok L r → b = encC a prev L ++ r ∧ L.length = n ∧ Rise prev (keys L) ∧ (∀ y ∈ L, ChOk a gone y) := by
  intro n
  induction n with
  | zero => intro prev b L r _ _ h; cases h; exact ⟨rfl, rfl, ⟨by simp [keys], by simp [keys]⟩, by simp⟩
  | succ n ih =>
    intro prev b L r hp hb h
    rw [chgQ] at h
    cases hv : readV b with
    | bad e => rw [hv] at h; cases h
    | ok g t =>
      rw [hv] at h
      simp only at h
      cases hi : idxN prev g with
      | none => rw [hi] at h; cases h
      | some k =>
        rw [hi] at h
        simp only at h
        cases hg : inL gone k with
        | true => rw [hg] at h; cases h
        | false =>
          rw [hg] at h
          simp only [cond_false] at h
          obtain ⟨e1, e2⟩ := readV_ok hb hv
          have hbt : BytesB t := fun x hx => hb x (by rw [e1]; simp [hx])
          cases hz : readV t with
          | bad e => rw [hz] at h; cases h
          | ok z r1 =>
            rw [hz] at h
            simp only at h
            obtain ⟨f1, f2⟩ := readV_ok hbt hz
            have hb1 : BytesB r1 := fun x hx => hbt x (by rw [f1]; simp [hx])
            cases hs : stays a k (newV a k z) with
            | true => rw [hs] at h; cases h
            | false =>
              rw [hs] at h
              simp only [cond_false] at h
              obtain ⟨i1, i2, i3⟩ := idxN_inv hi
              cases hr : chgQ a gone n k r1 with
              | bad e => rw [hr] at h; cases h
              | ok l r' =>
                rw [hr] at h
                cases h
                obtain ⟨a1, a2, a3, a4⟩ := ih k r1 l r (by omega) hb1 hr
                refine ⟨?_, by rw [List.length_cons, a2], ⟨?_, ?_⟩, ?_⟩
                · rw [encC_cons]
                  simp only
                  have hu := uz_bound f2
                  rw [← i3, show newV a k z - getv a k = wrap64 (getv a k + uz z) - getv a k from rfl, wrap_fore _ _ hu, zz_uz, e1, f1, a1, List.append_assoc, List.append_assoc]
                · intro x hx
                  simp only [keys, List.map_cons, List.mem_cons] at hx
                  rcases hx with e | e
                  · subst e; exact ⟨i1, i2⟩
                  · have := a3.1 x e; exact ⟨by omega, this.2⟩
                · exact List.pairwise_cons.2 ⟨fun x hx => (a3.1 x hx).1, a3.2⟩
                · intro x hx
                  rcases List.mem_cons.1 hx with e | e
                  · subst e
                    refine ⟨fun hm => ?_, wrap64_bd _, by rw [← same_stays]; exact hs⟩
                    rw [inL_t hm] at hg; cases hg
                  · exact a4 x e
theorem chgQ_bad (a : List (Int × Int)) (gone : List Int) : ∀ (n : Nat) (prev : Int) (b : List Nat) (e : Nat), chgQ a gone n prev b = .bad e → e = 7 ∨ e = 8 := by
  intro n
  induction n with
  | zero => intro prev b e h; cases h
  | succ n ih =>
    intro prev b e h
    rw [chgQ] at h
    cases hv : readV b with
    | bad e' => rw [hv] at h; cases h; exact readV_bad hv
    | ok g t =>
      rw [hv] at h
      simp only at h
      cases hi : idxN prev g with
      | none => rw [hi] at h; cases h; exact .inr rfl
      | some k =>
        rw [hi] at h
        simp only at h
        cases hg : inL gone k with
        | true => rw [hg] at h; cases h; exact .inr rfl
        | false =>
          rw [hg] at h
          simp only [cond_false] at h
          cases hz : readV t with
          | bad e' => rw [hz] at h; cases h; exact readV_bad hz
          | ok z r1 =>
            rw [hz] at h
            simp only at h
            cases hs : stays a k (newV a k z) with
            | true => rw [hs] at h; cases h; exact .inr rfl
            | false =>
              rw [hs] at h
              simp only [cond_false] at h
              cases hr : chgQ a gone n k r1 with
              | bad e' => rw [hr] at h; cases h; exact ih _ _ _ hr
              | ok l r' => rw [hr] at h; cases h
theorem chgQ_short (a : List (Int × Int)) (gone : List Int) : ∀ (L : List (Int × Int)) (prev : Int) (j : Nat), -1 ≤ prev → Rise prev (keys L) → (∀ y ∈ L, ChOk a gone y) → j < (encC a prev L).length → chgQ a gone L.length prev ((encC a prev L).take j) = .bad 7 := by
  intro L
  induction L with
  | nil => intro prev j _ _ _ hj; simp [encC, withOld, encD] at hj
  | cons y L ih =>
    intro prev j hp hr hh hj
    have hk := hr.1 y.1 (by simp [keys])
    obtain ⟨h1, h2⟩ := idxN_ok hp hk.1 hk.2
    have hy := hh y (by simp)
    rw [encC_cons, List.append_assoc] at hj ⊢
    rw [List.length_cons]
    rw [List.length_append, List.length_append] at hj
    by_cases hj2 : j < (varN (y.1 - prev - 1).toNat).length
    · rw [List.take_append_of_le_length (by omega), chgQ, readV_short h2 hj2]
    · obtain ⟨i, rfl⟩ : ∃ i, j = (varN (y.1 - prev - 1).toNat).length + i := ⟨j - (varN (y.1 - prev - 1).toNat).length, by omega⟩
      rw [List.take_length_add_append, chgQ, readV_var h2]
      simp only [h1, inL_f hy.out, cond_false]
      by_cases hi2 : i < (varN (zz (wrap64 (y.2 - getv a y.1)))).length
      · rw [List.take_append_of_le_length (by omega), readV_short (zz_fit _) hi2]
      · obtain ⟨m, rfl⟩ : ∃ m, i = (varN (zz (wrap64 (y.2 - getv a y.1)))).length + m := ⟨i - (varN (zz (wrap64 (y.2 - getv a y.1)))).length, by omega⟩
        rw [List.take_length_add_append, readV_var (zz_fit _)]
        simp only [newV_enc hy.val]
        have e : stays a y.1 y.2 = false := by rw [same_stays]; exact hy.ne
        rw [e]
        simp only [cond_false]
        rw [ih y.1 m (by omega) hr.tail (fun x hx => hh x (by simp [hx])) (by omega)]

/-! ### what a difference holds -/
theorem srt_keys {l : List (Int × Int)} : Srt l ↔ (keys l).Pairwise (· < ·) := by unfold Srt keys; rw [List.pairwise_map]
theorem Srt.filter {l : List (Int × Int)} (h : Srt l) (p : Int × Int → Bool) : Srt (l.filter p) := List.Pairwise.filter p h
theorem gone_rise {a b : List (Int × Int)} (ha : IsView a) : Rise (-1) (goneL a b) := by
  refine ⟨fun k hk => ?_, srt_keys.1 (ha.srt.filter _)⟩
  unfold goneL at hk
  rw [List.mem_map] at hk
  obtain ⟨x, hx, rfl⟩ := hk
  have := ha.idx x (List.mem_filter.1 hx).1
  unfold idxOk at this
  unfold maxI
  omega
theorem gone_has {a b : List (Int × Int)} : ∀ k ∈ goneL a b, has a k = true ∧ has b k = false := by
  intro k hk
  unfold goneL at hk
  rw [List.mem_map] at hk
  obtain ⟨x, hx, rfl⟩ := hk
  obtain ⟨h1, h2⟩ := List.mem_filter.1 hx
  exact ⟨has_mem.2 ⟨x.2, h1⟩, by simpa using h2⟩
theorem chg_rise {a b : List (Int × Int)} (hb : IsView b) : Rise (-1) (keys (chgL a b)) := by
  refine ⟨fun k hk => ?_, srt_keys.1 (hb.srt.filter _)⟩
  unfold keys chgL at hk
  rw [List.mem_map] at hk
  obtain ⟨x, hx, rfl⟩ := hk
  have := hb.idx x (List.mem_filter.1 hx).1
  unfold idxOk at this
  unfold maxI
  omega
theorem chg_ok {a b : List (Int × Int)} (hb : IsView b) : ∀ y ∈ chgL a b, ChOk a (goneL a b) y := by
  intro y hy
  unfold chgL at hy
  obtain ⟨h1, h2⟩ := List.mem_filter.1 hy
  refine ⟨fun hm => ?_, hb.val y h1, by simpa using h2⟩
  have h3 := (gone_has y.1 hm).2
  rw [has_mem.2 ⟨y.2, h1⟩] at h3
  cases h3
theorem gone_len {a b : List (Int × Int)} : (goneL a b).length ≤ a.length := by unfold goneL; rw [List.length_map]; exact List.length_filter_le _ _
theorem chg_len {a b : List (Int × Int)} : (chgL a b).length ≤ b.length := List.length_filter_le _ _

theorem mv_diff {a b : List (Int × Int)} (ha : IsView a) (hb : IsView b) : mv a (chgL a b) (goneL a b) = b := by
  have hc : Srt (chgL a b) := hb.srt.filter _
  refine srt_eq (mv_srt _ _ _ ha.srt hc) hb.srt fun x => ?_
  rw [mv_mem _ _ _ ha.srt hc]
  constructor
  · rintro (h | ⟨h1, h2, h3⟩)
    · exact (List.mem_filter.1 h).1
    · have hb' : has b x.1 = true := by
        cases e : has b x.1 with
        | true => rfl
        | false => exact absurd (List.mem_map.2 ⟨x, List.mem_filter.2 ⟨h1, by rw [e]; rfl⟩, rfl⟩) h3
      obtain ⟨v, hv⟩ := has_mem.1 hb'
      have hs : same a (x.1, v) = true := by
        cases e : same a (x.1, v) with
        | true => rfl
        | false =>
          have : (x.1, v) ∈ chgL a b := List.mem_filter.2 ⟨hv, by rw [e]; rfl⟩
          rw [has_mem.2 ⟨v, this⟩] at h2; cases h2
      unfold same at hs
      simp only [Bool.and_eq_true, beq_iff_eq] at hs
      rw [getv_mem ha.srt h1] at hs
      rw [show x = (x.1, v) from by rw [← hs.2]]
      exact hv
  · intro h
    cases e : same a x with
    | false => exact .inl (List.mem_filter.2 ⟨h, by rw [e]; rfl⟩)
    | true =>
      right
      unfold same at e
      simp only [Bool.and_eq_true, beq_iff_eq] at e
      have hxa : x ∈ a := by have := getv_has e.1; rw [e.2] at this; exact this
      refine ⟨hxa, ?_, fun hm => ?_⟩
      · rw [Bool.eq_false_iff]
        intro h2
        obtain ⟨v, hv⟩ := has_mem.1 h2
        obtain ⟨h3, h4⟩ := List.mem_filter.1 hv
        have h5 : v = x.2 := (show getv b x.1 = v from getv_mem hb.srt h3).symm.trans (getv_mem hb.srt h)
        subst h5
        unfold same at h4
        rw [e.1, e.2] at h4
        simp at h4
      · have := (gone_has _ hm).2
        rw [has_mem.2 ⟨x.2, h⟩] at this; cases this

/-! ### the laws -/
theorem apply_parse {a b : List (Int × Int)} (ha : IsView a) (hb : IsView b) (hla : a.length < 1000000) (hlb : b.length < 1000000) (r : List Nat) :
    applyR a (diffL a b ++ r) = match r with | [] => .ok b [] | _ :: _ => .bad 8 := by
  have h1 := gone_len (a := a) (b := b)
  have h2 := chg_len (a := a) (b := b)
  unfold applyR diffL
  rw [List.append_assoc, List.append_assoc, List.append_assoc, readV_var (by omega)]
  simp only
  rw [remP_enc a (goneL a b) (-1) _ (by omega) (gone_rise ha) fun k hk => (gone_has k hk).1]
  simp only
  rw [readV_var (by omega)]
  simp only
  rw [chgQ_enc a (goneL a b) (chgL a b) (-1) r (by omega) (chg_rise hb) (chg_ok hb)]
  simp only [mv_diff ha hb]
theorem apply_diff {a b : List (Int × Int)} (ha : IsView a) (hb : IsView b) (hla : a.length < 1000000) (hlb : b.length < 1000000) : applyR a (diffL a b) = .ok b [] := by
  have := apply_parse ha hb hla hlb []
  rwa [List.append_nil] at this
theorem apply_more {a b : List (Int × Int)} (ha : IsView a) (hb : IsView b) (hla : a.length < 1000000) (hlb : b.length < 1000000) (c : Nat) : applyR a (diffL a b ++ [c]) = .bad 8 := apply_parse ha hb hla hlb [c]
theorem apply_short {a b : List (Int × Int)} (ha : IsView a) (hb : IsView b) (hla : a.length < 1000000) (hlb : b.length < 1000000) {j : Nat} (hj : j < (diffL a b).length) : applyR a ((diffL a b).take j) = .bad 7 := by
  have h1 := gone_len (a := a) (b := b)
  have h2 := chg_len (a := a) (b := b)
  have g1 : (goneL a b).length < 18446744073709551616 := by omega
  have g2 : (chgL a b).length < 18446744073709551616 := by omega
  unfold diffL at hj ⊢
  rw [List.append_assoc, List.append_assoc] at hj ⊢
  simp only [List.length_append] at hj
  unfold applyR
  by_cases c1 : j < (varN (goneL a b).length).length
  · rw [List.take_append_of_le_length (by omega), readV_short g1 c1]
  · obtain ⟨i, rfl⟩ : ∃ i, j = (varN (goneL a b).length).length + i := ⟨j - (varN (goneL a b).length).length, by omega⟩
    rw [List.take_length_add_append, readV_var g1]
    simp only
    by_cases c2 : i < (encG (-1) (goneL a b)).length
    · rw [List.take_append_of_le_length (by omega), remP_short a _ _ _ (by omega) (gone_rise ha) (fun k hk => (gone_has k hk).1) c2]
    · obtain ⟨m, rfl⟩ : ∃ m, i = (encG (-1) (goneL a b)).length + m := ⟨i - (encG (-1) (goneL a b)).length, by omega⟩
      rw [List.take_length_add_append, remP_enc a (goneL a b) (-1) _ (by omega) (gone_rise ha) fun k hk => (gone_has k hk).1]
      simp only
      by_cases c3 : m < (varN (chgL a b).length).length
      · rw [List.take_append_of_le_length (by omega), readV_short g2 c3]
      · obtain ⟨q, rfl⟩ : ∃ q, m = (varN (chgL a b).length).length + q := ⟨m - (varN (chgL a b).length).length, by omega⟩
        rw [List.take_length_add_append, readV_var g2]
        simp only
        rw [chgQ_short a _ _ _ _ (by omega) (chg_rise hb) (chg_ok hb) (by omega)]
theorem apply_bad {a : List (Int × Int)} {b : List Nat} {e : Nat} (h : applyR a b = .bad e) : e = 7 ∨ e = 8 := by
  unfold applyR at h
  cases h1 : readV b with
  | bad e' => rw [h1] at h; cases h; exact readV_bad h1
  | ok n1 r1 =>
    rw [h1] at h
    simp only at h
    cases h2 : remP a n1 (-1) r1 with
    | bad e' => rw [h2] at h; cases h; exact remP_bad _ _ _ _ _ h2
    | ok gone r2 =>
      rw [h2] at h
      simp only at h
      cases h3 : readV r2 with
      | bad e' => rw [h3] at h; cases h; exact readV_bad h3
      | ok n2 r3 =>
        rw [h3] at h
        simp only at h
        cases h4 : chgQ a gone n2 (-1) r3 with
        | bad e' => rw [h4] at h; cases h; exact chgQ_bad _ _ _ _ _ _ h4
        | ok ch r4 =>
          rw [h4] at h
          cases r4 with
          | nil => cases h
          | cons c r => cases h; exact .inr rfl
theorem apply_canon {a : List (Int × Int)} (ha : IsView a) {b : List Nat} (hb : BytesB b) {x : List (Int × Int)} {r : List Nat} (h : applyR a b = .ok x r) : diffL a x = b ∧ IsView x := by
  unfold applyR at h
  cases h1 : readV b with
  | bad e' => rw [h1] at h; cases h
  | ok n1 r1 =>
    rw [h1] at h
    simp only at h
    obtain ⟨e1, -⟩ := readV_ok hb h1
    have hb1 : BytesB r1 := fun y hy => hb y (by rw [e1]; simp [hy])
    cases h2 : remP a n1 (-1) r1 with
    | bad e' => rw [h2] at h; cases h
    | ok gone r2 =>
      rw [h2] at h
      simp only at h
      obtain ⟨e2, l2, s2, g2, hb2⟩ := remP_inv a n1 (-1) r1 gone r2 (by omega) hb1 h2
      cases h3 : readV r2 with
      | bad e' => rw [h3] at h; cases h
      | ok n2 r3 =>
        rw [h3] at h
        simp only at h
        obtain ⟨e3, -⟩ := readV_ok hb2 h3
        have hb3 : BytesB r3 := fun y hy => hb2 y (by rw [e3]; simp [hy])
        cases h4 : chgQ a gone n2 (-1) r3 with
        | bad e' => rw [h4] at h; cases h
        | ok ch r4 =>
          rw [h4] at h
          cases r4 with
          | cons c r => cases h
          | nil =>
            cases h
            obtain ⟨e4, l4, s4, c4⟩ := chgQ_inv a ha.val gone n2 (-1) r3 ch [] (by omega) hb3 h4
            have hcs : Srt ch := srt_keys.2 s4.2
            have hms := mv_srt gone a ch ha.srt hcs
            have hmm := mv_mem gone a ch ha.srt hcs
            have hgone : goneL a (mv a ch gone) = gone := by
              refine ints_eq (srt_keys.1 (ha.srt.filter _)) s2.2 fun k => ?_
              unfold goneL
              rw [List.mem_map]
              constructor
              · rintro ⟨y, hy, rfl⟩
                obtain ⟨k1, k2⟩ := List.mem_filter.1 hy
                have k3 : has (mv a ch gone) y.1 = false := by simpa using k2
                by_cases hm : y.1 ∈ gone
                · exact hm
                · exfalso
                  cases hc : has ch y.1 with
                  | true =>
                    obtain ⟨v, hv⟩ := has_mem.1 hc
                    rw [has_mem.2 ⟨v, (hmm _).2 (.inl hv)⟩] at k3; cases k3
                  | false =>
                    rw [has_mem.2 ⟨y.2, (hmm y).2 (.inr ⟨k1, hc, hm⟩)⟩] at k3; cases k3
              · intro hk
                obtain ⟨v, hv⟩ := has_mem.1 (g2 k hk)
                refine ⟨(k, v), List.mem_filter.2 ⟨hv, ?_⟩, rfl⟩
                have : has (mv a ch gone) k = false := by
                  rw [Bool.eq_false_iff]
                  intro hx
                  obtain ⟨u, hu⟩ := has_mem.1 hx
                  rcases (hmm _).1 hu with q | ⟨-, -, q⟩
                  · exact (c4 _ q).out hk
                  · exact q hk
                simp [this]
            have hchg : chgL a (mv a ch gone) = ch := by
              refine srt_eq (hms.filter _) hcs fun y => ?_
              unfold chgL
              rw [List.mem_filter]
              constructor
              · rintro ⟨k1, k2⟩
                rcases (hmm y).1 k1 with q | ⟨q1, -, -⟩
                · exact q
                · have : same a y = true := by unfold same; rw [has_mem.2 ⟨y.2, q1⟩, getv_mem ha.srt q1]; simp
                  rw [this] at k2; cases k2
              · intro hy
                exact ⟨(hmm y).2 (.inl hy), by rw [(c4 y hy).ne]; rfl⟩
            refine ⟨?_, hms, fun y hy => ?_, fun y hy => ?_⟩
            · unfold diffL
              rw [hgone, hchg, l2, l4, e1, e2, e3, e4, List.append_nil, List.append_assoc, List.append_assoc]
            · rcases (hmm y).1 hy with q | ⟨q1, -, -⟩
              · have := s4.1 y.1 (by unfold keys; exact List.mem_map.2 ⟨y, q, rfl⟩)
                unfold maxI at this
                exact ⟨by omega, this.2⟩
              · exact ha.idx y q1
            · rcases (hmm y).1 hy with q | ⟨q1, -, -⟩
              · exact (c4 y q).val
              · exact ha.val y q1
theorem diff_self {a : List (Int × Int)} (ha : IsView a) : diffL a a = [0, 0] := by
  have h1 : goneL a a = [] := by
    unfold goneL
    rw [List.map_eq_nil_iff, List.filter_eq_nil_iff]
    intro x hx
    rw [has_mem.2 ⟨x.2, hx⟩]; simp
  have h2 : chgL a a = [] := by
    unfold chgL
    rw [List.filter_eq_nil_iff]
    intro x hx
    unfold same
    rw [has_mem.2 ⟨x.2, hx⟩, getv_mem ha.srt hx]; simp
  unfold diffL
  rw [h1, h2]
  show varN 0 ++ [] ++ varN 0 ++ [] = _
  rw [varN_lt (by omega)]; rfl
end Go.Proofs.Ytodfeaipoagphaa
