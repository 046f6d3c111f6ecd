/- Package snapshot: appendNumber, zigzag, unzigzag, gaps. -/
import Derived.Test.YtcgndeggemceaaaBts
import Derived.Test.YtcgndeggemceaaaVarP
import Derived.Test.YtcgndeggemceaaaBits
import Derived.IntWalk
import Derived.Lib.Zigzag
import Derived.Laws.BitsAllLaws
namespace Go.Proofs.Ytcgndeggemceaaa
open Go.RowKit

/-- a list of bytes has grown by some -/
def AppTo (w : World) (ao : Option Addr) (out : List Nat) (e : Ending) (w' : World) : Prop := ∃ ao' cap', e = .returned (.slice ao' out.length cap') ∧ Seg w' 5 1 ao' out.length cap' (bts out) ∧ Fr (blk ao) w w' ∧ Ext (blk ao) w (blk ao')
set_option maxRecDepth 100000 in
theorem or128 : ∀ a, a < 256 → a ||| 128 = a % 128 + 128 := by decide

set_option maxRecDepth 100000 in
set_option maxHeartbeats 4000000 in
theorem append_any (w : World) (ao : Option Addr) (cap : Nat) (out : List Nat) (n : Nat) (hs : Seg w 5 1 ao out.length cap (bts out)) (hn : n < 18446744073709551616) (hl : out.length ≤ 1099511627776) :
    Calls Try.prog 32 #[.slice ao out.length cap, .int .u64 (n : Int)] w (AppTo w ao (out ++ varN n)) := by
  obtain ⟨ib, hib, hb0, hb1, hb2⟩ := info_parts infoByte
  have HS := Lib.hid hs
  have HVL := Lib.hid (varN_len hn)
  clear hs
  go_enter Try.func32, Try.ntmps32
  go_wp2_with fail
  go_loopw [0, 1] (fun bv nv wr => ∃ (d : List Nat) (m : Nat) (oa : Option Addr) (oc : Nat), bv = .slice oa (out ++ d).length oc ∧ nv = .int .u64 (m : Int) ∧ m < 18446744073709551616 ∧ d ++ varN m = varN n ∧ Seg wr 5 1 oa (out ++ d).length oc (bts (out ++ d)) ∧ Fr (blk ao) w wr ∧ Ext (blk ao) w (blk oa)) (fun _ nv _ => (intOf nv).toNat)
  case atStart => exact ⟨[], n, ao, cap, by simp, rfl, hn, rfl, by simpa using HS.out, Fr.refl _ _, Ext.refl _ _⟩
  case round =>
    obtain ⟨d, m, oa, oc, rfl, rfl, hm, hd, hseg, hf, hx⟩ := hrel
    obtain ⟨D, hD⟩ : ∃ D, D = out ++ d := ⟨_, rfl⟩
    have hdl : d.length ≤ 10 := by have := congrArg List.length hd; rw [List.length_append] at this; have := HVL.out; omega
    have hDl : D.length ≤ 1099511627786 := by rw [hD, List.length_append]; omega
    have HDE := Lib.hid hD
    rw [← hD] at hseg ⊢
    have HD := Lib.hid hd
    have HSG := Lib.hid fun (o : Obj) => hseg.alloc o
    have HF := Lib.hid hf
    have HX := Lib.hid hx
    clear hD hd hseg hf hx
    by_cases hm1 : 128 ≤ m
    · have hmi : (128 : Int) ≤ (m : Int) := by omega
      obtain ⟨x, hx⟩ : ∃ x, x = m % 128 + 128 := ⟨_, rfl⟩
      have hor : bits .or .u8 ((m : Int) % 256) 128 = (x : Int) := by
        have h := bits_or_u8 (m % 256) 128 (by omega) (by omega)
        rw [or128 _ (by omega)] at h
        rw [hx, show (m : Int) % 256 = ((m % 256 : Nat) : Int) by omega]
        refine Eq.trans h ?_
        omega
      have HXE := Lib.hid hx
      clear hx
      go_wp2_with (at_builtin; refine wpList_append_seg rfl _ _ 26 rfl 5 ib _ 1 1 Try.underlying26 hib hb0 hb1 hb2 rfl (by decide) oa D.length oc (bts D) rfl (HSG.out _) ⟨_, 0, none⟩ 1 1 [.int .u8 (x : Int)] rfl rfl (fun j u hu => by rw [Addr.add_mid, Nat.zero_add, World.cell?_alloc_new]; simpa using hu) (by simp [Value.oneCell']) (by unfold maxLen; omega) (by omega) ?_; intro ao' cap' w5 hs5 hf5 hx5; have HS5 := Lib.hid hs5; have HF5 := Lib.hid (((Fr.refl (blk oa) wr).alloc _).trans hf5 (Ext.refl _ _)); have HX5 := Lib.hid hx5; clear hs5 hf5 hx5)
      go_roundw
      case rel =>
        have hlen : (out ++ (d ++ [x])).length = D.length + 1 := by rw [HDE.out]; simp; omega
        have e : out ++ (d ++ [x]) = D ++ [x] := by rw [HDE.out, List.append_assoc]
        refine ⟨d ++ [x], m / 128, ao', cap', by rw [hlen], by go_num, by omega, by rw [← HD.out, varN_ge hm1, ← HXE.out]; simp, by rw [hlen, e, bts_append]; exact HS5.out, HF.out.trans HF5.out HX.out, fun k hk => ?_⟩
        rcases HX5.out k hk with h | h
        · exact HX.out k h
        · have := HF.out.size; simp at h; exact .inr (by omega)
      case measure => simp [intOf]; omega
    · have hmi : (m : Int) < 128 := by omega
      have hm8 : (m : Int) % 256 = (m : Int) := by omega
      go_wp2_with (at_builtin; refine wpList_append_seg rfl _ _ 26 rfl 5 ib _ 1 1 Try.underlying26 hib hb0 hb1 hb2 rfl (by decide) oa D.length oc (bts D) rfl (HSG.out _) ⟨_, 0, none⟩ 1 1 [.int .u8 (m : Int)] rfl rfl (fun j u hu => by rw [Addr.add_mid, Nat.zero_add, World.cell?_alloc_new]; simpa using hu) (by simp [Value.oneCell']) (by unfold maxLen; omega) (by omega) ?_; intro ao' cap' w5 hs5 hf5 hx5; have HS5 := Lib.hid hs5; have HF5 := Lib.hid (((Fr.refl (blk oa) wr).alloc _).trans hf5 (Ext.refl _ _)); have HX5 := Lib.hid hx5; clear hs5 hf5 hx5)
      go_ret
      have hlen : (D ++ [m]).length = D.length + 1 := by simp
      have e : out ++ varN n = D ++ [m] := by rw [HDE.out, ← HD.out, varN_lt (by omega), List.append_assoc]
      rw [e]
      refine ⟨ao', cap', by rw [hlen]; rfl, by rw [hlen, bts_append]; exact HS5.out, HF.out.trans HF5.out HX.out, fun k hk => ?_⟩
      rcases HX5.out k hk with h | h
      · exact HX.out k h
      · have := HF.out.size; simp at h; exact .inr (by omega)

theorem zig_bits (d : Int) (h0 : -9223372036854775808 ≤ d) (h1 : d ≤ 9223372036854775807) : bits .xor .u64 (IntKind.u64.wrap (IntKind.u64.wrap d * 2)) (IntKind.u64.wrap (d / 9223372036854775808)) = ((zz d : Nat) : Int) := by
  by_cases hd : d < 0
  · have e1 : IntKind.u64.wrap (IntKind.u64.wrap d * 2) = (((2 * d + 18446744073709551616).toNat : Nat) : Int) := by
      rw [IntKind.wrap_u64, IntKind.wrap_u64]; omega
    have e2 : IntKind.u64.wrap (d / 9223372036854775808) = ((2 ^ 64 - 1 : Nat) : Int) := by
      rw [show d / 9223372036854775808 = -1 by omega]; decide
    rw [e1, e2, Go.u64_xor_nat _ _ (by omega) (by decide), Nat.xor_comm, Go.Lib.xor_ones64 _ (by omega)]
    unfold zz
    rw [if_pos hd]
    omega
  · have e1 : IntKind.u64.wrap (IntKind.u64.wrap d * 2) = (((2 * d).toNat : Nat) : Int) := by
      rw [IntKind.wrap_u64, IntKind.wrap_u64]; omega
    have e2 : IntKind.u64.wrap (d / 9223372036854775808) = ((0 : Nat) : Int) := by
      rw [show d / 9223372036854775808 = 0 by omega]; decide
    rw [e1, e2, Go.u64_xor_nat _ _ (by omega) (by decide), Nat.xor_zero]
    unfold zz
    rw [if_neg hd]
theorem uzig_bits (n : Nat) (hn : n < 18446744073709551616) : bits .xor .i64 ((n : Int) / 2) (wrap64 (-wrap64 (bits .and .u64 (n : Int) 1))) = uz n := by
  rw [Go.Lib.u64_and1 _ (by omega) (by omega)]
  unfold uz
  split
  · rename_i h
    rw [show (n : Int) % 2 = 1 by omega]
    have e : wrap64 (-wrap64 1) = -1 := by unfold wrap64; omega
    rw [e]
    have h2 := Go.Lib.i64_not (n / 2) (by omega)
    have hc : bits .xor .i64 ((n : Int) / 2) (-1) = bits .xor .i64 (-1) ((n / 2 : Nat) : Int) := by
      show IntKind.i64.wrap ((BitVec.ofInt 64 ((n : Int) / 2) ^^^ BitVec.ofInt 64 (-1)).toNat : Int) = IntKind.i64.wrap ((BitVec.ofInt 64 (-1) ^^^ BitVec.ofInt 64 ((n / 2 : Nat) : Int)).toNat : Int)
      rw [BitVec.xor_comm]; rfl
    rw [hc, h2]
  · rename_i h
    rw [show (n : Int) % 2 = 0 by omega]
    have e : wrap64 (-wrap64 0) = 0 := by unfold wrap64; omega
    rw [e]
    show IntKind.i64.wrap ((BitVec.ofInt 64 ((n : Int) / 2) ^^^ BitVec.ofInt 64 0).toNat : Int) = _
    have h2 : (BitVec.ofInt 64 ((n / 2 : Nat) : Int)).toNat = n / 2 := by
      rw [BitVec.ofInt_natCast, BitVec.toNat_ofNat]; exact Nat.mod_eq_of_lt (by omega)
    have h3 : (BitVec.ofInt 64 0).toNat = 0 := by decide
    rw [show (n : Int) / 2 = ((n / 2 : Nat) : Int) by omega, BitVec.toNat_xor, h2, h3, Nat.xor_zero, IntKind.wrap_i64]
    omega

set_option maxHeartbeats 1000000 in
theorem zigzag_any (w : World) (d : Int) (h0 : -9223372036854775808 ≤ d) (h1 : d ≤ 9223372036854775807) : Calls Try.prog 33 #[.int .i64 d] w fun e w' => e = .returned (.int .u64 ((zz d : Nat) : Int)) ∧ w = w' := by
  have HZ := Lib.hid (zig_bits d h0 h1)
  go_enter Try.func33, Try.ntmps33
  go_wp2
  go_ret
  exact ⟨ret_int HZ.out, rfl⟩
set_option maxHeartbeats 1000000 in
theorem unzigzag_any (w : World) (n : Nat) (hn : n < 18446744073709551616) : Calls Try.prog 54 #[.int .u64 (n : Int)] w fun e w' => e = .returned (.int .i64 (uz n)) ∧ w = w' := by
  have HZ := Lib.hid (uzig_bits n hn)
  go_enter Try.func54, Try.ntmps54
  go_wp2
  go_ret
  exact ⟨ret_int HZ.out, rfl⟩

set_option maxHeartbeats 1000000 in
theorem gaps_any (w : World) : Calls Try.prog 30 #[] w fun e w' => e = .returned (.func (.func 50) #[] #[.pointer (some ⟨w.heap.size, 0, none⟩)]) ∧ w' = w.alloc (.cells #[.int .i64 (-1)] 3) := by
  go_enter Try.func30, Try.ntmps30
  go_wp2
  go_ret
  exact ⟨rfl, rfl⟩
set_option maxHeartbeats 1000000 in
theorem gap_any (w : World) (p : Nat) (prev k : Int) (hp : w.heap[p]? = some (.cells #[.int .i64 prev] 3 (0, 0))) (h0 : -1 ≤ prev) (h1 : prev < k) (h2 : k ≤ 2147483647) :
    Calls Try.prog 50 #[.int .i64 k, .pointer (some ⟨p, 0, none⟩)] w fun e w' => e = .returned (.int .u64 (((k - prev - 1).toNat : Nat) : Int)) ∧ w' = w.setCell ⟨p, 0, none⟩ (.int .i64 k) := by
  have c := cell_blk hp 0
  have f := frozen_blk hp 0
  simp at c
  have HE := Lib.hid (by omega : (((k - prev - 1).toNat : Nat) : Int) = k - prev - 1)
  have h3 : 0 ≤ k - prev - 1 := by omega
  clear hp
  go_enter Try.func50, Try.ntmps50
  go_wp2
  go_ret
  exact ⟨by rw [HE.out]; rfl, rfl⟩
end Go.Proofs.Ytcgndeggemceaaa
