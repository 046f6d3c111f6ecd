/- Chapter 27, plain: the set of the visible rooms as the bits of a number. -/
import Derived.Test.YtdbngpncigjfiaaVisP
import Derived.Laws.Bits64b
import Derived.IntWalk
namespace Go.Proofs.Ytdbngpncigjfiaa
open Go Go.RowKit

theorem bits_or_u64 (a b : Nat) (ha : a < 256) (hb : b < 256) : bits .or .u64 (a : Int) (b : Int) = ((a ||| b : Nat) : Int) := by
  have hx : a ||| b < 2 ^ 8 := Nat.or_lt_two_pow (by omega) (by omega)
  have h1 : (BitVec.ofInt 64 (a : Int)).toNat = a := by rw [BitVec.ofInt_natCast, BitVec.toNat_ofNat]; exact Nat.mod_eq_of_lt (by omega)
  have h2 : (BitVec.ofInt 64 (b : Int)).toNat = b := by rw [BitVec.ofInt_natCast, BitVec.toNat_ofNat]; exact Nat.mod_eq_of_lt (by omega)
  show IntKind.u64.wrap ((BitVec.ofInt 64 (a : Int) ||| BitVec.ofInt 64 (b : Int)).toNat : Int) = _
  rw [BitVec.toNat_or, h1, h2]
  exact IntWalk.u64_in _ (by omega)

theorem bits_and_u64 (a b : Nat) (ha : a < 256) (hb : b < 256) : bits .and .u64 (a : Int) (b : Int) = ((a &&& b : Nat) : Int) := by
  have hx : a &&& b < 2 ^ 8 := Nat.and_lt_two_pow _ (by omega)
  have h1 : (BitVec.ofInt 64 (a : Int)).toNat = a := by rw [BitVec.ofInt_natCast, BitVec.toNat_ofNat]; exact Nat.mod_eq_of_lt (by omega)
  have h2 : (BitVec.ofInt 64 (b : Int)).toNat = b := by rw [BitVec.ofInt_natCast, BitVec.toNat_ofNat]; exact Nat.mod_eq_of_lt (by omega)
  show IntKind.u64.wrap ((BitVec.ofInt 64 (a : Int) &&& BitVec.ofInt 64 (b : Int)).toNat : Int) = _
  rw [BitVec.toNat_and, h1, h2]
  exact IntWalk.u64_in _ (by omega)

/-- the room's own bit -/
def bitN (k : Int) : Nat := 2 ^ k.toNat
theorem bitN_lt {k : Int} (h1 : k < 8) : bitN k < 256 := by
  unfold bitN
  exact Nat.lt_of_lt_of_le (Nat.pow_lt_pow_right (by omega) (by omega : k.toNat < 8)) (by omega)
theorem bitN_test {k : Int} (h0 : 0 ≤ k) (j : Nat) : (bitN k).testBit j = (k == (j : Int)) := by
  unfold bitN
  rw [Nat.testBit_two_pow]
  rw [Bool.eq_iff_iff]; simp; omega
theorem and_bitN (V : Nat) {k : Int} (h0 : 0 ≤ k) : ((V &&& bitN k) = 0) ↔ V.testBit k.toNat = false := by
  constructor
  · intro h
    have := congrArg (fun x => x.testBit k.toNat) h
    simpa [Nat.testBit_and, bitN, Nat.testBit_two_pow] using this
  · intro h
    apply Nat.eq_of_testBit_eq
    intro j
    rw [Nat.testBit_and, bitN_test h0, Nat.zero_testBit]
    by_cases e : k.toNat = j
    · rw [← e, h]; rfl
    · have : (k == (j : Int)) = false := beq_eq_false_iff_ne.2 (by omega)
      rw [this, Bool.and_false]

/-- the set of the rooms visible from a room by its first doors -/
def VisK (doors : List (Int × Int)) (i : Nat) (r : Int) (V : Nat) : Prop :=
  V < 256 ∧ ∀ k : Nat, k < 8 → V.testBit k = ((doors.take i).any (drHas r k) || (r == (k : Int)))
theorem VisK.start (doors : List (Int × Int)) {r : Int} (h0 : 0 ≤ r) (h1 : r < 8) : VisK doors 0 r (bitN r) := ⟨bitN_lt h1, fun k _ => by rw [bitN_test h0]; rfl⟩
theorem VisK.full {doors : List (Int × Int)} {r : Int} {V : Nat} (h : VisK doors doors.length r V) {k : Nat} (hk : k < 8) : V.testBit k = connB doors r (k : Int) := by
  rw [h.2 k hk, List.take_length]; rfl
theorem or256 {a b : Nat} (ha : a < 256) (hb : b < 256) : (a ||| b) < 256 := by
  have : a ||| b < 2 ^ 8 := Nat.or_lt_two_pow (by omega) (by omega)
  omega
theorem VisK.no {doors : List (Int × Int)} {i : Nat} {r : Int} {V : Nat} (h : VisK doors i r V) (hi : i < doors.length) {p q : Int} (hd : doors[i] = (p, q)) (h1 : (r == p) = false) (h2 : (r == q) = false) : VisK doors (i + 1) r V := by
  refine ⟨h.1, fun k hk => ?_⟩
  rw [h.2 k hk, List.take_succ_eq_append_getElem hi, List.any_append, hd]
  have e1 : (p == r) = false := by rw [beq_eq_false_iff_ne] at h1 ⊢; exact fun e => h1 e.symm
  have e2 : (q == r) = false := by rw [beq_eq_false_iff_ne] at h2 ⊢; exact fun e => h2 e.symm
  simp [drHas, e1, e2]
theorem VisK.one {doors : List (Int × Int)} {i : Nat} {r : Int} {V : Nat} (h : VisK doors i r V) (hi : i < doors.length) {p q : Int} (hd : doors[i] = (p, q)) (hq : 0 ≤ q ∧ q < 8) (h1 : (r == p) = true) : VisK doors (i + 1) r (V ||| bitN q) := by
  have e : r = p := beq_iff_eq.1 h1
  subst e
  refine ⟨or256 h.1 (bitN_lt hq.2), fun k hk => ?_⟩
  rw [Nat.testBit_or, h.2 k hk, bitN_test hq.1, List.take_succ_eq_append_getElem hi, List.any_append, hd]
  simp only [drHas, List.any_cons, List.any_nil, Bool.or_false, beq_self_eq_true, Bool.true_and]
  cases (doors.take i).any (drHas r k) <;> cases e1 : (r == (k : Int)) <;> cases (q == (k : Int)) <;> simp
theorem VisK.two {doors : List (Int × Int)} {i : Nat} {r : Int} {V : Nat} (h : VisK doors i r V) (hi : i < doors.length) {p q : Int} (hd : doors[i] = (p, q)) (hp : 0 ≤ p ∧ p < 8) (h1 : (r == p) = false) (h2 : (r == q) = true) : VisK doors (i + 1) r (V ||| bitN p) := by
  have e : r = q := beq_iff_eq.1 h2
  subst e
  have e1 : (p == r) = false := by rw [beq_eq_false_iff_ne] at h1 ⊢; exact fun e => h1 e.symm
  refine ⟨or256 h.1 (bitN_lt hp.2), fun k hk => ?_⟩
  rw [Nat.testBit_or, h.2 k hk, bitN_test hp.1, List.take_succ_eq_append_getElem hi, List.any_append, hd]
  simp only [drHas, List.any_cons, List.any_nil, Bool.or_false, beq_self_eq_true, Bool.and_true, e1, Bool.false_and, Bool.false_or]
  cases (doors.take i).any (drHas r k) <;> cases (r == (k : Int)) <;> cases (p == (k : Int)) <;> simp

/-- the numbers below i that a test accepts -/
def accL (p : Nat → Bool) (i : Nat) : List Int := ((List.range i).filter p).map fun k : Nat => (k : Int)
theorem accL_zero (p : Nat → Bool) : accL p 0 = [] := rfl
theorem accL_yes {p : Nat → Bool} {i : Nat} (h : p i = true) : accL p (i + 1) = accL p i ++ [(i : Int)] := by simp [accL, List.range_succ, List.filter_append, h]
theorem accL_no {p : Nat → Bool} {i : Nat} (h : p i = false) : accL p (i + 1) = accL p i := by simp [accL, List.range_succ, List.filter_append, h]
theorem accL_len (p : Nat → Bool) (i : Nat) : (accL p i).length ≤ i := by
  unfold accL; rw [List.length_map]; exact Nat.le_trans (List.length_filter_le _ _) (by simp)
theorem accL_congr {p q : Nat → Bool} {i : Nat} (h : ∀ k, k < i → p k = q k) : accL p i = accL q i := by
  unfold accL; congr 1; exact List.filter_congr fun k hk => h k (List.mem_range.1 hk)
theorem accL_false {p : Nat → Bool} {i : Nat} (h : ∀ k, k < i → p k = false) : accL p i = [] := by
  rw [accL_congr (q := fun _ => false) h]; simp [accL]
/-- the rooms visible from a room -/
def roomsVis (rooms : List Bx) (doors : List (Int × Int)) (r : Int) : List Int :=
  if r < 0 ∨ (rooms.length : Int) ≤ r then [] else accL (fun k => connB doors r (k : Int)) rooms.length
end Go.Proofs.Ytdbngpncigjfiaa
