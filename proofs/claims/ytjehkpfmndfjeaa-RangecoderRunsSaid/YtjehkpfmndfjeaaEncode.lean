/- Package rangecoder: newModel, appendLength, Encode. -/
import Derived.Test.YtjehkpfmndfjeaaWalk
namespace Go.Proofs.Ytjehkpfmndfjeaa
open Go.RowKit

/-- a model has been made by value -/
def ModelV (m : Md) : Value := .agg (mdV m).toArray

theorem mdV_one (m : Md) : ∀ v ∈ mdV m, v.oneCell' = true := by
  intro v hv
  simp only [mdV, chV, List.mem_append, List.mem_map, List.mem_cons, List.not_mem_nil, or_false] at hv
  rcases hv with ⟨x, _, rfl⟩ | rfl | rfl <;> rfl

/-- the model with nothing in it -/
def mdz : Md := { ch := List.replicate 256 0, lo := 0, hi := 0 }
theorem zeroModel (w : World) : (zeroValue 46).run Try.prog w = .ok (ModelV mdz) w := by kernel_rfl

theorem infoModel : (Try.prog.info? 46).map (·.size) = some 258 := by kernel_rfl

def mdk (k : Nat) : Md := { ch := List.replicate k 2048 ++ List.replicate (256 - k) 0, lo := 0, hi := 4294967295 }
theorem mdk_len {k : Nat} (hk : k ≤ 256) : (mdk k).ch.length = 256 := by
  simp only [mdk, List.length_append, List.length_replicate]; omega
theorem mdk_set {k : Nat} (hk : k < 256) : { mdk k with ch := (mdk k).ch.set k 2048 } = mdk (k + 1) := by
  simp only [mdk, Md.mk.injEq, and_true]
  rw [List.set_append_right _ _ (by rw [List.length_replicate]; omega), List.length_replicate, Nat.sub_self, show 256 - k = (256 - (k + 1)) + 1 by omega, List.replicate_succ, List.set_cons_zero, List.replicate_succ', List.append_assoc]
  rfl
theorem mdk_end : mdk 256 = md0 := by
  simp only [mdk, md0, Nat.sub_self, List.replicate_zero, List.append_nil]

theorem there_of_blk {w : World} {g : Nat} {c : Array Value} {T : TypeId} {n : Nat} (h : w.heap[g]? = some (.cells c T (0, 0))) (hn : n ≤ c.size) : w.there g 0 n := fun j hj => by
  rw [Nat.zero_add]
  refine ⟨?_, frozen_blk h j⟩
  rw [cell_blk h, Array.getElem?_eq_getElem (by omega)]; rfl
theorem setCells_all {w : World} {g : Nat} {c : Array Value} {T : TypeId} {vs : List Value} (h : w.heap[g]? = some (.cells c T (0, 0))) (hn : vs.length = c.size) : (w.setCells g 0 vs).heap[g]? = some (.cells vs.toArray T (0, 0)) := by
  rw [setCells_blk vs 0 w c h (by omega)]
  congr 3
  simp [hn]

theorem mdz_hi : (mdV mdz).set 257 (.int .u32 4294967295) = mdV (mdk 0) := by
  have h : (mdV mdz) = chV (List.replicate 256 0) ++ [.int .u32 0, .int .u32 0] := rfl
  rw [h, List.set_append_right _ _ (by rw [chV_length, List.length_replicate]; omega), chV_length, List.length_replicate]
  rfl

/-- the state of newModel: the result's block b, the model's block b + 1 -/
def NewM (w : World) (Z : Array Value) (m : Md) (wr : World) : Prop := MdAt wr (w.heap.size + 1) 46 m [] ∧ wr.heap[w.heap.size]? = some (.cells Z 46 (0, 0)) ∧ Fr [] w wr

theorem newm_start {w : World} {Z : Array Value} (hZ : Z = (mdV mdz).toArray) :
    NewM w Z (mdk 0) (((w.alloc (.cells Z 46)).alloc (.cells Z 46)).setCells (w.heap.size + 1) 0 (Z.toList.set 257 (.int .u32 4294967295))) := by
  have h1 := alloc_new (w.alloc (.cells Z 46)) (.cells Z 46)
  rw [World.size_alloc] at h1
  have h0 := alloc_old (o' := .cells Z 46) (alloc_new w (.cells Z 46))
  refine ⟨⟨?_, mdk_len (by omega)⟩, ?_, ((((Fr.refl [] w).alloc _).alloc _).setCells (.inr (by omega)) _ _)⟩
  · have e : Z.toList.set 257 (.int .u32 4294967295) = mdV (mdk 0) := by rw [hZ]; exact mdz_hi
    rw [setCells_all h1 (by simp), List.append_nil, e]
  · rw [heap_setCells_ne _ _ _ _ _ (by omega)]; exact h0

set_option maxHeartbeats 1000000 in
theorem newmodel_any (w : World) : Calls Try.prog 21 #[] w fun e w' => e = .returned (ModelV md0) ∧ Fr [] w w' := by
  have hz := zeroModel
  unfold ModelV at hz
  obtain ⟨Z, hZ⟩ : ∃ Z, Z = (mdV mdz).toArray := ⟨_, rfl⟩
  rw [← hZ] at hz
  have hsz : Z.size = 258 := by
    rw [hZ, List.size_toArray, mdV_length]
    show (List.replicate 256 0).length + 2 = 258
    rw [List.length_replicate]
  have HT1 := Lib.hid (there_of_blk (n := (Z.setIfInBounds 257 (.int .u32 4294967295)).size) (by
    have h1 := alloc_new (w.alloc (.cells Z 46)) (.cells Z 46)
    rw [World.size_alloc] at h1
    exact h1 : ((w.alloc (.cells Z 46)).alloc (.cells Z 46)).heap[w.heap.size + 1]? = some (.cells Z 46 (0, 0))) (by simp))
  have HI1 := Lib.hid (by rw [Array.size_setIfInBounds, hsz]; exact infoModel : (Try.prog.info? 46).map (·.size) = some (Z.setIfInBounds 257 (.int .u32 4294967295)).size)
  have HO1 := Lib.hid (by
    rw [hZ]
    refine Array.all_eq_true_iff_forall_mem.2 fun v hv => ?_
    rcases Array.mem_or_eq_of_mem_setIfInBounds hv with h | h
    · exact mdV_one mdz v (by simpa using h)
    · rw [h]; rfl : (Z.setIfInBounds 257 (.int .u32 4294967295)).all (·.oneCell') = true)
  have HZ := Lib.hid hZ
  have HN := Lib.hid (newm_start (w := w) hZ)
  have HSZ := Lib.hid hsz
  have hs8 : 258 ≤ Z.size := by omega
  clear hZ hsz
  go_enter Try.func21, Try.ntmps21
  go_wp2_with (refine wpList_store_mid rfl _ (Operand.tmp 1) (Operand.tmp 3) (by rfl) (w.heap.size + 1) 0 (Z.setIfInBounds 257 (.int .u32 4294967295)) (by rfl) (by rfl) HT1.out HI1.out HO1.out ?_)
  go_loopw [4] (fun i wr => ∃ k : Nat, k ≤ 256 ∧ i = .int .i64 k ∧ NewM w Z (mdk k) wr) (fun i _ => 256 - (intOf i).toNat)
  case atStart => exact ⟨0, by omega, rfl, HN.out⟩
  case round =>
    clear HN
    obtain ⟨k, hk, rfl, h1, h2, h3⟩ := hrel
    by_cases hk2 : k < 256
    · have cx := h1.c hk2
      have fx := h1.fz k
      have H1 := Lib.hid h1
      have H2 := Lib.hid h2
      have H3 := Lib.hid h3
      have hki : (k : Int) < 256 := by omega
      clear h1 h2 h3
      go_wp2_with fail
      go_roundw
      case rel =>
        refine ⟨k + 1, by omega, by go_num, ?_, ?_, H3.out.setCell (.inr (by simp)) _⟩
        · have := H1.out.setCh hk2 2048
          rw [mdk_set hk2] at this
          exact this
        · rw [setCell_ne (by simp)]; exact H2.out
      case measure => simp [intOf]; omega
    · obtain rfl : k = 256 := by omega
      rw [mdk_end] at h1
      have hblk := h1.1
      rw [List.append_nil] at hblk
      have HB := Lib.hid hblk
      have HT2 := Lib.hid (there_of_blk (n := (mdV md0).toArray.size) h2 (by rw [HSZ.out, List.size_toArray, mdV_length, md0_ok.len]; exact Nat.le_refl _))
      have HI2 := Lib.hid (by rw [List.size_toArray, mdV_length, md0_ok.len]; exact infoModel : (Try.prog.info? 46).map (·.size) = some (mdV md0).toArray.size)
      have HO2 := Lib.hid (all_oneCell_toArray (mdV_one md0))
      have HR := Lib.hid (setCells_all h2 (vs := (mdV md0).toArray.toList) (by rw [HSZ.out]; show (mdV md0).length = 258; rw [mdV_length, md0_ok.len]))
      have HF := Lib.hid (h3.setCells (b := w.heap.size) (.inr (Nat.le_refl _)) 0 (mdV md0).toArray.toList)
      clear h1 h2 h3 hblk
      obtain ⟨V, hV⟩ : ∃ V, V = mdV md0 := ⟨_, rfl⟩
      rw [← hV] at HB HT2 HI2 HO2 HR HF
      have HV := Lib.hid hV
      clear hV
      go_wp2_with (first
        | (refine wpList_store_mid rfl _ (Operand.tmp 0) (Operand.tmp 11) (by rfl) w.heap.size 0 V.toArray (by rfl) (by rfl) HT2.out HI2.out HO2.out ?_)
        | (refine wpList_load_row rfl _ (Operand.tmp 1) (by rfl) (w.heap.size + 1) (by rfl) _ V.toArray _ _ HB.out Try.underlying46 rfl HI2.out ?_))
      refine bodyPost_ret (v := .agg V.toArray) (results_cell_row rfl _ _ w.heap.size _ V.toArray _ _ (by rfl) HR.out Try.underlying46 rfl HI2.out) rfl ?_
      exact ⟨by rw [HV.out]; rfl, HF.out⟩

theorem or128 (x : Nat) : bits BinOp.or IntKind.u8 ((x : Int) % 256) 128 = ((x % 128 + 128 : Nat) : Int) := by
  have h : ∀ y : Fin 256, y.val ||| 128 = y.val % 128 + 128 := by decide +kernel
  rw [show (x : Int) % 256 = ((x % 256 : Nat) : Int) by omega, show (128 : Int) = ((128 : Nat) : Int) from rfl, bits_or_u8 _ _ (by omega) (by omega)]
  have := h ⟨x % 256, by omega⟩
  simp only at this
  rw [this]
  omega

/-- the loop of appendLength -/
def LenInv (w : World) (n : Nat) (sv xv : Value) (wr : World) : Prop :=
  ∃ (dn : List Nat) (x : Nat) (oa : Option Addr) (oc : Nat), sv = .slice oa dn.length oc ∧ xv = .int .i64 (x : Int) ∧ x ≤ n ∧ dn ++ digits x = digits n ∧ Seg wr 5 1 oa dn.length oc (bts dn) ∧ Fr [] w wr ∧ ∀ k ∈ blk oa, w.heap.size ≤ k
theorem LenInv.add {w wr w1 : World} {n x' : Nat} {dn : List Nat} {oa ao' : Option Addr} {cap' : Nat} {o : Obj} {b : Nat} (hx : x' ≤ n) (hd : dn ++ b :: digits x' = digits n)
    (hf : Fr [] w wr) (hn : ∀ k ∈ blk oa, w.heap.size ≤ k) (hs : Seg w1 5 1 ao' (dn.length + 1) cap' (bts dn ++ [.int .u8 (b : Int)])) (h1 : Fr (blk oa) (wr.alloc o) w1) (h2 : Ext (blk oa) (wr.alloc o) (blk ao')) :
    LenInv w n (.slice ao' (dn.length + 1) cap') (.int .i64 (x' : Int)) w1 := by
  have hsz := hf.size
  refine ⟨dn ++ [b], x', ao', cap', by simp, rfl, hx, by simpa using hd, by rw [bts_append, List.length_append]; exact hs, (hf.alloc o).trans h1 (fun k hk => .inr (hn k hk)), fun k hk => ?_⟩
  rcases h2 k hk with h | h
  · exact hn k h
  · simp at h; omega

/-- digits have been laid onto a new slice -/
def LenTo (w : World) (n : Nat) (e : Ending) (w' : World) : Prop :=
  ∃ oa oc, e = .returned (.slice oa (digits n).length oc) ∧ Seg w' 5 1 oa (digits n).length oc (bts (digits n)) ∧ Fr [] w w' ∧ ∀ k ∈ blk oa, w.heap.size ≤ k
theorem LenTo.of {w wr w1 : World} {n x : Nat} {dn : List Nat} {oa ao' : Option Addr} {cap' : Nat} {o : Obj} (hd : dn ++ [x] = digits n)
    (hf : Fr [] w wr) (hn : ∀ k ∈ blk oa, w.heap.size ≤ k) (hs : Seg w1 5 1 ao' (dn.length + 1) cap' (bts dn ++ [.int .u8 (x : Int)])) (h1 : Fr (blk oa) (wr.alloc o) w1) (h2 : Ext (blk oa) (wr.alloc o) (blk ao')) :
    LenTo w n (.returned (.slice ao' (dn.length + 1) cap')) w1 := by
  have hsz := hf.size
  refine ⟨ao', cap', by rw [← hd]; simp, by rw [← hd, bts_append, List.length_append]; exact hs, (hf.alloc o).trans h1 (fun k hk => .inr (hn k hk)), fun k hk => ?_⟩
  rcases h2 k hk with h | h
  · exact hn k h
  · simp at h; omega
theorem digits_len (n : Nat) (k : Nat) (h : n < 128 ^ (k + 1)) : (digits n).length ≤ k + 1 := by
  induction k generalizing n with
  | zero => rw [digits, dif_pos (by omega)]; simp
  | succ k ih =>
    rw [digits]
    split
    · simp
    · have := ih (n / 128) (by rw [Nat.pow_succ] at h; exact Nat.div_lt_of_lt_mul (by rw [Nat.mul_comm]; exact h))
      simp only [List.length_cons]; omega

set_option maxRecDepth 100000 in
set_option maxHeartbeats 1000000 in
theorem applen_any (w : World) (n : Nat) (hn : n ≤ 1099511627776) : Calls Try.prog 22 #[.slice none 0 0, .int .i64 n] w (LenTo w n) := by
  obtain ⟨i0, hi0, hz0, hz1, hz2⟩ := info_parts infoByte
  have hdl := digits_len n 8 (by omega)
  go_enter Try.func22, Try.ntmps22
  go_wp2_with fail
  go_loopw [0, 1] (fun sv xv wr => LenInv w n sv xv wr) (fun _ xv _ => (intOf xv).toNat)
  case atStart => exact ⟨[], n, none, 0, rfl, rfl, Nat.le_refl _, by simp, by simpa [bts] using Seg.nil _ _ _, Fr.refl _ _, by simp [blk]⟩
  case round =>
    obtain ⟨dn, x, oa, oc, rfl, rfl, hx, hd, hs, hf, hne⟩ := hrel
    have hdn : dn.length ≤ 9 := by have := congrArg List.length hd; rw [List.length_append] at this; omega
    have HD := Lib.hid hd
    have HF := Lib.hid hf
    have HNE := Lib.hid hne
    have HS := Lib.hid fun (o : Obj) => hs.alloc o
    have HN := Lib.hid (fun (v : Value) j u hu => by
      rw [Addr.add_mid, Nat.zero_add, World.cell?_alloc_new]; simpa using hu : ∀ v j u, [v][j]? = some u → (wr.alloc (.cells #[v] 5)).cell? ((⟨wr.heap.size, 0, none⟩ : Addr).add j) = some u)
    clear hd hs hf hne
    by_cases hx2 : 128 ≤ x
    · have ho := or128 x
      have HDG := Lib.hid (by rw [digits, dif_neg (by omega)] : digits x = (x % 128 + 128) :: digits (x / 128))
      go_wp2_with (at_builtin; refine wpList_append_seg rfl _ _ 22 rfl 5 i0 _ 1 1 Try.underlying22 hi0 hz0 hz1 hz2 rfl (by decide) oa dn.length oc (bts dn) rfl (HS.out _) ⟨wr.heap.size, 0, none⟩ 1 1 [_] rfl rfl (HN.out _) (by simp [Value.oneCell']) (by unfold maxLen; omega) (by omega) ?_; intro ao' cap' w5 hs5 hf5 hx5; have HS5 := Lib.hid hs5; have HF5 := Lib.hid hf5; have HX5 := Lib.hid hx5; clear hs5 hf5 hx5)
      go_roundw
      case rel =>
        have := LenInv.add (n := n) (x' := x / 128) (b := x % 128 + 128) (by omega) (by rw [← HDG.out]; exact HD.out) HF.out HNE.out (by have := HS5.out; rw [show (x : Int) % 128 + 128 = ((x % 128 + 128 : Nat) : Int) by omega] at this; exact this) HF5.out HX5.out
        rw [show ((x / 128 : Nat) : Int) = (x : Int) / 128 by omega] at this
        exact this
      case measure => simp [intOf]; omega
    · have ho : (x : Int) % 256 = (x : Int) := by omega
      have HDG := Lib.hid (by rw [digits, dif_pos (by omega)] : digits x = [x])
      go_wp2_with (at_builtin; refine wpList_append_seg rfl _ _ 22 rfl 5 i0 _ 1 1 Try.underlying22 hi0 hz0 hz1 hz2 rfl (by decide) oa dn.length oc (bts dn) rfl (HS.out _) ⟨wr.heap.size, 0, none⟩ 1 1 [_] rfl rfl (HN.out _) (by simp [Value.oneCell']) (by unfold maxLen; omega) (by omega) ?_; intro ao' cap' w5 hs5 hf5 hx5; have HS5 := Lib.hid hs5; have HF5 := Lib.hid hf5; have HX5 := Lib.hid hx5; clear hs5 hf5 hx5)
      go_ret
      exact LenTo.of (x := x) (by rw [← HDG.out]; exact HD.out) HF.out HNE.out HS5.out HF5.out HX5.out
end Go.Proofs.Ytjehkpfmndfjeaa
