/- arenanetref29.Message: some bytes, at most 300. -/
import Derived.Test.YtjehkpfmndfjeaaLaw29c
import Derived.Test.YtjehkpfmndfjeaaRowI
namespace Go.Proofs.Ytjehkpfmndfjeaa
open Go.RowKit

/-- what has been built so far -/
def Made (w : World) (sv : Value) (wr : World) : Prop :=
  ∃ (M : List Nat) (oa : Option Addr) (oc : Nat), sv = .slice oa M.length oc ∧ M.length ≤ 300 ∧ Bytes M ∧ Seg wr 5 1 oa M.length oc (bts M) ∧ Fr [] w wr ∧ ∀ k ∈ blk oa, w.heap.size ≤ k

theorem Made.add {w wr w1 : World} {M : List Nat} {oa ao' : Option Addr} {cap' : Nat} {o : Obj} {b : Nat} (hM : Bytes M) (hl : M.length < 300) (hb : b < 256)
    (hf : Fr [] w wr) (hn : ∀ k ∈ blk oa, w.heap.size ≤ k) (hs : Seg w1 5 1 ao' (M.length + 1) cap' (bts M ++ [.int .u8 (b : Int)])) (h1 : Fr (blk oa) (wr.alloc o) w1) (h2 : Ext (blk oa) (wr.alloc o) (blk ao')) :
    Made w (.slice ao' (M.length + 1) cap') w1 := by
  have hsz := hf.size
  refine ⟨M ++ [b], ao', cap', by simp, by simp; omega, hM.append (by intro x hx; simp at hx; omega), by rw [bts_append, List.length_append]; exact hs, (hf.alloc o).trans h1 (fun k hk => .inr (hn k hk)), fun k hk => ?_⟩
  rcases h2 k hk with h | h
  · exact hn k h
  · have : wr.heap.size ≤ k := by simp at h; omega
    omega

def Message (w : World) (e : Ending) (w' : World) : Prop := ∃ M : List Nat, Bytes M ∧ M.length ≤ 300 ∧ SliceTo w M e w'

set_option maxRecDepth 100000 in
set_option maxHeartbeats 2000000 in
theorem message_any (w : World) (lo : Option Addr) (lc : Nat) (l : List Int) (hrd : Rd w 1 lo l.length (ints l)) (hb : ∀ x ∈ l, bounded x) :
    Calls Try.prog 12 #[.slice lo l.length lc] w (Message w) := by
  obtain ⟨i0, hi0, hz0, hz1, hz2⟩ := info_parts infoByte
  have HRD := Lib.hid hrd
  have HB := Lib.hid hb
  have hll : l.length ≤ maxLen := hrd.2.1
  have hlm : l.length ≤ 9223372036854775807 := by unfold maxLen at hll; omega
  clear hrd hb hll
  go_enter Try.func12, Try.ntmps12
  go_wp2_with fail
  go_loopw [3, 4] (fun sv iv wr => Made w sv wr ∧ ∃ i : Nat, iv = .int .i64 i ∧ i ≤ 30) (fun _ iv _ => 30 - (intOf iv).toNat)
  case atStart => exact ⟨⟨[], none, 0, rfl, by simp, by intro x hx; simp at hx, by simpa [bts] using Seg.nil _ _ _, Fr.refl _ _, by simp [blk]⟩, 0, rfl, by omega⟩
  case round =>
    obtain ⟨⟨M, oa, oc, rfl, hm, hMb, hs, hf, hne⟩, i, rfl, hi30⟩ := hrel
    have MB := Lib.hid hMb
    have SM := Lib.hid hs
    have FM := Lib.hid hf
    have NM := Lib.hid hne
    clear hMb hs hf hne
    by_cases hil : i < l.length
    · by_cases hi3 : i < 30
      · have hlp : 0 < l.length := by omega
        have hcx : ∃ g off, lo = some ⟨g, off, none⟩ ∧ wr.cell? ⟨g, off + i, none⟩ = some (.int .i64 l[i]) := by
          obtain ⟨g, off, h1, g1, h2⟩ := HRD.out.at hlp
          refine ⟨g, off, h1, ?_⟩
          rw [World.cell?_of_block (a := ⟨g, off + i, none⟩) (FM.out.block g g1 (by simp)), h2 i (by omega), ints_get, List.getElem?_eq_getElem hil]; rfl
        obtain ⟨g, off, rfl, ci⟩ := hcx
        obtain ⟨n, hn1, -, hAR⟩ := around_nat l[i] 1000000 (HB.out _ (List.getElem_mem hil)) (by omega) (by omega)
        have HAR := Lib.hid hAR
        obtain ⟨x, hx⟩ : ∃ x, x = l[i] := ⟨_, rfl⟩
        rw [← hx] at ci HAR
        have hil2 : (i : Int) < (l.length : Int) := by omega
        clear hAR hx
        go_wp2_with fail
        refine (HAR.out _).mono ?_
        rintro e w1 ⟨rfl, rfl⟩
        go_wp2_with fail
        go_loopw [3, 6] (fun sv kv wr2 => Made w sv wr2 ∧ ∃ k : Nat, kv = .int .i64 k ∧ k ≤ 11) (fun _ kv _ => 11 - (intOf kv).toNat)
        case atStart => exact ⟨⟨M, oa, oc, rfl, hm, MB.out, SM.out, FM.out, NM.out⟩, 0, rfl, by omega⟩
        case round =>
          obtain ⟨⟨M2, oa2, oc2, rfl, hm2, hMb2, hs2, hf2, hne2⟩, k, rfl, hk11⟩ := hrel
          have MB2 := Lib.hid hMb2
          have SM2 := Lib.hid hs2
          have HS2 := Lib.hid fun (o : Obj) => hs2.alloc o
          have FM2 := Lib.hid hf2
          have NM2 := Lib.hid hne2
          have HN := Lib.hid (fun (v : Value) j u hu => by
            rw [Addr.add_mid, Nat.zero_add, World.cell?_alloc_new]; simpa using hu : ∀ v j u, [v][j]? = some u → (wr.alloc (.cells #[v] 5)).cell? ((⟨wr.heap.size, 0, none⟩ : Addr).add j) = some u)
          clear hMb2 hs2 hf2 hne2
          by_cases hkn : k < n % 11
          · by_cases hk3 : M2.length < 300
            · have hc0 : 0 ≤ (n : Int) / 55 % 3 := by omega
              have hc2 : (n : Int) / 55 % 3 ≤ 2 := by omega
              have hp0 : 0 ≤ (k : Int) * ((n : Int) / 55 % 3) := Int.mul_nonneg (by omega) hc0
              have hp1 : (k : Int) * ((n : Int) / 55 % 3) ≤ 11 * 2 := Int.mul_le_mul (by omega) hc2 hc0 (by omega)
              obtain ⟨v, hv, hve⟩ : ∃ v : Nat, v < 256 ∧ (n : Int) / 11 % 5 * 40 + (k : Int) * ((n : Int) / 55 % 3) = (v : Int) := ⟨((n : Int) / 11 % 5 * 40 + (k : Int) * ((n : Int) / 55 % 3)).toNat, by omega, by omega⟩
              have HVE := Lib.hid hve
              clear hve
              go_wp2_with (at_builtin; refine wpList_append_seg rfl _ _ 22 rfl 5 i0 _ 1 1 Try.underlying22 hi0 hz0 hz1 hz2 rfl (by decide) oa2 M2.length oc2 (bts M2) rfl (HS2.out _) ⟨_, 0, none⟩ 1 1 [_] rfl rfl (HN.out _) (by simp [Value.oneCell']) (by unfold maxLen; omega) (by omega) ?_; intro ao' cap' w5 hs5 hf5 hx5; have HS5 := Lib.hid hs5; have HF5 := Lib.hid hf5; have HX5 := Lib.hid hx5; clear hs5 hf5 hx5)
              go_roundw
              case rel => exact ⟨Made.add MB2.out hk3 hv FM2.out NM2.out (by have := HS5.out; rw [HVE.out] at this; exact this) HF5.out HX5.out, k + 1, by go_num, by omega⟩
              case measure => simp [intOf]; omega
            · go_wp2_with fail
              go_roundw
              case rel => exact ⟨⟨M2, oa2, oc2, rfl, hm2, MB2.out, SM2.out, FM2.out, NM2.out⟩, i + 1, by go_num, by omega⟩
              case measure => simp [intOf]; omega
          · go_wp2_with fail
            go_roundw
            case rel => exact ⟨⟨M2, oa2, oc2, rfl, hm2, MB2.out, SM2.out, FM2.out, NM2.out⟩, i + 1, by go_num, by omega⟩
            case measure => simp [intOf]; omega
      · go_wp2_with fail
        go_ret
        exact ⟨M, MB.out, hm, oa, oc, rfl, SM.out, FM.out, NM.out⟩
    · go_wp2_with fail
      go_ret
      exact ⟨M, MB.out, hm, oa, oc, rfl, SM.out, FM.out, NM.out⟩
end Go.Proofs.Ytjehkpfmndfjeaa
