/- arenanetref29.Malformed. -/
import Derived.Test.YtjehkpfmndfjeaaLaw29c
namespace Go.Proofs.Ytjehkpfmndfjeaa
open Go.RowKit

/-- what Malformed answers, from what readLength reads -/
def malR (r : Nat × List Nat × Int) : Int := if r.2.2 = 0 then (if 4000 < r.1 then 2 else 0) else r.2.2

set_option maxRecDepth 100000 in
set_option maxHeartbeats 4000000 in
theorem malf_any (w : World) (ao : Option Addr) (cap : Nat) (l : List Nat) (h : Src w ao cap l) :
    Calls Try.prog 19 #[.slice ao l.length cap] w fun e w' => e = .returned (.int .i64 (malR (readLen 5 0 0 l))) ∧ Fr [] w w' := by
  have hlen : l.length ≤ 9223372036854775807 := by have := h.rd.2.1; unfold maxLen at this; omega
  have HRD := Lib.hid h.rd
  have HB := Lib.hid h.bytes
  obtain ⟨R, hR⟩ : ∃ R, R = readLen 5 0 0 l := ⟨_, rfl⟩
  rw [← hR]
  have HS := Lib.hid (⟨0, 0, 1, by omega, by omega, rfl, rfl, rfl, by omega, rfl, hR.symm, Fr.refl _ _⟩ : ∃ (i n S : Nat), i ≤ 5 ∧ i ≤ l.length ∧ Value.int .i64 0 = .int .i64 (n : Int) ∧ Value.int .i64 1 = .int .i64 (S : Int) ∧ Value.int .i64 0 = .int .i64 (i : Int) ∧ n < S ∧ S = 128 ^ i ∧ readLen (5 - i) i n (l.drop i) = R ∧ Fr [] w w)
  clear h hR
  go_enter Try.func19, Try.ntmps19
  go_wp2_with fail
  go_loopw [3, 4, 5] (fun nv sv iv wr => ∃ (i n S : Nat), i ≤ 5 ∧ i ≤ l.length ∧ nv = .int .i64 (n : Int) ∧ sv = .int .i64 (S : Int) ∧ iv = .int .i64 (i : Int) ∧ n < S ∧ S = 128 ^ i ∧ readLen (5 - i) i n (l.drop i) = R ∧ Fr [] w wr) (fun _ _ iv _ => 5 - (intOf iv).toNat)
  case atStart => exact HS.out
  case round =>
    clear HS
    obtain ⟨i, n, S, hi5, hil, rfl, rfl, rfl, hn, hS, hR, hf⟩ := hrel
    have HF := Lib.hid hf
    by_cases hl : i < l.length
    · by_cases h5 : i < 5
      · obtain ⟨g, off, rfl, hg, hcc⟩ := HRD.out.at (by omega)
        have cx : wr.cell? ⟨g, off + i, none⟩ = some (.int .u8 ((l[i] : Nat) : Int)) := by
          rw [World.cell?_of_block (a := ⟨g, off + i, none⟩) (hf.block g hg (by simp)), hcc i (by omega), bts_get, List.getElem?_eq_getElem hl]; rfl
        have hx : l[i] < 256 := HB.out _ (List.getElem_mem hl)
        have hdr : l.drop i = l[i] :: l.drop (i + 1) := List.drop_eq_getElem_cons hl
        obtain ⟨k, hk⟩ : ∃ k, 5 - i = k + 1 := ⟨4 - i, by omega⟩
        rw [hdr, hk, readLen] at hR
        obtain ⟨x, hx2⟩ : ∃ x, x = l[i] := ⟨_, rfl⟩
        rw [← hx2] at cx hx hR
        have hS4 : S ≤ 268435456 := by rw [hS]; exact Nat.pow_le_pow_right (n := 128) (j := 4) (by omega) (by omega)
        have hS1 : S * 128 = 128 ^ (i + 1) := by rw [hS, Nat.pow_succ]
        have hp0 : 0 ≤ (x : Int) % 128 * (S : Int) := Int.mul_nonneg (by omega) (by omega)
        have hp1 : (x : Int) % 128 * (S : Int) ≤ 127 * 268435456 := Int.mul_le_mul (by omega) (by omega) (by omega) (by omega)
        have hpn : (x : Int) % 128 * (S : Int) = ((x % 128 * S : Nat) : Int) := by rw [Int.natCast_mul]; rfl
        have hps : x % 128 * S + S ≤ 128 * S := by
          have := Nat.mul_le_mul_right S (show x % 128 + 1 ≤ 128 by omega)
          rw [Nat.add_mul, Nat.one_mul] at this; exact this
        have hnb : n ≤ 268435456 := by omega
        have HPN := Lib.hid hpn
        have HPS := Lib.hid hps
        have HS1 := Lib.hid hS1
        have HSE := Lib.hid hS
        have HR := Lib.hid hR
        have HN := Lib.hid hn
        have hll : (i : Int) < (l.length : Int) := by omega
        clear hx2 hR hn hS hS1 hpn hps hdr hcc hf
        by_cases hx3 : 128 ≤ x
        · go_wp2_with fail
          go_roundw
          case rel =>
            refine ⟨i + 1, n + x % 128 * S, S * 128, by omega, by omega, ?_, by go_num, by go_num, by have := HPS.out; have := HN.out; omega, HS1.out, ?_, HF.out⟩
            · rw [HPN.out]; go_num
            · have := HR.out
              rw [if_neg (by omega)] at this
              rw [show 5 - (i + 1) = k by omega, ← this, HSE.out, show x % 128 = x - 128 by omega]
          case measure => simp [intOf]; omega
        · by_cases hz : 0 < i ∧ x = 0
          · obtain ⟨hz1', hz2'⟩ := hz
            have hb1 : ((x : Int) == 0) = true := by simp [hz2']
            have HM := Lib.hid (by
              have h := HR.out
              rw [if_pos (by omega), if_pos ⟨hz1', hz2'⟩] at h
              rw [← h]; rfl : malR R = 8)
            clear hz2'
            go_wp2_with fail
            go_ret
            exact ⟨congrArg (fun x => Ending.returned (.int .i64 x)) HM.out.symm, HF.out⟩
          by_cases hx0 : x = 0
          · have hi0' : ¬ 0 < i := fun h => hz ⟨h, hx0⟩
            have hb1 : ((x : Int) == 0) = true := by simp [hx0]
            have HX0 := Lib.hid hx0
            clear hx0
            by_cases h4 : (4000 : Int) < (n : Int) + (x : Int) % 128 * (S : Int)
            · have HM := Lib.hid (by
                have h := HR.out
                rw [if_pos (by omega), if_neg hz] at h
                have := HPN.out
                rw [← h, malR, if_pos rfl, if_pos (by rw [← HSE.out, show x * S = x % 128 * S by rw [Nat.mod_eq_of_lt (by omega)]]; simp only; omega)] : malR R = 2)
              go_wp2_with fail
              go_ret
              exact ⟨congrArg (fun x => Ending.returned (.int .i64 x)) HM.out.symm, HF.out⟩
            · have HM := Lib.hid (by
                have h := HR.out
                rw [if_pos (by omega), if_neg hz] at h
                have := HPN.out
                rw [← h, malR, if_pos rfl, if_neg (by rw [← HSE.out, show x * S = x % 128 * S by rw [Nat.mod_eq_of_lt (by omega)]]; simp only; omega)] : malR R = 0)
              go_wp2_with fail
              go_ret
              exact ⟨congrArg (fun x => Ending.returned (.int .i64 x)) HM.out.symm, HF.out⟩
          · have hb1 : ((x : Int) == 0) = false := by simp; omega
            have HX0 := Lib.hid hx0
            clear hx0
            by_cases h4 : (4000 : Int) < (n : Int) + (x : Int) % 128 * (S : Int)
            · have HM := Lib.hid (by
                have h := HR.out
                rw [if_pos (by omega), if_neg hz] at h
                have := HPN.out
                rw [← h, malR, if_pos rfl, if_pos (by rw [← HSE.out, show x * S = x % 128 * S by rw [Nat.mod_eq_of_lt (by omega)]]; simp only; omega)] : malR R = 2)
              go_wp2_with fail
              go_ret
              exact ⟨congrArg (fun x => Ending.returned (.int .i64 x)) HM.out.symm, HF.out⟩
            · have HM := Lib.hid (by
                have h := HR.out
                rw [if_pos (by omega), if_neg hz] at h
                have := HPN.out
                rw [← h, malR, if_pos rfl, if_neg (by rw [← HSE.out, show x * S = x % 128 * S by rw [Nat.mod_eq_of_lt (by omega)]]; simp only; omega)] : malR R = 0)
              go_wp2_with fail
              go_ret
              exact ⟨congrArg (fun x => Ending.returned (.int .i64 x)) HM.out.symm, HF.out⟩
      · have hk0 : 5 - i = 0 := by omega
        have HM := Lib.hid (by rw [← hR, hk0]; rfl : malR R = 7)
        clear hn hS hR hf
        go_wp2_with fail
        go_ret
        exact ⟨congrArg (fun x => Ending.returned (.int .i64 x)) HM.out.symm, HF.out⟩
    · have HM := Lib.hid (by rw [← hR, List.drop_eq_nil_of_le (by omega), readLen_nil]; rfl : malR R = 7)
      clear hn hS hR hf
      go_wp2_with fail
      go_ret
      exact ⟨congrArg (fun x => Ending.returned (.int .i64 x)) HM.out.symm, HF.out⟩
end Go.Proofs.Ytjehkpfmndfjeaa
