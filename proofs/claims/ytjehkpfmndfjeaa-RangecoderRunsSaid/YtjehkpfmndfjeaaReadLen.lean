/- Package rangecoder: readLength. -/
import Derived.Test.YtjehkpfmndfjeaaWalkD
namespace Go.Proofs.Ytjehkpfmndfjeaa
open Go.RowKit

/-- what readLength returns -/
def RLTo (w : World) (ao : Option Addr) (r : Nat × List Nat × Int) (e : Ending) (w' : World) : Prop :=
  ∃ ra rc, e = .returned (.tuple #[.int .i64 (r.1 : Int), .slice ra r.2.1.length rc, .int .i64 r.2.2]) ∧ Rd w 1 ra r.2.1.length (bts r.2.1) ∧ r.2.1.length ≤ rc ∧ rc ≤ maxLen ∧ (∀ k ∈ blk ra, k ∈ blk ao) ∧ Fr [] w w'

theorem readLen_nil (k i n : Nat) : readLen k i n [] = (0, [], 7) := by cases k <;> rfl
theorem Rd.nil1 (w : World) : Rd w 1 none 0 [] := ⟨rfl, by simp, .inl rfl⟩
theorem rl_none {w w' : World} {ao : Option Addr} {err : Int} (hf : Fr [] w w') : RLTo w ao (0, [], err) (.returned (.tuple #[.int .i64 0, .slice none 0 0, .int .i64 err])) w' :=
  ⟨none, 0, rfl, by simpa [bts] using Rd.nil1 w, by simp, by simp, by simp [blk], hf⟩

theorem and127 (x : Nat) (hx : x < 256) : bits BinOp.and IntKind.u8 (x : Int) 127 = ((x % 128 : Nat) : Int) := by
  have h : ∀ y : Fin 256, y.val &&& 127 = y.val % 128 := by decide +kernel
  rw [show (127 : Int) = ((127 : Nat) : Int) from rfl, bits_and_u8 _ _ hx (by omega)]
  have := h ⟨x, hx⟩
  simp only at this
  rw [this]

theorem digit_or (n y i : Nat) (hi : i < 5) (hn : n < 128 ^ i) (hy : y < 128) : bits BinOp.or IntKind.i64 (n : Int) (wrap64 ((y : Int) * 2 ^ (7 * i))) = ((n + y * 128 ^ i : Nat) : Int) := by
  have hp : (128 : Nat) ^ i ≤ 128 ^ 4 := Nat.pow_le_pow_right (by omega) (by omega)
  have hp0 : 0 < (128 : Nat) ^ i := Nat.pos_of_ne_zero (by simp)
  have e2 : (2 : Nat) ^ (7 * i) = 128 ^ i := by rw [Nat.pow_mul]
  have hm : y * 128 ^ i ≤ 127 * 128 ^ 4 := Nat.mul_le_mul (by omega) hp
  have e1 : (y : Int) * 2 ^ (7 * i) = ((y * 128 ^ i : Nat) : Int) := by
    rw [show (2 : Int) ^ (7 * i) = ((2 ^ (7 * i) : Nat) : Int) by rw [Int.natCast_pow]; rfl, e2, Int.natCast_mul]
  rw [e1, IntWalk.wrap64_in _ (by omega), bits_or_i64 _ _ (by omega) (by omega), ← e2, Nat.or_comm, or_low _ _ _ (by rw [e2]; exact hn), Nat.add_comm]

theorem cut_rd {w : World} {g off cap n i : Nat} {l : List Nat} (h : Rd w 1 (some ⟨g, off, none⟩) l.length (bts l)) (hi : i ≤ l.length) (hc : l.length ≤ cap) : Rd w 1 (cutA (some ⟨g, off, none⟩) i cap 1) (l.drop i).length (bts (l.drop i)) := by
  obtain ⟨e1, e2, e3⟩ := h
  refine ⟨by simp [bts_length], by rw [List.length_drop]; omega, ?_⟩
  rcases Nat.eq_or_lt_of_le hi with h0 | h0
  · left; rw [List.length_drop]; omega
  · rcases e3 with e3 | ⟨g', off', ha, hg, hcc⟩
    · omega
    · cases ha
      refine .inr ⟨g, off + i * 1, cutA_ne (by omega), hg, fun j hj => ?_⟩
      rw [List.length_drop] at hj
      have := hcc (i + j) (by omega)
      rw [show off + i * 1 + j = off + (i + j) by omega, this]
      simp [bts, List.getElem?_drop]

set_option maxRecDepth 100000 in
set_option maxHeartbeats 4000000 in
theorem readlen_any (w : World) (ao : Option Addr) (cap : Nat) (l : List Nat) (hrd : Rd w 1 ao l.length (bts l)) (hb : Bytes l) (hc : l.length ≤ cap) (hcm : cap ≤ maxLen) :
    Calls Try.prog 29 #[.slice ao l.length cap] w (RLTo w ao (readLen 5 0 0 l)) := by
  have hlen : l.length ≤ 9223372036854775807 := by have := hrd.2.1; unfold maxLen at this; omega
  have hcl : cap ≤ 9223372036854775807 := by unfold maxLen at hcm; omega
  have HRD := Lib.hid hrd
  have HB := Lib.hid hb
  have HCM := Lib.hid hcm
  have HSL := Lib.hid fun (i : Nat) (hi : i + 1 ≤ l.length) => run_slice_from (P := Try.prog) 22 5 Try.underlying22 1 (by kernel_rfl) ao l.length cap (i + 1) hi
  obtain ⟨R, hR⟩ : ∃ R, R = readLen 5 0 0 l := ⟨_, rfl⟩
  rw [← hR]
  have HS := Lib.hid (⟨0, 0, by omega, by omega, rfl, rfl, by omega, hR.symm, Fr.refl _ _⟩ : ∃ (i n : Nat), i ≤ 5 ∧ i ≤ l.length ∧ Value.int .i64 0 = .int .i64 (n : Int) ∧ Value.int .i64 0 = .int .i64 (i : Int) ∧ n < 128 ^ i ∧ readLen (5 - i) i n (l.drop i) = R ∧ Fr [] w w)
  clear hrd hb hcm hR
  go_enter Try.func29, Try.ntmps29
  go_wp2_with fail
  go_loopw [5, 7] (fun nv iv wr => ∃ (i n : Nat), i ≤ 5 ∧ i ≤ l.length ∧ nv = .int .i64 (n : Int) ∧ iv = .int .i64 (i : Int) ∧ n < 128 ^ i ∧ readLen (5 - i) i n (l.drop i) = R ∧ Fr [] w wr) (fun _ iv _ => 5 - (intOf iv).toNat)
  case atStart => exact HS.out
  case round =>
    clear HS
    obtain ⟨i, n, hi5, hil, rfl, rfl, hn, hR, hf⟩ := hrel
    have HF := Lib.hid hf
    by_cases h5 : i < 5
    · by_cases hl : i < l.length
      · obtain ⟨g, off, rfl, hg, hcc⟩ := HRD.out.at (by omega)
        have cx : wr.cell? ⟨g, off + i, none⟩ = some (.int .u8 ((l[i] : Nat) : Int)) := by
          rw [World.cell?_of_block (a := ⟨g, off + i, none⟩) (hf.block g hg (by simp)), hcc i (by omega), bts_get, List.getElem?_eq_getElem hl]; rfl
        have hx : l[i] < 256 := HB.out _ (List.getElem_mem hl)
        have hdr : l.drop i = l[i] :: l.drop (i + 1) := List.drop_eq_getElem_cons hl
        obtain ⟨k, hk⟩ : ∃ k, 5 - i = k + 1 := ⟨4 - i, by omega⟩
        rw [hdr, hk, readLen] at hR
        obtain ⟨x, hx2⟩ : ∃ x, x = l[i] := ⟨_, rfl⟩
        rw [← hx2] at cx hx hR
        have HX := Lib.hid hx2
        have HR := Lib.hid hR
        have HN := Lib.hid hn
        have HK := Lib.hid hk
        have ha := and127 x hx
        have hneb : ((i : Int) == (l.length : Int)) = false := beq_eq_false_iff_ne.2 (by omega)
        have w7 : IntKind.i64.wrap (7 * (i : Int)) = 7 * (i : Int) := IntWalk.i64_in _ (by omega)
        have hdo := digit_or n (x % 128) i h5 hn (by omega)
        rw [Int.natCast_emod, show ((128 : Nat) : Int) = 128 from rfl] at hdo
        obtain ⟨N, hN⟩ : ∃ N, N = n + x % 128 * 128 ^ i := ⟨_, rfl⟩
        rw [← hN] at hdo
        have HNN := Lib.hid hN
        have HCUT := Lib.hid (cut_rd (n := n) HRD.out (show i + 1 ≤ l.length by omega) hc)
        clear hf hcc hdr hR hn hk hx2 hN
        by_cases hx8 : x < 128
        · by_cases hz : 0 < i ∧ x = 0
          · obtain ⟨hz1, hz2⟩ := hz
            have hRe := HR.out
            rw [if_pos hx8, if_pos ⟨hz1, hz2⟩] at hRe
            have HRE := Lib.hid hRe
            have hzb : ((x : Int) == 0) = true := beq_iff_eq.2 (by omega)
            clear hRe hz2 HR
            go_wp2_with fail
            go_ret3
            exact HRE.out ▸ rl_none HF.out
          · have hRe := HR.out
            rw [if_pos hx8, if_neg hz] at hRe
            have HRE := Lib.hid hRe
            have hmod : x % 128 = x := Nat.mod_eq_of_lt hx8
            have HMOD := Lib.hid hmod
            have hsl : ∀ u : World, (Instr.slice 22 (.slice (some ⟨g, off, none⟩) l.length cap) (some (.int .i64 ((i : Int) + 1))) none none).run Try.prog u = .ok (.slice (cutA (some ⟨g, off, none⟩) (i + 1) cap 1) (l.length - (i + 1)) (cap - (i + 1))) u := HSL.out i (by omega)
            have HSL2 := Lib.hid hsl
            have w8 : IntKind.i64.wrap ((i : Int) + 1) = (i : Int) + 1 := IntWalk.i64_in _ (by omega)
            have hzz : 0 < i → ((x : Int) == 0) = false := fun h => beq_eq_false_iff_ne.2 (by omega)
            clear hRe HR hmod
            rcases Nat.eq_zero_or_pos i with hi0 | hi0
            · have hg0 : ¬ 0 < i := by omega
              clear hi0 hzz hz
              go_wp2_with fail
              go_quiet (fail)
              go_wp2
              go_ret3
              have hl2 : (l.drop (i + 1)).length = l.length - (i + 1) := List.length_drop
              refine ⟨cutA (some ⟨g, off, none⟩) (i + 1) cap 1, cap - (i + 1), ?_, ?_, ?_, by have := HCM.out; omega, fun k hk => by rw [blk_cutA] at hk; exact hk, HF.out.trans ((Fr.refl [] _).drewN _) (by simp [Ext])⟩
              · rw [← HRE.out]; simp only [hl2]; rw [HNN.out, HMOD.out]; rfl
              · rw [← HRE.out]; exact HCUT.out
              · rw [← HRE.out]; simp only [hl2]; omega
            · have hzb : ((x : Int) == 0) = false := hzz hi0
              clear hzz hz
              go_wp2_with fail
              go_quiet (fail)
              go_wp2
              go_ret3
              have hl2 : (l.drop (i + 1)).length = l.length - (i + 1) := List.length_drop
              refine ⟨cutA (some ⟨g, off, none⟩) (i + 1) cap 1, cap - (i + 1), ?_, ?_, ?_, by have := HCM.out; omega, fun k hk => by rw [blk_cutA] at hk; exact hk, HF.out.trans ((Fr.refl [] _).drewN _) (by simp [Ext])⟩
              · rw [← HRE.out]; simp only [hl2]; rw [HNN.out, HMOD.out]; rfl
              · rw [← HRE.out]; exact HCUT.out
              · rw [← HRE.out]; simp only [hl2]; omega
        · have hRe := HR.out
          rw [if_neg hx8] at hRe
          have hN2 : n + (x - 128) * 128 ^ i = N := by rw [HNN.out]; congr 2; omega
          rw [hN2] at hRe
          have HRE := Lib.hid hRe
          have hNl : N < 128 ^ (i + 1) := by
            rw [HNN.out, Nat.pow_succ]
            have : x % 128 * 128 ^ i ≤ 127 * 128 ^ i := Nat.mul_le_mul_right _ (by omega)
            have := HN.out
            omega
          have HNL := Lib.hid hNl
          clear hRe HR hN2 hNl
          go_wp2_with fail
          go_roundw
          case rel => exact ⟨i + 1, N, by omega, by omega, rfl, by go_num, HNL.out, by rw [show 5 - (i + 1) = k by have := HK.out; omega]; exact HRE.out, HF.out⟩
          case measure => simp [intOf]; omega
      · have hRe := hR
        rw [List.drop_of_length_le (by omega), readLen_nil] at hRe
        have HRE := Lib.hid hRe
        have heb : ((i : Int) == (l.length : Int)) = true := beq_iff_eq.2 (by omega)
        clear hRe hR hn hf
        go_wp2_with fail
        go_ret3
        exact HRE.out ▸ rl_none HF.out
    · have hi : i = 5 := by omega
      have hRe := hR
      rw [show 5 - i = 0 by omega, readLen] at hRe
      have HRE := Lib.hid hRe
      clear hRe hR hn hf hi
      go_wp2_with fail
      go_ret3
      exact HRE.out ▸ rl_none HF.out
end Go.Proofs.Ytjehkpfmndfjeaa
