/- Package rangecoder: the function value of Decode, and walk over it. -/
import Derived.Test.YtjehkpfmndfjeaaGet
namespace Go.Proofs.Ytjehkpfmndfjeaa
open Go.RowKit

theorem dnorm_m : ∀ (k : Nat) (s : Ds), (dnorm k s).m = (norm k s.m).2
  | 0, _ => rfl
  | k + 1, s => by
    unfold dnorm norm
    split
    · rw [dnorm_m k]
    · rfl
theorem Ds.step_rdy {s : Ds} (h : s.m.Rdy) {c : Nat} (hc : c < 256) : (s.step c).m.Rdy := by
  unfold Ds.step
  rw [dnorm_m]
  exact h.step hc (s.bit c)
theorem byteFrom_rdy : ∀ (d : Nat) {s : Ds} {c : Nat}, s.m.Rdy → (c + 1) * 2 ^ d ≤ 512 → (s.byteFrom c d).2.m.Rdy
  | 0, _, _, h, _ => h
  | d + 1, s, c, h, hc => by
    have hp : 0 < 2 ^ d := Nat.pos_of_ne_zero (by simp)
    rw [Nat.pow_succ] at hc
    have hc256 : c < 256 := by
      have : (c + 1) * 2 ≤ (c + 1) * (2 ^ d * 2) := Nat.mul_le_mul_left _ (by omega)
      omega
    refine byteFrom_rdy d (Ds.step_rdy h hc256) ?_
    have hb : b2n (s.bit c) ≤ 1 := by unfold b2n; split <;> omega
    have : (2 * c + b2n (s.bit c) + 1) * 2 ^ d ≤ ((c + 1) * 2) * 2 ^ d := Nat.mul_le_mul_right _ (by omega)
    have e2 : (c + 1) * 2 * 2 ^ d = (c + 1) * (2 ^ d * 2) := by rw [Nat.mul_assoc, Nat.mul_comm 2 (2 ^ d)]
    omega

section
variable {w : World} {p : Nat} {s : Ds}

theorem decbit_any (h : IsDec w p s) (hm : s.m.Rdy) (c : Nat) (hc : c < 256) (x : Int) {db : Nat} (h1 : w.cell? ⟨db, 0, none⟩ = some (.pointer (some ⟨p, 0, none⟩))) :
    Calls Try.prog 31 #[.int .i64 c, .int .i64 x, .pointer (some ⟨db, 0, none⟩)] w fun e w' => e = .returned (.int .i64 (b2n (s.bit c) : Int)) ∧ DecTo w p (s.step c) w' := by
  have HG := Lib.hid (get_any h hm c hc)
  clear h hm hc
  go_enter Try.func31, Try.ntmps31
  go_wp2_with fail
  refine HG.out.mono ?_
  rintro e w1 ⟨rfl, hp⟩
  have H1 := Lib.hid hp
  clear hp
  go_wp2
  go_ret
  exact ⟨rfl, H1.out⟩

theorem two_or' (c b : Nat) (hc : c < 512) (hb : b < 2) : bits BinOp.or IntKind.i64 ((c : Int) * 2) (b : Int) = ((2 * c + b : Nat) : Int) := two_or c b hc hb

set_option maxHeartbeats 2000000 in
theorem walkdec_any (h : IsDec w p s) (hm : s.m.Rdy) {db : Nat} (h1 : w.cell? ⟨db, 0, none⟩ = some (.pointer (some ⟨p, 0, none⟩))) (hdb : db ≠ p) :
    Calls Try.prog 23 #[.func (.func 31) #[] #[.pointer (some ⟨db, 0, none⟩)]] w fun e w' => e = .returned (.int .u8 (s.byte.1 : Int)) ∧ DecTo w p s.byte.2 w' := by
  have hdl := World.block_lt_of_cell? w _ h1
  simp only at hdl
  obtain ⟨R, hR⟩ : ∃ R, R = s.byteFrom 1 8 := ⟨_, rfl⟩
  have hby : s.byte = (R.1 % 256, R.2) := by rw [hR]; rfl
  rw [hby]
  have HS := Lib.hid (⟨8, 1, s, by omega, rfl, rfl, by omega, hm, h.to, hR.symm⟩ :
    ∃ (d c : Nat) (sc : Ds), d ≤ 8 ∧ Value.int .i64 1 = .int .i64 c ∧ Value.int .i64 7 = .int .i64 ((d : Int) - 1) ∧ (c + 1) * 2 ^ d ≤ 512 ∧ sc.m.Rdy ∧ DecTo w p sc w ∧ sc.byteFrom c d = R)
  have H1 := Lib.hid h1
  have HDB := Lib.hid hdb
  clear h hm h1 hR hby hdb
  go_enter Try.func23, Try.ntmps23
  go_wp2_with fail
  go_loopw [3, 4] (fun cv pv wr => ∃ (d c : Nat) (sc : Ds), d ≤ 8 ∧ cv = .int .i64 c ∧ pv = .int .i64 ((d : Int) - 1) ∧ (c + 1) * 2 ^ d ≤ 512 ∧ sc.m.Rdy ∧ DecTo w p sc wr ∧ sc.byteFrom c d = R) (fun _ pv _ => (intOf pv + 1).toNat)
  case atStart => exact HS.out
  case round =>
    clear HS
    obtain ⟨d, c, sc, hd, rfl, rfl, hcd, hm, ⟨h3, hf2⟩, hR⟩ := hrel
    have g1 : wr.cell? ⟨db, 0, none⟩ = some (.pointer (some ⟨p, 0, none⟩)) := (World.cell?_of_block (a := ⟨db, 0, none⟩) (hf2.block db hdl (by simpa using HDB.out))).trans H1.out
    cases d with
    | zero =>
      have hR2 : (c, sc) = R := hR
      subst hR2
      have HE := Lib.hid (⟨h3, hf2⟩ : DecTo w p sc wr)
      have hcl2 : c < 512 := by simp at hcd; omega
      clear h3 hf2 hR hcd
      go_wp2_with fail
      go_ret
      exact ⟨ret_int (by first | omega | simp only), HE.out⟩
    | succ d =>
      have hp : 0 < 2 ^ d := Nat.pos_of_ne_zero (by simp)
      have hcd1 := hcd
      rw [Nat.pow_succ] at hcd1
      have hc256 : c < 256 := by
        have : (c + 1) * 2 ≤ (c + 1) * (2 ^ d * 2) := Nat.mul_le_mul_left _ (by omega)
        omega
      obtain ⟨b, hb⟩ : ∃ b, b = b2n (sc.bit c) := ⟨_, rfl⟩
      have hb2 : b < 2 := by rw [hb]; unfold b2n; split <;> omega
      have hcd2 : (2 * c + b + 1) * 2 ^ d ≤ 512 := by
        have : (2 * c + b + 1) * 2 ^ d ≤ ((c + 1) * 2) * 2 ^ d := Nat.mul_le_mul_right _ (by omega)
        have e2 : (c + 1) * 2 * 2 ^ d = (c + 1) * (2 ^ d * 2) := by rw [Nat.mul_assoc, Nat.mul_comm 2 (2 ^ d)]
        omega
      have hR2 : (sc.step c).byteFrom (2 * c + b) d = R := by rw [hb]; exact hR
      have hcall := decbit_any h3 hm c hc256 (d : Int) g1
      rw [← hb] at hcall
      have HCALL := Lib.hid hcall
      have HM := Lib.hid (Ds.step_rdy hm hc256)
      have HRR := Lib.hid hR2
      have HF2 := Lib.hid hf2
      have HCD := Lib.hid hcd2
      have ho := two_or c b (by omega) hb2
      have hdd : ((d + 1 : Nat) : Int) - 1 = (d : Int) := by omega
      have hd0 : (0 : Int) ≤ (d : Int) := by omega
      clear hR hR2 hb hcall h3 hf2 hcd hcd1 hcd2 hm g1 hp
      rw [hdd]
      clear hdd
      go_wp2_with fail
      refine HCALL.out.mono ?_
      rintro e w5 ⟨rfl, hp⟩
      have HP := Lib.hid hp
      clear hp
      go_wp2_with fail
      go_roundw
      case rel => exact ⟨d, 2 * c + b, _, by omega, by first | rfl | go_num, by first | rfl | go_num, HCD.out, HM.out, DecTo.trans HF2.out HP.out, HRR.out⟩
      case measure => simp [intOf]
end
end Go.Proofs.Ytjehkpfmndfjeaa
