/- Package rangecoder: the function value of Encode, and walk over it. -/
import Derived.Test.YtjehkpfmndfjeaaFin
namespace Go.Proofs.Ytjehkpfmndfjeaa
open Go.RowKit

section
variable {w : World} {p : Nat} {F : List Nat} {m : Md} {out : List Nat}

theorem and_one (a : Nat) (h : a < 9223372036854775808) : bits BinOp.and IntKind.i64 (a : Int) 1 = ((a % 2 : Nat) : Int) := by
  have := bits_and_i64 a 1 h (by omega)
  rw [Nat.and_one_is_mod] at this
  exact this

set_option maxHeartbeats 1000000 in
theorem encbit_any (h : IsEnc w p F m out) (hm : m.Rdy) (c : Nat) (hc : c < 256) (x d : Nat) (hx : x < 256) (hd : d ≤ 7) {cb eb : Nat} (h1 : w.cell? ⟨cb, 0, none⟩ = some (.int .u8 (x : Int))) (h2 : w.cell? ⟨eb, 0, none⟩ = some (.pointer (some ⟨p, 0, none⟩))) (hl : out.length ≤ 1099511627776) :
    Calls Try.prog 24 #[.int .i64 c, .int .i64 d, .pointer (some ⟨cb, 0, none⟩), .pointer (some ⟨eb, 0, none⟩)] w fun e w' => e = .returned (.int .i64 ((x / 2 ^ d % 2 : Nat) : Int)) ∧ EncTo w p F (m.step c (x / 2 ^ d % 2 == 1)) (out ++ m.outs c (x / 2 ^ d % 2 == 1)) w' := by
  have hxi : (x : Int) < 256 := by omega
  have hdi : (d : Int) ≤ 7 := by omega
  obtain ⟨y, hy⟩ : ∃ y, y = x / 2 ^ d := ⟨_, rfl⟩
  have hyl : y ≤ 255 := by rw [hy]; exact Nat.le_trans (Nat.div_le_self _ _) (by omega)
  have hyx : (x : Int) / 2 ^ (d : Int).toNat = (y : Int) := by
    rw [Int.toNat_natCast, show ((2 : Int) ^ d) = ((2 ^ d : Nat) : Int) by rw [Int.natCast_pow]; rfl, ← Int.natCast_ediv, hy]
  have hyx2 : (x : Int) / 2 ^ d = (y : Int) := by
    rw [show ((2 : Int) ^ d) = ((2 ^ d : Nat) : Int) by rw [Int.natCast_pow]; rfl, ← Int.natCast_ediv, hy]
  have hya : bits BinOp.and IntKind.i64 (y : Int) 1 = ((y % 2 : Nat) : Int) := and_one y (by omega)
  have HP := Lib.hid (put_any h hm c hc (y % 2 == 1) (x := (y : Int) % 2) (by
    rcases Nat.mod_two_eq_zero_or_one y with e | e <;> simp [e] <;> omega) hl)
  rw [← hy]
  clear h hm hy
  go_enter Try.func24, Try.ntmps24
  go_wp2_with fail
  refine HP.out.mono ?_
  rintro e w1 ⟨rfl, hp⟩
  have H1 := Lib.hid hp
  clear hp
  go_wp2
  go_ret
  exact ⟨ret_int (by omega), H1.out⟩

/-- what is emitted for some bits, and the model behind them -/
def runs : Md → List (Nat × Bool) → List Nat × Md
  | m, [] => ([], m)
  | m, e :: r => (m.outs e.1 e.2 ++ (runs (m.step e.1 e.2) r).1, (runs (m.step e.1 e.2) r).2)
theorem emit_runs : ∀ (r : List (Nat × Bool)) (m : Md), emit m r = (runs m r).1 ++ tail4 (runs m r).2.lo
  | [], _ => rfl
  | e :: r, m => by simp only [emit, runs, emit_runs r, List.append_assoc]
theorem runs_append : ∀ (a b : List (Nat × Bool)) (m : Md), runs m (a ++ b) = ((runs m a).1 ++ (runs (runs m a).2 b).1, (runs (runs m a).2 b).2)
  | [], _, _ => by simp [runs]
  | e :: a, b, m => by simp only [List.cons_append, runs, runs_append a b, List.append_assoc]
theorem runs_len : ∀ (r : List (Nat × Bool)) (m : Md), (runs m r).1.length ≤ 5 * r.length
  | [], _ => by simp [runs]
  | e :: r, m => by
    have := outs_len m e.1 e.2
    have := runs_len r (m.step e.1 e.2)
    simp only [runs, List.length_append, List.length_cons]; omega
theorem runs_rdy : ∀ (r : List (Nat × Bool)) {m : Md}, m.Rdy → (∀ e ∈ r, e.1 < 256) → (runs m r).2.Rdy
  | [], _, h, _ => h
  | e :: r, m, h, hc => runs_rdy r (h.step (hc e (by simp)) e.2) fun x hx => hc x (by simp [hx])

/-- walk over a byte -/
def WalkTo (w : World) (p : Nat) (F : List Nat) (m : Md) (out : List Nat) (e : Ending) (w' : World) : Prop := ∃ v, e = .returned v ∧ EncTo w p F m out w'

theorem two_or (c b : Nat) (hc : c < 512) (hb : b < 2) : bits BinOp.or IntKind.i64 ((c : Int) * 2) (b : Int) = ((2 * c + b : Nat) : Int) := by
  have e1 : (c : Int) * 2 = ((c * 2 ^ 1 : Nat) : Int) := by omega
  rw [e1, bits_or_i64 _ _ (by omega) (by omega), or_low _ _ 1 (by omega)]
  omega

set_option maxHeartbeats 2000000 in
theorem walkenc_any (h : IsEnc w p F m out) (hm : m.Rdy) (x : Nat) (hx : x < 256) {cb eb : Nat} (h1 : w.cell? ⟨cb, 0, none⟩ = some (.int .u8 (x : Int))) (h2 : w.cell? ⟨eb, 0, none⟩ = some (.pointer (some ⟨p, 0, none⟩)))
    (hcb : cb ∉ F) (heb : eb ∉ F) (hl : out.length ≤ 1000000000) :
    Calls Try.prog 23 #[.func (.func 24) #[] #[.pointer (some ⟨cb, 0, none⟩), .pointer (some ⟨eb, 0, none⟩)]] w (WalkTo w p F (runs m (bitsOf x)).2 (out ++ (runs m (bitsOf x)).1)) := by
  have hcl := World.block_lt_of_cell? w _ h1
  have hel := World.block_lt_of_cell? w _ h2
  simp only at hcl hel
  have hOl : (out ++ (runs m (bitsOf x)).1).length ≤ 1000000040 := by
    have := runs_len (bitsOf x) m
    rw [show (bitsOf x).length = 8 from bitsFrom_length x 8 1] at this
    rw [List.length_append]; omega
  obtain ⟨O, hO⟩ : ∃ O, O = out ++ (runs m (bitsOf x)).1 := ⟨_, rfl⟩
  obtain ⟨M, hM⟩ : ∃ M, M = (runs m (bitsOf x)).2 := ⟨_, rfl⟩
  have HS := Lib.hid (⟨8, 1, m, out, by omega, rfl, rfl, by omega, hm, h.to, hO.symm, hM.symm⟩ :
    ∃ (d c : Nat) (mc : Md) (oc : List Nat), d ≤ 8 ∧ Value.int .i64 1 = .int .i64 c ∧ Value.int .i64 7 = .int .i64 ((d : Int) - 1) ∧ (c + 1) * 2 ^ d ≤ 512 ∧ mc.Rdy ∧ EncTo w p F mc oc w ∧ oc ++ (runs mc (bitsFrom x c d)).1 = O ∧ (runs mc (bitsFrom x c d)).2 = M)
  rw [← hO, ← hM]
  rw [← hO] at hOl
  have H1 := Lib.hid h1
  have H2 := Lib.hid h2
  have HCB := Lib.hid hcb
  have HEB := Lib.hid heb
  clear h hm h1 h2 hO hM hcb heb
  go_enter Try.func23, Try.ntmps23
  go_wp2_with fail
  go_loopw [3, 4] (fun cv pv wr => ∃ (d c : Nat) (mc : Md) (oc : List Nat), d ≤ 8 ∧ cv = .int .i64 c ∧ pv = .int .i64 ((d : Int) - 1) ∧ (c + 1) * 2 ^ d ≤ 512 ∧ mc.Rdy ∧ EncTo w p F mc oc wr ∧ oc ++ (runs mc (bitsFrom x c d)).1 = O ∧ (runs mc (bitsFrom x c d)).2 = M) (fun _ pv _ => (intOf pv + 1).toNat)
  case atStart => exact HS.out
  case round =>
    clear HS
    obtain ⟨d, c, mc, oc, hd, rfl, rfl, hcd, hm, ⟨F2, h3, hf2, hx2⟩, hO, hM⟩ := hrel
    have g1 : wr.cell? ⟨cb, 0, none⟩ = some (.int .u8 (x : Int)) := (World.cell?_of_block (a := ⟨cb, 0, none⟩) (hf2.block cb hcl HCB.out)).trans H1.out
    have g2 : wr.cell? ⟨eb, 0, none⟩ = some (.pointer (some ⟨p, 0, none⟩)) := (World.cell?_of_block (a := ⟨eb, 0, none⟩) (hf2.block eb hel HEB.out)).trans H2.out
    have hol : oc.length ≤ 1099511627776 := by
      have := congrArg List.length hO
      rw [List.length_append] at this; omega
    cases d with
    | zero =>
      have hO2 : oc = O := by simpa [bitsFrom, runs] using hO
      have hM2 : mc = M := by simpa [bitsFrom, runs] using hM
      subst hO2; subst hM2
      have HE := Lib.hid (EncTo.trans hf2 hx2 h3.to)
      have hcl2 : c < 512 := by simp at hcd; omega
      clear h3 hf2 hx2 hO hM hcd
      go_wp2_with fail
      go_ret
      exact ⟨_, rfl, HE.out⟩
    | succ d =>
      have hc256 : c < 256 := by
        have hp : 0 < 2 ^ d := Nat.pos_of_ne_zero (by simp)
        rw [Nat.pow_succ] at hcd
        have : (c + 1) * 2 ≤ (c + 1) * (2 ^ d * 2) := Nat.mul_le_mul_left _ (by omega)
        omega
      obtain ⟨b, hb⟩ : ∃ b, b = x / 2 ^ d % 2 := ⟨_, rfl⟩
      have hb2 : b < 2 := by omega
      have hcd2 : (2 * c + b + 1) * 2 ^ d ≤ 512 := by
        rw [Nat.pow_succ] at hcd
        have : (2 * c + b + 1) * 2 ^ d ≤ ((c + 1) * 2) * 2 ^ d := Nat.mul_le_mul_right _ (by omega)
        have e2 : (c + 1) * 2 * 2 ^ d = (c + 1) * (2 ^ d * 2) := by rw [Nat.mul_assoc, Nat.mul_comm 2 (2 ^ d)]
        omega
      have hbits : bitsFrom x c (d + 1) = (c, b == 1) :: bitsFrom x (2 * c + b) d := by rw [bitsFrom, hb]
      rw [hbits] at hO hM
      simp only [runs] at hO hM
      rw [← List.append_assoc] at hO
      have hcall := encbit_any h3 hm c hc256 x d hx (by omega) g1 g2 hol
      rw [← hb] at hcall
      have HCALL := Lib.hid hcall
      have HM := Lib.hid (hm.step hc256 (b == 1))
      have HOO := Lib.hid hO
      have HMM := Lib.hid hM
      have HF2 := Lib.hid hf2
      have HX2 := Lib.hid hx2
      have HCD := Lib.hid hcd2
      have ho := two_or c b (by omega) hb2
      have hdd : ((d + 1 : Nat) : Int) - 1 = (d : Int) := by omega
      have hd0 : (0 : Int) ≤ (d : Int) := by omega
      clear hO hM hbits hb hcall h3 hf2 hx2 hcd hcd2 hm g1 g2 hol
      rw [hdd]
      clear hdd
      go_wp2_with fail
      refine HCALL.out.mono ?_
      rintro e w5 ⟨rfl, hp⟩
      have HP := Lib.hid hp
      clear hp
      go_wp2_with fail
      go_roundw
      case rel => exact ⟨d, 2 * c + b, _, _, by omega, by first | rfl | go_num, by first | rfl | go_num, HCD.out, HM.out, EncTo.trans HF2.out HX2.out HP.out, HOO.out, HMM.out⟩
      case measure => simp [intOf]
end
end Go.Proofs.Ytjehkpfmndfjeaa
