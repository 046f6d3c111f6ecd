/- Plain law for RangecoderRuns: a potential on the width of the range; what n equal bytes come to. -/
import Derived.Test.YtjehkpfmndfjeaaLaw29c
import Derived.Test.YtjehkpfmndfjeaaSize
namespace Go.Proofs.Ytjehkpfmndfjeaa
open Go.RowKit

def wid (m : Md) : Int := (m.hi : Int) - (m.lo : Int) + 1

/-- P is at most the potential of the width W: the least of thirteen lines -/
structure TG (P W : Int) : Prop where
  l0 : P ≤ 276171450036 * W - 276171450036
  l1 : P ≤ 22733859639 * W + 64626585551067
  l2 : P ≤ 7598286257 * W + 95601505978992
  l3 : P ≤ 229872282 * W + 125782529617041
  l4 : P ≤ 159735475 * W + 134975501274924
  l5 : P ≤ 79867737 * W + 155912349419170
  l6 : P ≤ 39933869 * W + 176849197563417
  l7 : P ≤ 9983467 * W + 208254469779786
  l8 : P ≤ 2495867 * W + 239659741996156
  l9 : P ≤ 623967 * W + 271065014212525
  l10 : P ≤ 155992 * W + 302470286428895
  l11 : P ≤ 38998 * W + 333875558645264
  l12 : P ≤ 9749 * W + 365280830861634

theorem TG.em {P W : Int} (h : TG P W) (hW : 1 ≤ W) (hW2 : W ≤ 16777216) : TG (P + 70368744177664) (256 * W) := by
  constructor
  · have := h.l0; omega
  · have := h.l0; omega
  · have := h.l0; omega
  · have := h.l0; have := h.l1; omega
  · have := h.l0; have := h.l1; omega
  · have := h.l1; have := h.l2; omega
  · have := h.l1; have := h.l2; omega
  · have := h.l2; have := h.l3; omega
  · have := h.l2; have := h.l3; omega
  · have := h.l3; have := h.l4; omega
  · have := h.l5; have := h.l6; omega
  · have := h.l6; have := h.l7; omega
  · have := h.l8; omega
theorem TG.low {P W Q : Int} (h : TG P W) (hQ : Q ≤ P) : TG Q W := by
  obtain ⟨a0, a1, a2, a3, a4, a5, a6, a7, a8, a9, a10, a11, a12⟩ := h
  constructor <;> omega

def cost (u : Nat) : Nat := max (7598286257 * u + 941556863521) (max (229872282 * (u * 131073 + 16773120) / (4096 - u)) (max (159735475 * (u * 262144 + 16773120) / (4096 - u)) (max (79867737 * (u * 524289 + 16773120) / (4096 - u)) (max (39933869 * (u * 1048576 + 16773120) / (4096 - u)) (max (9983467 * (u * 4194305 + 16773120) / (4096 - u)) (max (2495867 * (u * 16777217 + 16773120) / (4096 - u)) (max (623967 * (u * 67108868 + 16773120) / (4096 - u)) (max (155992 * (u * 268434896 + 16773120) / (4096 - u)) (max (38998 * (u * 1073721229 + 16773120) / (4096 - u)) (9749 * (u * 4294967296 + 16773120) / (4096 - u)))))))))))
def dcost (u : Nat) : Nat := max (cost u) 1099511627776
theorem dcost_ge (u : Nat) : 1099511627776 ≤ dcost u := Nat.le_max_right _ _
theorem cost_le (u : Nat) : cost u ≤ dcost u := Nat.le_max_left _ _
theorem cost_2 (u : Nat) : 7598286257 * u + 941556863521 ≤ cost u := by unfold cost; exact Nat.le_max_left _ _
theorem cost_3 (u : Nat) : 229872282 * (u * 131073 + 16773120) / (4096 - u) ≤ cost u := by unfold cost; exact Nat.le_trans (Nat.le_max_left _ _) (Nat.le_max_right _ _)
theorem cost_4 (u : Nat) : 159735475 * (u * 262144 + 16773120) / (4096 - u) ≤ cost u := by unfold cost; exact Nat.le_trans (Nat.le_trans (Nat.le_max_left _ _) (Nat.le_max_right _ _)) (Nat.le_max_right _ _)
theorem cost_5 (u : Nat) : 79867737 * (u * 524289 + 16773120) / (4096 - u) ≤ cost u := by unfold cost; exact Nat.le_trans (Nat.le_trans (Nat.le_trans (Nat.le_max_left _ _) (Nat.le_max_right _ _)) (Nat.le_max_right _ _)) (Nat.le_max_right _ _)
theorem cost_6 (u : Nat) : 39933869 * (u * 1048576 + 16773120) / (4096 - u) ≤ cost u := by unfold cost; exact Nat.le_trans (Nat.le_trans (Nat.le_trans (Nat.le_trans (Nat.le_max_left _ _) (Nat.le_max_right _ _)) (Nat.le_max_right _ _)) (Nat.le_max_right _ _)) (Nat.le_max_right _ _)
theorem cost_7 (u : Nat) : 9983467 * (u * 4194305 + 16773120) / (4096 - u) ≤ cost u := by unfold cost; exact Nat.le_trans (Nat.le_trans (Nat.le_trans (Nat.le_trans (Nat.le_trans (Nat.le_max_left _ _) (Nat.le_max_right _ _)) (Nat.le_max_right _ _)) (Nat.le_max_right _ _)) (Nat.le_max_right _ _)) (Nat.le_max_right _ _)
theorem cost_8 (u : Nat) : 2495867 * (u * 16777217 + 16773120) / (4096 - u) ≤ cost u := by unfold cost; exact Nat.le_trans (Nat.le_trans (Nat.le_trans (Nat.le_trans (Nat.le_trans (Nat.le_trans (Nat.le_max_left _ _) (Nat.le_max_right _ _)) (Nat.le_max_right _ _)) (Nat.le_max_right _ _)) (Nat.le_max_right _ _)) (Nat.le_max_right _ _)) (Nat.le_max_right _ _)
theorem cost_9 (u : Nat) : 623967 * (u * 67108868 + 16773120) / (4096 - u) ≤ cost u := by unfold cost; exact Nat.le_trans (Nat.le_trans (Nat.le_trans (Nat.le_trans (Nat.le_trans (Nat.le_trans (Nat.le_trans (Nat.le_max_left _ _) (Nat.le_max_right _ _)) (Nat.le_max_right _ _)) (Nat.le_max_right _ _)) (Nat.le_max_right _ _)) (Nat.le_max_right _ _)) (Nat.le_max_right _ _)) (Nat.le_max_right _ _)
theorem cost_10 (u : Nat) : 155992 * (u * 268434896 + 16773120) / (4096 - u) ≤ cost u := by unfold cost; exact Nat.le_trans (Nat.le_trans (Nat.le_trans (Nat.le_trans (Nat.le_trans (Nat.le_trans (Nat.le_trans (Nat.le_trans (Nat.le_max_left _ _) (Nat.le_max_right _ _)) (Nat.le_max_right _ _)) (Nat.le_max_right _ _)) (Nat.le_max_right _ _)) (Nat.le_max_right _ _)) (Nat.le_max_right _ _)) (Nat.le_max_right _ _)) (Nat.le_max_right _ _)
theorem cost_11 (u : Nat) : 38998 * (u * 1073721229 + 16773120) / (4096 - u) ≤ cost u := by unfold cost; exact Nat.le_trans (Nat.le_trans (Nat.le_trans (Nat.le_trans (Nat.le_trans (Nat.le_trans (Nat.le_trans (Nat.le_trans (Nat.le_trans (Nat.le_max_left _ _) (Nat.le_max_right _ _)) (Nat.le_max_right _ _)) (Nat.le_max_right _ _)) (Nat.le_max_right _ _)) (Nat.le_max_right _ _)) (Nat.le_max_right _ _)) (Nat.le_max_right _ _)) (Nat.le_max_right _ _)) (Nat.le_max_right _ _)
theorem cost_12 (u : Nat) : 9749 * (u * 4294967296 + 16773120) / (4096 - u) ≤ cost u := by unfold cost; exact Nat.le_trans (Nat.le_trans (Nat.le_trans (Nat.le_trans (Nat.le_trans (Nat.le_trans (Nat.le_trans (Nat.le_trans (Nat.le_trans (Nat.le_trans (Nat.le_refl _) (Nat.le_max_right _ _)) (Nat.le_max_right _ _)) (Nat.le_max_right _ _)) (Nat.le_max_right _ _)) (Nat.le_max_right _ _)) (Nat.le_max_right _ _)) (Nat.le_max_right _ _)) (Nat.le_max_right _ _)) (Nat.le_max_right _ _)) (Nat.le_max_right _ _)

theorem line_step {s a B W W' P c : Int} {u : Int} (h : P ≤ s * W + a) (hd : (W - W') * (4096 - u) ≤ u * W' + 16773120) (hB : W' ≤ B) (hs : 0 ≤ s) (hu : 0 ≤ u) (hv : u < 4096) (hc : s * (u * B + 16773120) / (4096 - u) ≤ c) : P - c ≤ s * W' + a := by
  have h1 : s * (W - W') * (4096 - u) ≤ s * (u * B + 16773120) := by
    rw [Int.mul_assoc]
    refine Int.mul_le_mul_of_nonneg_left (Int.le_trans hd ?_) hs
    have := Int.mul_le_mul_of_nonneg_left hB hu
    omega
  have h2 : s * (W - W') ≤ s * (u * B + 16773120) / (4096 - u) := Int.le_ediv_of_mul_le (by omega) h1
  have h3 : s * (W - W') = s * W - s * W' := Int.mul_sub _ _ _
  omega

/-- a narrowing of a wide range -/
theorem TG.wide {P W W' : Int} (h : TG P W) (u : Nat) (hu2 : u ≤ 2048) (hd : (W - W') * (4096 - (u : Int)) ≤ (u : Int) * W' + 16773120) (hlow : 4096 - (u : Int) ≤ W') (h8 : W' < 4096 → W ≤ 8192) (hmax : W' ≤ 4294967296) : TG (P - (dcost u : Nat)) W' := by
  have hc := cost_le u
  have cst : ∀ (s B : Nat), s * (u * B + 16773120) / (4096 - u) ≤ cost u → (s : Int) * ((u : Int) * (B : Int) + 16773120) / (4096 - (u : Int)) ≤ (cost u : Int) := by
    intro s B hx
    have e1 : (4096 : Int) - (u : Int) = ((4096 - u : Nat) : Int) := by omega
    rw [e1]
    have h2 : ((s * (u * B + 16773120) / (4096 - u) : Nat) : Int) ≤ (cost u : Int) := Int.ofNat_le.2 hx
    rw [Int.natCast_ediv, Int.natCast_mul, Int.natCast_add, Int.natCast_mul] at h2
    exact h2
  have g12 : P - (cost u : Int) ≤ 9749 * W' + 365280830861634 := line_step (B := 4294967296) h.l12 hd (by omega) (by omega) (by omega) (by omega) (cst 9749 4294967296 (cost_12 u))
  have g11 : P - (cost u : Int) ≤ 38998 * W' + 333875558645264 := by
    by_cases hb : W' ≤ 1073721229
    · exact line_step (B := 1073721229) h.l11 hd hb (by omega) (by omega) (by omega) (cst 38998 1073721229 (cost_11 u))
    · omega
  have g10 : P - (cost u : Int) ≤ 155992 * W' + 302470286428895 := by
    by_cases hb : W' ≤ 268434896
    · exact line_step (B := 268434896) h.l10 hd hb (by omega) (by omega) (by omega) (cst 155992 268434896 (cost_10 u))
    · omega
  have g9 : P - (cost u : Int) ≤ 623967 * W' + 271065014212525 := by
    by_cases hb : W' ≤ 67108868
    · exact line_step (B := 67108868) h.l9 hd hb (by omega) (by omega) (by omega) (cst 623967 67108868 (cost_9 u))
    · omega
  have g8 : P - (cost u : Int) ≤ 2495867 * W' + 239659741996156 := by
    by_cases hb : W' ≤ 16777217
    · exact line_step (B := 16777217) h.l8 hd hb (by omega) (by omega) (by omega) (cst 2495867 16777217 (cost_8 u))
    · omega
  have g7 : P - (cost u : Int) ≤ 9983467 * W' + 208254469779786 := by
    by_cases hb : W' ≤ 4194305
    · exact line_step (B := 4194305) h.l7 hd hb (by omega) (by omega) (by omega) (cst 9983467 4194305 (cost_7 u))
    · omega
  have g6 : P - (cost u : Int) ≤ 39933869 * W' + 176849197563417 := by
    by_cases hb : W' ≤ 1048576
    · exact line_step (B := 1048576) h.l6 hd hb (by omega) (by omega) (by omega) (cst 39933869 1048576 (cost_6 u))
    · omega
  have g5 : P - (cost u : Int) ≤ 79867737 * W' + 155912349419170 := by
    by_cases hb : W' ≤ 524289
    · exact line_step (B := 524289) h.l5 hd hb (by omega) (by omega) (by omega) (cst 79867737 524289 (cost_5 u))
    · omega
  have g4 : P - (cost u : Int) ≤ 159735475 * W' + 134975501274924 := by
    by_cases hb : W' ≤ 262144
    · exact line_step (B := 262144) h.l4 hd hb (by omega) (by omega) (by omega) (cst 159735475 262144 (cost_4 u))
    · omega
  have g3 : P - (cost u : Int) ≤ 229872282 * W' + 125782529617041 := by
    by_cases hb : W' ≤ 131073
    · exact line_step (B := 131073) h.l3 hd hb (by omega) (by omega) (by omega) (cst 229872282 131073 (cost_3 u))
    · omega
  have g2 : P - (cost u : Int) ≤ 7598286257 * W' + 95601505978992 := by
    by_cases hb : W' < 4096
    · have h1 := h8 hb
      have h2 := h.l3
      have h3 : ((7598286257 * u + 941556863521 : Nat) : Int) ≤ (cost u : Int) := Int.ofNat_le.2 (cost_2 u)
      rw [Int.natCast_add, Int.natCast_mul] at h3
      omega
    · omega
  have g1 : P - (cost u : Int) ≤ 22733859639 * W' + 64626585551067 := by omega
  have g0 : P - (cost u : Int) ≤ 276171450036 * W' - 276171450036 := by omega
  constructor <;> omega

theorem TG.one {P W : Int} (h : TG P W) : TG (P - 1099511627776) (W - 1) := by
  obtain ⟨a0, a1, a2, a3, a4, a5, a6, a7, a8, a9, a10, a11, a12⟩ := h
  constructor <;> omega
theorem TG.full {P W : Int} (h : TG P W) (hW : W ≤ 4096) : TG (P - 1099511627776 + 4 * 70368744177664) 4294967296 := by
  have := h.l3
  constructor <;> omega
theorem TG.start : TG 407152467030338 4294967296 := by constructor <;> omega
theorem TG.top {P W : Int} (h : TG P W) (hW : W ≤ 4294967296) : P ≤ 407152467030338 := by
  have := h.l12
  omega

def gcost : Nat → Nat → Nat
  | 0, _ => 0
  | n + 1, u => 8 * dcost u + gcost n (u - u / 16)
def ru : Nat → Nat → Nat
  | 0, u => u
  | n + 1, u => ru n (u - u / 16)
theorem gcost_add : ∀ (a b u : Nat), gcost (a + b) u = gcost a u + gcost b (ru a u)
  | 0, b, u => by simp [gcost, ru]
  | a + 1, b, u => by rw [show a + 1 + b = (a + b) + 1 by omega, gcost, gcost_add a b, gcost, ru]; omega
theorem gcost_ge : ∀ (n u : Nat), 8 * 1099511627776 * n ≤ gcost n u
  | 0, _ => by simp
  | n + 1, u => by have h1 := gcost_ge n (u - u / 16); have h2 := dcost_ge u; rw [gcost]; omega
theorem dcost_15 : dcost 15 = 1099511627776 := by kernel_rfl
theorem gcost_15 : ∀ n : Nat, gcost n 15 = 8 * 1099511627776 * n
  | 0 => rfl
  | n + 1 => by rw [gcost, show 15 - 15 / 16 = 15 from rfl, gcost_15 n, dcost_15]; omega
theorem gcost_120 : Nat.ble (gcost 120 2048) (8 * 1099511627776 * 120 + 57 * (64 * 1099511627776)) = true := by kernel_rfl
theorem ru_120 : ru 120 2048 = 15 := by kernel_rfl
theorem gcost_all (n : Nat) : gcost n 2048 ≤ 8 * 1099511627776 * n + 57 * (64 * 1099511627776) := by
  have h := Nat.le_of_ble_eq_true gcost_120
  rcases Nat.le_total n 120 with hn | hn
  · have h1 := gcost_add n (120 - n) 2048
    rw [show n + (120 - n) = 120 by omega] at h1
    have h2 := gcost_ge (120 - n) (ru n 2048)
    omega
  · have h1 := gcost_add 120 (n - 120) 2048
    rw [show 120 + (n - 120) = n by omega, ru_120, gcost_15] at h1
    omega

/-! ### the model -/
theorem wid_shf {m : Md} (h : m.Ok) (hs : m.same) : wid m.shf = 256 * wid m ∧ 1 ≤ wid m ∧ wid m ≤ 16777216 := by
  obtain ⟨a, b, c, d⟩ := Md.shf_eq h hs
  have hl := h.le
  unfold wid
  rw [a, b]
  omega

theorem norm_TG : ∀ (k : Nat) {m : Md} {P : Int}, m.Ok → TG P (wid m) → TG (P + 70368744177664 * ((norm k m).1.length : Int)) (wid (norm k m).2)
  | 0, m, P, _, h => by simpa [Proofs.Ytjehkpfmndfjeaa.norm] using h
  | k + 1, m, P, hok, h => by
    unfold Proofs.Ytjehkpfmndfjeaa.norm
    by_cases hs : m.same
    · rw [if_pos hs]
      obtain ⟨e, h1, h2⟩ := wid_shf hok hs
      have hh := norm_TG k (hok.shf hs) (P := P + 70368744177664) (by rw [e]; exact h.em h1 h2)
      have e2 : P + 70368744177664 + 70368744177664 * ((norm k m.shf).1.length : Int) = P + 70368744177664 * ((m.lo / 16777216 :: (norm k m.shf).1).length : Int) := by
        rw [List.length_cons]; push_cast; omega
      rw [← e2]
      exact hh
    · rw [if_neg hs]
      simpa using h

theorem norm_ch : ∀ (k : Nat) (m : Md), (norm k m).2.ch = m.ch
  | 0, _ => rfl
  | k + 1, m => by
    unfold Proofs.Ytjehkpfmndfjeaa.norm
    split
    · rw [norm_ch k]; rfl
    · rfl

theorem norm_full {m : Md} (h : m.Ok) (he : m.lo = m.hi) : (norm 5 m).1.length = 4 ∧ wid (norm 5 m).2 = 4294967296 := by
  have hb := h.hi
  obtain ⟨x, hx⟩ : ∃ x, x = m.lo := ⟨_, rfl⟩
  have l0 : m.lo = x := hx.symm
  have h0 : m.hi = x := by omega
  have s0 : m.same := by unfold Md.same; rw [l0, h0]
  have l1 : m.shf.lo = x * 256 % 4294967296 := by simp only [Md.shf, l0]
  have h1 : m.shf.hi = (x * 256 + 255) % 4294967296 := by simp only [Md.shf, h0]
  obtain ⟨y, hy⟩ : ∃ y, y = x % 16777216 := ⟨_, rfl⟩
  have l1' : m.shf.lo = y * 256 := by omega
  have h1' : m.shf.hi = y * 256 + 255 := by omega
  have s1 : m.shf.same := by unfold Md.same; rw [l1', h1']; omega
  have l2 : m.shf.shf.lo = y * 256 * 256 % 4294967296 := by simp only [Md.shf] at l1' ⊢; rw [l1']
  have h2 : m.shf.shf.hi = ((y * 256 + 255) * 256 + 255) % 4294967296 := by simp only [Md.shf] at h1' ⊢; rw [h1']
  obtain ⟨z, hz⟩ : ∃ z, z = y % 65536 := ⟨_, rfl⟩
  have l2' : m.shf.shf.lo = z * 65536 := by omega
  have h2' : m.shf.shf.hi = z * 65536 + 65535 := by omega
  have s2 : m.shf.shf.same := by unfold Md.same; rw [l2', h2']; omega
  have l3 : m.shf.shf.shf.lo = z * 65536 * 256 % 4294967296 := by simp only [Md.shf] at l2' ⊢; rw [l2']
  have h3 : m.shf.shf.shf.hi = ((z * 65536 + 65535) * 256 + 255) % 4294967296 := by simp only [Md.shf] at h2' ⊢; rw [h2']
  obtain ⟨t, ht⟩ : ∃ t, t = z % 256 := ⟨_, rfl⟩
  have l3' : m.shf.shf.shf.lo = t * 16777216 := by omega
  have h3' : m.shf.shf.shf.hi = t * 16777216 + 16777215 := by omega
  have s3 : m.shf.shf.shf.same := by unfold Md.same; rw [l3', h3']; omega
  have l4 : m.shf.shf.shf.shf.lo = t * 16777216 * 256 % 4294967296 := by simp only [Md.shf] at l3' ⊢; rw [l3']
  have h4 : m.shf.shf.shf.shf.hi = ((t * 16777216 + 16777215) * 256 + 255) % 4294967296 := by simp only [Md.shf] at h3' ⊢; rw [h3']
  have l4' : m.shf.shf.shf.shf.lo = 0 := by omega
  have h4' : m.shf.shf.shf.shf.hi = 4294967295 := by omega
  have s4 : ¬ m.shf.shf.shf.shf.same := by unfold Md.same; rw [l4', h4']; omega
  constructor
  · simp only [Proofs.Ytjehkpfmndfjeaa.norm, if_pos s0, if_pos s1, if_pos s2, if_pos s3, if_neg s4, List.length_cons, List.length_nil]
  · simp only [Proofs.Ytjehkpfmndfjeaa.norm, if_pos s0, if_pos s1, if_pos s2, if_pos s3, if_neg s4]
    unfold wid
    rw [l4', h4']
    rfl

/-- the value of a context whose every bit was b -/
def pv (b : Bool) (u : Nat) : Nat := if b then 4096 - u else u

theorem TG.step {m : Md} (hm : m.Rdy) {c : Nat} (hc : c < 256) (b : Bool) {u : Nat} (hu : 15 ≤ u) (hu2 : u ≤ 2048) (hp : m.p c = pv b u) {P : Int} (h : TG P (wid m)) :
    TG (P - (dcost u : Nat) + 70368744177664 * ((m.outs c b).length : Int)) (wid (m.step c b)) := by
  have hlt := hm.lt
  have hhi := hm.ok.hi
  have hok := hm.ok.nar hm.lt hc b
  obtain ⟨R, hR⟩ : ∃ R, R = m.hi - m.lo := ⟨_, rfl⟩
  have hw : wid m = (R : Int) + 1 := by unfold wid; omega
  obtain ⟨q, hq⟩ : ∃ q, q = R / 4096 := ⟨_, rfl⟩
  have hd := dcost_ge u
  rw [hw] at h
  have hnw : wid (m.nar c b) = if b then ((q * (4096 - u) : Nat) : Int) + 1 else (R : Int) - ((q * u : Nat) : Int) := by
    have hmid := hm.ok.mid_bd hm.lt hc
    cases b
    · have e : m.mid c = m.lo + q * u := by rw [Md.mid, ← hR, ← hq, hp]; rfl
      simp only [Md.nar, wid, Bool.false_eq_true, if_false]
      rw [e] at hmid ⊢
      omega
    · have e : m.mid c = m.lo + q * (4096 - u) := by rw [Md.mid, ← hR, ← hq, hp]; rfl
      simp only [Md.nar, wid, if_true]
      rw [e] at hmid ⊢
      omega
  by_cases hq0 : q = 0
  · have hR4 : R ≤ 4095 := by omega
    cases b
    · have hn : TG (P - (dcost u : Nat)) (wid (m.nar c false)) := by
        rw [hnw, hq0]
        have h1 := h.one
        have e : (R : Int) + 1 - 1 = (if false = true then ((0 * (4096 - u) : Nat) : Int) + 1 else (R : Int) - ((0 * u : Nat) : Int)) := by simp
        rw [← e]
        exact h1.low (by omega)
      exact norm_TG 5 hok hn
    · have hlh : (m.nar c true).lo = (m.nar c true).hi := by
        rw [hq0] at hnw
        have h1 := hok.le
        simp only [wid, if_true, Nat.zero_mul] at hnw
        omega
      obtain ⟨f1, f2⟩ := norm_full hok hlh
      show TG (P - (dcost u : Nat) + 70368744177664 * ((norm 5 (m.nar c true)).1.length : Int)) (wid (norm 5 (m.nar c true)).2)
      rw [f1, f2]
      exact (h.full (by omega)).low (by omega)
  · have hn : TG (P - (dcost u : Nat)) (wid (m.nar c b)) := by
      have hR1 : q * 4096 ≤ R ∧ R < q * 4096 + 4096 := by omega
      have hqu : q * (4096 - u) + q * u = q * 4096 := by rw [← Nat.mul_add]; congr 1; omega
      have hql : 4096 - u ≤ q * (4096 - u) := Nat.le_mul_of_pos_left _ (by omega)
      obtain ⟨A, hA⟩ : ∃ A, A = q * (4096 - u) := ⟨_, rfl⟩
      obtain ⟨B, hB⟩ : ∃ B, B = q * u := ⟨_, rfl⟩
      have hAu : A * 4096 = q * 4096 * (4096 - u) := by rw [hA, Nat.mul_right_comm]
      have hBu : B * 4096 = q * 4096 * u := by rw [hB, Nat.mul_right_comm]
      have hRu : q * 4096 * u ≤ R * u := Nat.mul_le_mul_right _ hR1.1
      have hRv : R * (4096 - u) ≤ (q * 4096 + 4095) * (4096 - u) := Nat.mul_le_mul_right _ (by omega)
      have hRs : R * (4096 - u) + R * u = R * 4096 := by rw [← Nat.mul_add]; congr 1; omega
      have hv2 : (q * 4096 + 4095) * (4096 - u) = q * 4096 * (4096 - u) + 4095 * (4096 - u) := Nat.add_mul _ _ _
      rw [hnw]
      rw [← hA] at hqu hql ⊢
      rw [← hB] at hqu ⊢
      refine h.wide u hu2 ?_ ?_ ?_ ?_
      · have key : ∀ (D W' : Int), D = (R : Int) + 1 - W' → D * 4096 ≤ (u : Int) * (R : Int) + (u : Int) + 16773120 → ((R : Int) + 1 - W') * (4096 - (u : Int)) ≤ (u : Int) * W' + 16773120 := by
          intro D W' hD hx
          have e1 : ((R : Int) + 1 - W') * (4096 - (u : Int)) = D * 4096 - (u : Int) * ((R : Int) + 1 - W') := by rw [← hD, Int.mul_sub, Int.mul_comm D (u : Int)]
          have e2 : (u : Int) * ((R : Int) + 1 - W') = (u : Int) * (R : Int) + (u : Int) - (u : Int) * W' := by rw [Int.mul_sub, Int.mul_add, Int.mul_one]
          omega
        refine key _ _ rfl ?_
        have z1 : ((R * u : Nat) : Int) = (u : Int) * (R : Int) := by push_cast; rw [Int.mul_comm]
        rw [← z1]
        cases b
        · simp only [Bool.false_eq_true, if_false]; omega
        · simp only [if_true]; omega
      · cases b
        · simp only [Bool.false_eq_true, if_false]; omega
        · simp only [if_true]; omega
      · intro hx
        have hq1 : q ≤ 1 := by
          cases b
          · simp only [Bool.false_eq_true, if_false] at hx
            rcases Nat.lt_or_ge q 2 with h2 | h2
            · omega
            · have : 2 * (4096 - u) ≤ q * (4096 - u) := Nat.mul_le_mul_right _ h2
              omega
          · simp only [if_true] at hx
            rcases Nat.lt_or_ge q 2 with h2 | h2
            · omega
            · have : 2 * (4096 - u) ≤ q * (4096 - u) := Nat.mul_le_mul_right _ h2
              omega
        omega
      · cases b
        · simp only [Bool.false_eq_true, if_false]; omega
        · simp only [if_true]; omega
    exact norm_TG 5 hok hn

theorem step_p {m : Md} (hm : m.Rdy) {c : Nat} (hc : c < 256) (b : Bool) (k : Nat) : (m.step c b).p k = if k = c then (if b then m.p c + (4096 - m.p c) / 16 else m.p c - m.p c / 16) else m.p k := by
  have hl := hm.ok.len
  unfold Md.step Md.p
  rw [norm_ch]
  have e : (m.nar c b).ch = m.ch.set c (if b then m.p c + (4096 - m.p c) / 16 else m.p c - m.p c / 16) := by cases b <;> rfl
  rw [e]
  simp only [List.getD_eq_getElem?_getD, List.getElem?_set]
  by_cases h : c = k
  · subst h; simp [hl, hc, Md.p]
  · rw [if_neg h, if_neg (fun e => h e.symm)]

theorem pv_next (b : Bool) {u : Nat} (hu2 : u ≤ 2048) : (if b then pv b u + (4096 - pv b u) / 16 else pv b u - pv b u / 16) = pv b (u - u / 16) := by
  cases b
  · simp [pv]
  · simp only [pv, if_true]; omega

theorem bitsFrom_ge (x : Nat) : ∀ (d c : Nat), 1 ≤ c → ∀ e ∈ bitsFrom x c d, c ≤ e.1
  | 0, _, _, e, he => by simp [bitsFrom] at he
  | d + 1, c, h, e, he => by
    simp only [bitsFrom, List.mem_cons] at he
    rcases he with rfl | he
    · exact Nat.le_refl _
    · have := bitsFrom_ge x d (2 * c + x / 2 ^ d % 2) (by omega) e he
      omega

theorem TG.byteFrom (x : Nat) {u : Nat} (hu : 15 ≤ u) (hu2 : u ≤ 2048) : ∀ (d c : Nat) {m : Md} {P : Int}, 1 ≤ c → (c + 1) * 2 ^ d ≤ 512 → m.Rdy → (∀ e ∈ bitsFrom x c d, m.p e.1 = pv e.2 u) → TG P (wid m) →
    TG (P - (d : Int) * (dcost u : Nat) + 70368744177664 * ((runs m (bitsFrom x c d)).1.length : Int)) (wid (runs m (bitsFrom x c d)).2) ∧ (∀ e ∈ bitsFrom x c d, (runs m (bitsFrom x c d)).2.p e.1 = pv e.2 (u - u / 16)) ∧ (∀ k, k < c → (runs m (bitsFrom x c d)).2.p k = m.p k)
  | 0, c, m, P, _, _, _, _, h => ⟨by simpa [bitsFrom, runs] using h, by simp [bitsFrom], by simp [bitsFrom, runs]⟩
  | d + 1, c, m, P, h1, hcd, hm, hp, h => by
    have hctx := bitsFrom_ctx x (d + 1) c hcd
    simp only [bitsFrom] at hp hctx ⊢
    have hc256 : c < 256 := hctx (c, x / 2 ^ d % 2 == 1) (by simp)
    obtain ⟨b, hb⟩ : ∃ b, b = x / 2 ^ d % 2 := ⟨_, rfl⟩
    rw [← hb] at hp hctx ⊢
    have hb2 : b < 2 := by omega
    have hcd2 : (2 * c + b + 1) * 2 ^ d ≤ 512 := by
      rw [Nat.pow_succ] at hcd
      have : (2 * c + b + 1) * 2 ^ d ≤ ((c + 1) * 2) * 2 ^ d := Nat.mul_le_mul_right _ (by omega)
      have e2 : (c + 1) * 2 * 2 ^ d = (c + 1) * (2 ^ d * 2) := by rw [Nat.mul_assoc, Nat.mul_comm 2 (2 ^ d)]
      omega
    have hpc := hp (c, b == 1) (by simp)
    simp only at hpc
    have hs := TG.step hm hc256 (b == 1) hu hu2 hpc h
    have hge := bitsFrom_ge x d (2 * c + b) (by omega)
    obtain ⟨i1, i2, i3⟩ := TG.byteFrom x hu hu2 d (2 * c + b) (by omega) hcd2 (hm.step hc256 (b == 1)) (fun e he => by
      rw [step_p hm hc256, if_neg (by have := hge e he; omega)]
      exact hp e (by simp [he])) hs
    simp only [runs]
    refine ⟨?_, ?_, ?_⟩
    · rw [List.length_append]
      have e : P - ((d + 1 : Nat) : Int) * ((dcost u : Nat) : Int) + 70368744177664 * (((m.outs c (b == 1)).length + (runs (m.step c (b == 1)) (bitsFrom x (2 * c + b) d)).1.length : Nat) : Int) = P - ((dcost u : Nat) : Int) + 70368744177664 * ((m.outs c (b == 1)).length : Int) - (d : Int) * ((dcost u : Nat) : Int) + 70368744177664 * ((runs (m.step c (b == 1)) (bitsFrom x (2 * c + b) d)).1.length : Int) := by
        push_cast
        rw [Int.add_mul, Int.mul_add]
        omega
      rw [e]
      exact i1
    · intro e he
      simp only [List.mem_cons] at he
      rcases he with rfl | he
      · rw [i3 c (by omega), step_p hm hc256, if_pos rfl, hpc]
        exact pv_next (b == 1) hu2
      · exact i2 e he
    · intro k hk
      rw [i3 k (by omega), step_p hm hc256, if_neg (by omega)]

theorem TG.bytes (x : Nat) : ∀ (n : Nat) {u : Nat} {m : Md} {P : Int}, 15 ≤ u → u ≤ 2048 → m.Rdy → (∀ e ∈ bitsOf x, m.p e.1 = pv e.2 u) → TG P (wid m) →
    TG (P - (gcost n u : Nat) + 70368744177664 * ((runs m ((List.replicate n x).flatMap bitsOf)).1.length : Int)) (wid (runs m ((List.replicate n x).flatMap bitsOf)).2)
  | 0, u, m, P, _, _, _, _, h => by simpa [runs, gcost] using h
  | n + 1, u, m, P, hu, hu2, hm, hp, h => by
    obtain ⟨i1, i2, -⟩ := TG.byteFrom x hu hu2 8 1 (by omega) (by omega) hm hp h
    have hrd := runs_rdy (bitsOf x) hm (bitsOf_ctx x)
    have ih := TG.bytes x n (u := u - u / 16) (by omega) (by omega) hrd i2 i1
    rw [List.replicate_succ, List.flatMap_cons, runs_append]
    simp only [List.length_append]
    have e : P - ((gcost (n + 1) u : Nat) : Int) + 70368744177664 * (((runs m (bitsOf x)).1.length + (runs (runs m (bitsOf x)).2 ((List.replicate n x).flatMap bitsOf)).1.length : Nat) : Int) =
        P - ((8 : Nat) : Int) * ((dcost u : Nat) : Int) + 70368744177664 * ((runs m (bitsFrom x 1 8)).1.length : Int) - ((gcost n (u - u / 16) : Nat) : Int) + 70368744177664 * ((runs (runs m (bitsOf x)).2 ((List.replicate n x).flatMap bitsOf)).1.length : Int) := by
      rw [gcost]
      push_cast
      rw [Int.mul_add]
      show _ = P - 8 * ((dcost u : Nat) : Int) + 70368744177664 * ((runs m (bitsOf x)).1.length : Int) - _ + _
      omega
    rw [e]
    exact ih

theorem md0_p (k : Nat) (hk : k < 256) : md0.p k = 2048 := by
  unfold Md.p md0
  simp only [List.getD_eq_getElem?_getD, List.getElem?_replicate, if_pos hk, Option.getD_some]

theorem runs_short (x n : Nat) : (runs md0 ((List.replicate n x).flatMap bitsOf)).1.length ≤ 57 + n / 8 := by
  have h0 : TG 407152467030338 (wid md0) := by
    have : wid md0 = 4294967296 := rfl
    rw [this]; exact TG.start
  have h := TG.bytes x n (u := 2048) (by omega) (by omega) md0_rdy (fun e he => by
    rw [md0_p e.1 (bitsOf_ctx x e he)]
    cases e.2 <;> rfl) h0
  have hr := runs_rdy ((List.replicate n x).flatMap bitsOf) md0_rdy (flat_ctx _)
  have hhi := hr.ok.hi
  have ht := h.top (by unfold wid; omega)
  have hg := gcost_all n
  omega

theorem enc_runs (x n : Nat) (hn : n ≤ 1000) : (enc (List.replicate n x)).length ≤ 64 + n / 8 := by
  have h1 := runs_short x n
  have h2 := digits_len n 1 (by omega)
  unfold enc
  by_cases h0 : List.replicate n x = []
  · rw [if_pos h0]
    simp only [List.append_nil, List.length_replicate]
    omega
  · rw [if_neg h0, emit_runs]
    simp only [List.length_append, List.length_replicate, tail4, List.length_cons, List.length_nil]
    omega
end Go.Proofs.Ytjehkpfmndfjeaa
