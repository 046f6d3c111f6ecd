/- InitialL, PosP, Bts, VarP, App28, SnapP (merged by merge.py). -/
import Derived.Test.YtcgndeggemceaaaZ286
import Derived.Test.YtcgndeggemceaaaZ285
import Derived.Test.YtcgndeggemceaaaZ284
import Derived.Test.YtcgndeggemceaaaZ281
import Derived.Test.YtcgndeggemceaaaZ283
import Derived.IntWalk
import Derived.Lib.Zigzag
import Derived.Laws.BitsAllLaws
/- What Motion reads from the initial cells. -/
namespace Go.Proofs.Ytcgndeggemceaaa
open Go.RowKit

theorem rows_get (l : List Bd) (i j : Nat) (hi : i < l.length) (hj : j < 8) : (l.flatMap bodyRow)[8 * i + j]? = (bodyRow l[i])[j]? := by
  induction l generalizing i with
  | nil => simp at hi
  | cons d l ih =>
    rw [List.flatMap_cons]
    cases i with
    | zero => rw [List.getElem?_append_left (by simp [bodyRow]; omega)]; simp
    | succ i =>
      rw [List.getElem?_append_right (by simp [bodyRow]; omega), show 8 * (i + 1) + j - (bodyRow d).length = 8 * i + j by simp [bodyRow]; omega]
      have h := ih i (by simpa using hi)
      simpa using h

theorem initL_get (pl : Nat) (bodies : List Bd) (i j : Nat) (hi : i < bodies.length) (hj : j < 8) : (initL pl bodies)[48 + 4 * pl + 8 * i + j]? = (bodyRow bodies[i])[j]? := by
  unfold initL initK
  rw [List.take_length, Nat.sub_self, Nat.mul_zero, List.replicate_zero, List.append_nil, List.getElem?_append_right (by simp; omega), List.length_replicate, show 48 + 4 * pl + 8 * i + j - (48 + 4 * pl) = 8 * i + j by omega]
  exact rows_get bodies i j hi hj

theorem initL_len (pl : Nat) (bodies : List Bd) : (initL pl bodies).length = 48 + 4 * pl + 8 * bodies.length := initK_len pl bodies _ (Nat.le_refl _)

/-- the motion of a body, read from the initial cells, is the setup's -/
theorem mot_init (s : St) (pl : Nat) (hpl : s.players = (pl : Int)) (bodies : List Bd) (hnb : s.nb = bodies.length) (i : Nat) (hi : i < bodies.length) : motOf s bodies (initL pl bodies) (i : Int) = (bodies[i]).motion := by
  have hin : motIn s (initL pl bodies) (i : Int) := ⟨by omega, by rw [hnb]; omega, by rw [initL_len, hpl]; omega⟩
  have hb : (48 + 4 * s.players + 8 * (i : Int)).toNat = 48 + 4 * pl + 8 * i := by rw [hpl]; omega
  have g : ∀ j, j < 8 → (initL pl bodies).getD (48 + 4 * pl + 8 * i + j) 0 = ((bodyRow bodies[i])[j]?).getD 0 := fun j hj => by
    rw [List.getD_eq_getElem?_getD, initL_get pl bodies i j hi hj]
  have g0 := g 0 (by omega)
  have g1 := g 1 (by omega)
  have g2 := g 2 (by omega)
  have g3 := g 3 (by omega)
  simp only [Nat.add_zero] at g0
  unfold motOf
  rw [if_pos hin, Int.toNat_natCast]
  unfold motL
  simp only [hb, g0, g1, g2, g3]
  have hm : (bodies.map (·.im)).getD i 0 = (bodies[i]).im := by rw [List.getD_eq_getElem?_getD, List.getElem?_map, List.getElem?_eq_getElem hi]; rfl
  rw [hm]
  rfl
end Go.Proofs.Ytcgndeggemceaaa
/- Plain: cells that are small, bodies that stand where they may (out of chapter 27's text on Cells). -/
namespace Go.Proofs.Ytcgndeggemceaaa
open Go.RowKit

def small (x : Int) : Prop := -2147483648 ≤ x ∧ x ≤ 2147483647
/-- the positions lie in the world's bounds -/
def PosOk (pl nb : Nat) (cells : List Int) : Prop := ∀ i, i < nb → inC (cells.getD (48 + 4 * pl + 8 * i) 0) ∧ inC (cells.getD (48 + 4 * pl + 8 * i + 1) 0)
theorem getD_set_ne {l : List Int} {i j : Nat} {v : Int} (h : i ≠ j) : (l.set i v).getD j 0 = l.getD j 0 := by
  rw [List.getD_eq_getElem?_getD, List.getElem?_set_ne h, ← List.getD_eq_getElem?_getD]
theorem getD_set_eq {l : List Int} {i : Nat} {v : Int} (h : i < l.length) : (l.set i v).getD i 0 = v := by
  rw [List.getD_eq_getElem?_getD, List.getElem?_set_self h]; rfl
theorem PosOk.put {pl nb : Nat} {cells : List Int} (h : PosOk pl nb cells) {k : Nat} (hk : k < nb) (hl : cells.length = 48 + 4 * pl + 8 * nb) {x y : Int} (hx : inC x) (hy : inC y) {a : Nat} (ha : a = 48 + 4 * pl + 8 * k) :
    PosOk pl nb ((cells.set a x).set (a + 1) y) := by
  subst ha
  intro i hi
  by_cases e : i = k
  · subst e
    rw [getD_set_ne (by omega), getD_set_eq (by omega), getD_set_eq (by rw [List.length_set]; omega)]
    exact ⟨hx, hy⟩
  · rw [getD_set_ne (by omega), getD_set_ne (by omega), getD_set_ne (by omega), getD_set_ne (by omega)]
    exact h i hi
theorem inC.small {x : Int} (h : inC x) : small x := by unfold inC at h; unfold Go.Proofs.Ytcgndeggemceaaa.small; omega
theorem small_set {l : List Int} (h : ∀ x ∈ l, small x) (i : Nat) {v : Int} (hv : small v) : ∀ x ∈ l.set i v, small x := fun x hx => by
  rcases List.mem_or_eq_of_mem_set hx with h1 | h1
  · exact h x h1
  · rw [h1]; exact hv
theorem good_small {d : Bd} (h : goodB d) : ∀ x ∈ bodyRow d, small x := by
  unfold goodB bodyB d1 d2 d3 d4 d5 inB at h
  simp at h
  unfold bodyRow small
  intro x hx
  simp at hx
  rcases hx with rfl | rfl | rfl | rfl | rfl | rfl | rfl <;> omega
theorem init_small {pl : Nat} {bodies : List Bd} (h : ∀ d ∈ bodies, goodB d) : ∀ x ∈ initL pl bodies, small x := by
  intro x hx
  unfold initL initK at hx
  rw [List.take_length, Nat.sub_self] at hx
  simp only [Nat.mul_zero, List.replicate_zero, List.append_nil, List.mem_append, List.mem_replicate, List.mem_flatMap] at hx
  rcases hx with h1 | ⟨d, hd, h1⟩
  · rw [h1.2]; unfold small; omega
  · exact good_small (h d hd) x h1
theorem good_pos {d : Bd} (h : goodB d) : inC d.px ∧ inC d.py := by
  unfold goodB bodyB d1 d2 d3 d4 d5 inB at h
  simp at h
  unfold inC
  omega
theorem init_pos {pl : Nat} {bodies : List Bd} (h : ∀ d ∈ bodies, goodB d) : PosOk pl bodies.length (initL pl bodies) := by
  intro i hi
  have h0 := initL_get pl bodies i 0 hi (by omega)
  have h1 := initL_get pl bodies i 1 hi (by omega)
  rw [Nat.add_zero] at h0
  rw [List.getD_eq_getElem?_getD, List.getD_eq_getElem?_getD, h0, h1]
  exact good_pos (h _ (List.getElem_mem hi))

end Go.Proofs.Ytcgndeggemceaaa
/- Slices of bytes as lists of numbers. -/
namespace Go.Proofs.Ytcgndeggemceaaa
open Go.RowKit

def bts (l : List Nat) : List Value := l.map fun x : Nat => Value.int .u8 (x : Int)
theorem bts_length (l : List Nat) : (bts l).length = l.length := by simp [bts]
theorem bts_append (l m : List Nat) : bts (l ++ m) = bts l ++ bts m := by simp [bts]
theorem bts_get (l : List Nat) (j : Nat) : (bts l)[j]? = l[j]?.map fun x : Nat => Value.int .u8 (x : Int) := by simp [bts]
theorem bts_one (l : List Nat) : ∀ u ∈ bts l, u.oneCell' = true := by
  intro u hu; simp only [bts, List.mem_map] at hu; obtain ⟨_, _, rfl⟩ := hu; rfl

theorem infoByte : (Try.prog.info? 5).map (fun i => (i.zero, i.size, i.bytes)) = some (some (.int .u8 0), 1, 1) := by kernel_rfl
end Go.Proofs.Ytcgndeggemceaaa
/- Chapter 28, plain: variable-length integers, zigzag. -/
namespace Go.Proofs.Ytcgndeggemceaaa
open Go.RowKit

/-- the variable-length encoding of a number -/
def varN (n : Nat) : List Nat := if n < 128 then [n] else (n % 128 + 128) :: varN (n / 128)
termination_by n
decreasing_by omega
theorem varN_lt {n : Nat} (h : n < 128) : varN n = [n] := by rw [varN, if_pos h]
theorem varN_ge {n : Nat} (h : 128 ≤ n) : varN n = (n % 128 + 128) :: varN (n / 128) := by rw [varN, if_neg (by omega)]

def BytesB (l : List Nat) : Prop := ∀ x ∈ l, x < 256
theorem varN_bytes (n : Nat) : BytesB (varN n) := by
  induction n using Nat.strongRecOn with
  | _ n ih =>
    by_cases h : n < 128
    · rw [varN_lt h]; intro x hx; simp at hx; omega
    · rw [varN_ge (by omega)]
      intro x hx
      rcases List.mem_cons.1 hx with h1 | h1
      · omega
      · exact ih (n / 128) (by omega) x h1
theorem varN_len_pos (n : Nat) : 0 < (varN n).length := by
  by_cases h : n < 128
  · rw [varN_lt h]; simp
  · rw [varN_ge (by omega)]; simp
theorem varN_len_le (k : Nat) : ∀ n, n < 128 ^ (k + 1) → (varN n).length ≤ k + 1 := by
  induction k with
  | zero => intro n h; rw [varN_lt (by simpa using h)]; simp
  | succ k ih =>
    intro n h
    by_cases h1 : n < 128
    · rw [varN_lt h1]; simp
    · rw [varN_ge (by omega), List.length_cons]
      have := ih (n / 128) (by rw [Nat.pow_succ] at h; exact Nat.div_lt_of_lt_mul (by rw [Nat.mul_comm]; exact h))
      omega
theorem varN_len {n : Nat} (h : n < 18446744073709551616) : (varN n).length ≤ 10 := varN_len_le 9 n (by omega)

/-- what a read of a number leaves: an error, or the number and what follows -/
inductive Rdr (α : Type) where
  | bad (e : Nat)
  | ok (x : α) (rest : List Nat)

/-- the first groups of a number, i groups in -/
def readG : Nat → Nat → List Nat → Rdr Nat
  | 0, _, _ => .bad 8
  | _ + 1, _, [] => .bad 7
  | k + 1, i, c :: r => if c < 128 then (if (0 < i ∧ c = 0) ∨ (i = 9 ∧ 1 < c) then .bad 8 else .ok c r) else
    match readG k (i + 1) r with
    | .bad e => .bad e
    | .ok m r' => .ok (c % 128 + 128 * m) r'
def readV (b : List Nat) : Rdr Nat := readG 10 0 b

theorem readG_var (k : Nat) : ∀ (i n : Nat) (r : List Nat), i + k = 10 → 0 < k → n * 128 ^ i < 18446744073709551616 → (i = 0 ∨ 0 < n) → readG k i (varN n ++ r) = .ok n r := by
  induction k with
  | zero => intro i n r _ h0; omega
  | succ k ih =>
    intro i n r hik _ hn h0
    by_cases h : n < 128
    · rw [varN_lt h, List.cons_append, List.nil_append, readG, if_pos h, if_neg]
      rintro (⟨h1, h2⟩ | ⟨h1, h2⟩)
      · omega
      · subst h1; omega
    · rw [varN_ge (by omega), List.cons_append, readG, if_neg (by omega)]
      have hk : 0 < k := by
        rcases Nat.eq_zero_or_pos k with h1 | h1
        · subst h1
          have : i = 9 := by omega
          subst this; omega
        · exact h1
      have hn2 : n / 128 * 128 ^ (i + 1) < 18446744073709551616 := by
        have h3 : n / 128 * 128 ≤ n := Nat.div_mul_le_self n 128
        calc n / 128 * 128 ^ (i + 1) = (n / 128 * 128) * 128 ^ i := by rw [Nat.pow_succ, Nat.mul_comm (128 ^ i), ← Nat.mul_assoc]
          _ ≤ n * 128 ^ i := Nat.mul_le_mul_right _ h3
          _ < _ := hn
      rw [ih (i + 1) (n / 128) r (by omega) hk hn2 (.inr (by omega))]
      show Rdr.ok ((n % 128 + 128) % 128 + 128 * (n / 128)) r = _
      congr 1; omega
theorem readV_var {n : Nat} (hn : n < 18446744073709551616) (r : List Nat) : readV (varN n ++ r) = .ok n r := readG_var 10 0 n r rfl (by omega) (by simpa using hn) (.inl rfl)

theorem readG_ok (k : Nat) : ∀ (i : Nat) (b : List Nat) (n : Nat) (r : List Nat), i + k = 10 → BytesB b → readG k i b = .ok n r → b = varN n ++ r ∧ n * 128 ^ i < 18446744073709551616 ∧ (i = 0 ∨ 0 < n) := by
  induction k with
  | zero => intro i b n r _ _ h; cases h
  | succ k ih =>
    intro i b n r hik hb h
    cases b with
    | nil => cases h
    | cons c t =>
      have hc := hb c (by simp)
      rw [readG] at h
      split at h
      · rename_i h1
        split at h
        · cases h
        · rename_i h2
          injection h with e1 e2
          subst e1; subst e2
          refine ⟨by rw [varN_lt h1]; rfl, ?_, by omega⟩
          have hi : i ≤ 9 := by omega
          rcases Nat.lt_or_ge i 9 with h3 | h3
          · have h4 : 128 ^ i ≤ 128 ^ 8 := Nat.pow_le_pow_right (by omega) (by omega)
            have h5 : c * 128 ^ i ≤ 127 * 128 ^ 8 := Nat.mul_le_mul (by omega) h4
            omega
          · have : i = 9 := by omega
            subst this; omega
      · rename_i h1
        split at h
        · cases h
        · rename_i m r' h2
          injection h with e1 e2
          subst e1; subst e2
          obtain ⟨a1, a2, a3⟩ := ih (i + 1) t m _ (by omega) (fun x hx => hb x (by simp [hx])) h2
          have hm : 0 < m := by omega
          refine ⟨?_, ?_, .inr (by omega)⟩
          · rw [varN_ge (by omega), a1, List.cons_append]
            congr 1
            · omega
            · rw [show (c % 128 + 128 * m) / 128 = m by omega]
          · have h3 : c % 128 + 128 * m ≤ 127 + 128 * m := by omega
            have h4 : (c % 128 + 128 * m) * 128 ^ i ≤ (127 + 128 * m) * 128 ^ i := Nat.mul_le_mul_right _ h3
            have h5 : m * 128 ^ (i + 1) = 128 * m * 128 ^ i := by rw [Nat.pow_succ, Nat.mul_comm (128 ^ i), ← Nat.mul_assoc, Nat.mul_comm m]
            rw [h5] at a2
            have hi : i ≤ 8 := by
              rcases Nat.lt_or_ge i 9 with h | h
              · omega
              · have : i = 9 := by omega
                subst this
                have : k = 0 := by omega
                subst this
                cases h2
            have h6 : 18446744073709551616 = 2 * 128 ^ (8 - i) * 128 * 128 ^ i := by
              have : (128 : Nat) ^ (8 - i) * 128 ^ i = 128 ^ 8 := by rw [← Nat.pow_add]; congr 1; omega
              calc 18446744073709551616 = 2 * 128 * 128 ^ 8 := by omega
                _ = 2 * 128 * (128 ^ (8 - i) * 128 ^ i) := by rw [this]
                _ = _ := by rw [← Nat.mul_assoc, Nat.mul_right_comm 2 128]
            have hp : 0 < 128 ^ i := Nat.pow_pos (by omega)
            have h7 : 128 * m < 2 * 128 ^ (8 - i) * 128 := by
              rw [h6] at a2
              exact Nat.lt_of_mul_lt_mul_right a2
            have h8 : m < 2 * 128 ^ (8 - i) := by omega
            have h9 : c % 128 + 128 * m < 2 * 128 ^ (8 - i) * 128 := by omega
            rw [h6]
            exact Nat.mul_lt_mul_of_pos_right h9 hp
theorem readV_ok {b : List Nat} {n : Nat} {r : List Nat} (hb : BytesB b) (h : readV b = .ok n r) : b = varN n ++ r ∧ n < 18446744073709551616 := by
  obtain ⟨h1, h2, -⟩ := readG_ok 10 0 b n r rfl hb h
  exact ⟨h1, by simpa using h2⟩
theorem readG_bad (k : Nat) : ∀ (i : Nat) (b : List Nat) (e : Nat), readG k i b = .bad e → e = 7 ∨ e = 8 := by
  induction k with
  | zero => intro i b e h; cases h; exact .inr rfl
  | succ k ih =>
    intro i b e h
    cases b with
    | nil => cases h; exact .inl rfl
    | cons c t =>
      rw [readG] at h
      split at h
      · split at h
        · cases h; exact .inr rfl
        · cases h
      · split at h
        · rename_i h2; cases h; exact ih _ _ _ h2
        · cases h
theorem readV_bad {b : List Nat} {e : Nat} (h : readV b = .bad e) : e = 7 ∨ e = 8 := readG_bad _ _ _ _ h
theorem readG_short (k : Nat) : ∀ (i n j : Nat), i + k = 10 → 0 < k → n * 128 ^ i < 18446744073709551616 → j < (varN n).length → readG k i ((varN n).take j) = .bad 7 := by
  induction k with
  | zero => intro i n j _ h; omega
  | succ k ih =>
    intro i n j hik _ hn hj
    by_cases h : n < 128
    · rw [varN_lt h] at hj ⊢
      have : j = 0 := by simpa using hj
      subst this; rfl
    · rw [varN_ge (by omega)] at hj ⊢
      cases j with
      | zero => rfl
      | succ j =>
        have hk : 0 < k := by
          rcases Nat.eq_zero_or_pos k with h1 | h1
          · subst h1
            have : i = 9 := by omega
            subst this; omega
          · exact h1
        have hn2 : n / 128 * 128 ^ (i + 1) < 18446744073709551616 := by
          have h3 : n / 128 * 128 ≤ n := Nat.div_mul_le_self n 128
          calc n / 128 * 128 ^ (i + 1) = (n / 128 * 128) * 128 ^ i := by rw [Nat.pow_succ, Nat.mul_comm (128 ^ i), ← Nat.mul_assoc]
            _ ≤ n * 128 ^ i := Nat.mul_le_mul_right _ h3
            _ < _ := hn
        rw [List.take_succ_cons, readG, if_neg (by omega), ih (i + 1) (n / 128) j (by omega) hk hn2 (by simpa using hj)]
theorem readV_short {n j : Nat} (hn : n < 18446744073709551616) (hj : j < (varN n).length) : readV ((varN n).take j) = .bad 7 := readG_short 10 0 n j rfl (by omega) (by simpa using hn) hj

/-- zigzag and back -/
def zz (d : Int) : Nat := if d < 0 then (2 * (-(d + 1)) + 1).toNat else (2 * d).toNat
def uz (n : Nat) : Int := if n % 2 = 1 then -((n / 2 : Nat) : Int) - 1 else ((n / 2 : Nat) : Int)
theorem uz_zz (d : Int) : uz (zz d) = d := by
  unfold uz zz
  split
  · rw [if_pos (by omega)]; omega
  · rw [if_neg (by omega)]; omega
theorem zz_uz (n : Nat) : zz (uz n) = n := by
  unfold uz zz
  split
  · rw [if_pos (by omega)]; omega
  · rw [if_neg (by omega)]; omega
theorem zz_lt {d : Int} (h0 : -9223372036854775808 ≤ d) (h1 : d ≤ 9223372036854775807) : zz d < 18446744073709551616 := by unfold zz; split <;> omega
theorem uz_bound {n : Nat} (h : n < 18446744073709551616) : -9223372036854775808 ≤ uz n ∧ uz n ≤ 9223372036854775807 := by unfold uz; split <;> omega
end Go.Proofs.Ytcgndeggemceaaa
/- Package snapshot: appendNumber, zigzag, unzigzag, gaps. -/
namespace Go.Proofs.Ytcgndeggemceaaa
open Go.RowKit

/-- a list of bytes has grown by some -/
def AppTo (w : World) (ao : Option Addr) (out : List Nat) (e : Ending) (w' : World) : Prop := ∃ ao' cap', e = .returned (.slice ao' out.length cap') ∧ Seg w' 5 1 ao' out.length cap' (bts out) ∧ Fr (blk ao) w w' ∧ Ext (blk ao) w (blk ao')
set_option maxRecDepth 100000 in
theorem or128 : ∀ a, a < 256 → a ||| 128 = a % 128 + 128 := by decide

set_option maxRecDepth 100000 in
set_option maxHeartbeats 4000000 in
theorem append_any (w : World) (ao : Option Addr) (cap : Nat) (out : List Nat) (n : Nat) (hs : Seg w 5 1 ao out.length cap (bts out)) (hn : n < 18446744073709551616) (hl : out.length ≤ 1099511627776) :
    Calls Try.prog 32 #[.slice ao out.length cap, .int .u64 (n : Int)] w (AppTo w ao (out ++ varN n)) := by
  obtain ⟨ib, hib, hb0, hb1, hb2⟩ := info_parts infoByte
  have HS := Lib.hid hs
  have HVL := Lib.hid (varN_len hn)
  clear hs
  go_enter Try.func32, Try.ntmps32
  go_wp2_with fail
  go_loopw [0, 1] (fun bv nv wr => ∃ (d : List Nat) (m : Nat) (oa : Option Addr) (oc : Nat), bv = .slice oa (out ++ d).length oc ∧ nv = .int .u64 (m : Int) ∧ m < 18446744073709551616 ∧ d ++ varN m = varN n ∧ Seg wr 5 1 oa (out ++ d).length oc (bts (out ++ d)) ∧ Fr (blk ao) w wr ∧ Ext (blk ao) w (blk oa)) (fun _ nv _ => (intOf nv).toNat)
  case atStart => exact ⟨[], n, ao, cap, by simp, rfl, hn, rfl, by simpa using HS.out, Fr.refl _ _, Ext.refl _ _⟩
  case round =>
    obtain ⟨d, m, oa, oc, rfl, rfl, hm, hd, hseg, hf, hx⟩ := hrel
    obtain ⟨D, hD⟩ : ∃ D, D = out ++ d := ⟨_, rfl⟩
    have hdl : d.length ≤ 10 := by have := congrArg List.length hd; rw [List.length_append] at this; have := HVL.out; omega
    have hDl : D.length ≤ 1099511627786 := by rw [hD, List.length_append]; omega
    have HDE := Lib.hid hD
    rw [← hD] at hseg ⊢
    have HD := Lib.hid hd
    have HSG := Lib.hid fun (o : Obj) => hseg.alloc o
    have HF := Lib.hid hf
    have HX := Lib.hid hx
    clear hD hd hseg hf hx
    by_cases hm1 : 128 ≤ m
    · have hmi : (128 : Int) ≤ (m : Int) := by omega
      obtain ⟨x, hx⟩ : ∃ x, x = m % 128 + 128 := ⟨_, rfl⟩
      have hor : bits .or .u8 ((m : Int) % 256) 128 = (x : Int) := by
        have h := bits_or_u8 (m % 256) 128 (by omega) (by omega)
        rw [or128 _ (by omega)] at h
        rw [hx, show (m : Int) % 256 = ((m % 256 : Nat) : Int) by omega]
        refine Eq.trans h ?_
        omega
      have HXE := Lib.hid hx
      clear hx
      go_wp2_with (at_builtin; refine wpList_append_seg rfl _ _ 26 rfl 5 ib _ 1 1 Try.underlying26 hib hb0 hb1 hb2 rfl (by decide) oa D.length oc (bts D) rfl (HSG.out _) ⟨_, 0, none⟩ 1 1 [.int .u8 (x : Int)] rfl rfl (fun j u hu => by rw [Addr.add_mid, Nat.zero_add, World.cell?_alloc_new]; simpa using hu) (by simp [Value.oneCell']) (by unfold maxLen; omega) (by omega) ?_; intro ao' cap' w5 hs5 hf5 hx5; have HS5 := Lib.hid hs5; have HF5 := Lib.hid (((Fr.refl (blk oa) wr).alloc _).trans hf5 (Ext.refl _ _)); have HX5 := Lib.hid hx5; clear hs5 hf5 hx5)
      go_roundw
      case rel =>
        have hlen : (out ++ (d ++ [x])).length = D.length + 1 := by rw [HDE.out]; simp; omega
        have e : out ++ (d ++ [x]) = D ++ [x] := by rw [HDE.out, List.append_assoc]
        refine ⟨d ++ [x], m / 128, ao', cap', by rw [hlen], by go_num, by omega, by rw [← HD.out, varN_ge hm1, ← HXE.out]; simp, by rw [hlen, e, bts_append]; exact HS5.out, HF.out.trans HF5.out HX.out, fun k hk => ?_⟩
        rcases HX5.out k hk with h | h
        · exact HX.out k h
        · have := HF.out.size; simp at h; exact .inr (by omega)
      case measure => simp [intOf]; omega
    · have hmi : (m : Int) < 128 := by omega
      have hm8 : (m : Int) % 256 = (m : Int) := by omega
      go_wp2_with (at_builtin; refine wpList_append_seg rfl _ _ 26 rfl 5 ib _ 1 1 Try.underlying26 hib hb0 hb1 hb2 rfl (by decide) oa D.length oc (bts D) rfl (HSG.out _) ⟨_, 0, none⟩ 1 1 [.int .u8 (m : Int)] rfl rfl (fun j u hu => by rw [Addr.add_mid, Nat.zero_add, World.cell?_alloc_new]; simpa using hu) (by simp [Value.oneCell']) (by unfold maxLen; omega) (by omega) ?_; intro ao' cap' w5 hs5 hf5 hx5; have HS5 := Lib.hid hs5; have HF5 := Lib.hid (((Fr.refl (blk oa) wr).alloc _).trans hf5 (Ext.refl _ _)); have HX5 := Lib.hid hx5; clear hs5 hf5 hx5)
      go_ret
      have hlen : (D ++ [m]).length = D.length + 1 := by simp
      have e : out ++ varN n = D ++ [m] := by rw [HDE.out, ← HD.out, varN_lt (by omega), List.append_assoc]
      rw [e]
      refine ⟨ao', cap', by rw [hlen]; rfl, by rw [hlen, bts_append]; exact HS5.out, HF.out.trans HF5.out HX.out, fun k hk => ?_⟩
      rcases HX5.out k hk with h | h
      · exact HX.out k h
      · have := HF.out.size; simp at h; exact .inr (by omega)

theorem zig_bits (d : Int) (h0 : -9223372036854775808 ≤ d) (h1 : d ≤ 9223372036854775807) : bits .xor .u64 (IntKind.u64.wrap (IntKind.u64.wrap d * 2)) (IntKind.u64.wrap (d / 9223372036854775808)) = ((zz d : Nat) : Int) := by
  by_cases hd : d < 0
  · have e1 : IntKind.u64.wrap (IntKind.u64.wrap d * 2) = (((2 * d + 18446744073709551616).toNat : Nat) : Int) := by
      rw [IntKind.wrap_u64, IntKind.wrap_u64]; omega
    have e2 : IntKind.u64.wrap (d / 9223372036854775808) = ((2 ^ 64 - 1 : Nat) : Int) := by
      rw [show d / 9223372036854775808 = -1 by omega]; decide
    rw [e1, e2, Go.u64_xor_nat _ _ (by omega) (by decide), Nat.xor_comm, Go.Lib.xor_ones64 _ (by omega)]
    unfold zz
    rw [if_pos hd]
    omega
  · have e1 : IntKind.u64.wrap (IntKind.u64.wrap d * 2) = (((2 * d).toNat : Nat) : Int) := by
      rw [IntKind.wrap_u64, IntKind.wrap_u64]; omega
    have e2 : IntKind.u64.wrap (d / 9223372036854775808) = ((0 : Nat) : Int) := by
      rw [show d / 9223372036854775808 = 0 by omega]; decide
    rw [e1, e2, Go.u64_xor_nat _ _ (by omega) (by decide), Nat.xor_zero]
    unfold zz
    rw [if_neg hd]
theorem uzig_bits (n : Nat) (hn : n < 18446744073709551616) : bits .xor .i64 ((n : Int) / 2) (wrap64 (-wrap64 (bits .and .u64 (n : Int) 1))) = uz n := by
  rw [Go.Lib.u64_and1 _ (by omega) (by omega)]
  unfold uz
  split
  · rename_i h
    rw [show (n : Int) % 2 = 1 by omega]
    have e : wrap64 (-wrap64 1) = -1 := by unfold wrap64; omega
    rw [e]
    have h2 := Go.Lib.i64_not (n / 2) (by omega)
    have hc : bits .xor .i64 ((n : Int) / 2) (-1) = bits .xor .i64 (-1) ((n / 2 : Nat) : Int) := by
      show IntKind.i64.wrap ((BitVec.ofInt 64 ((n : Int) / 2) ^^^ BitVec.ofInt 64 (-1)).toNat : Int) = IntKind.i64.wrap ((BitVec.ofInt 64 (-1) ^^^ BitVec.ofInt 64 ((n / 2 : Nat) : Int)).toNat : Int)
      rw [BitVec.xor_comm]; rfl
    rw [hc, h2]
  · rename_i h
    rw [show (n : Int) % 2 = 0 by omega]
    have e : wrap64 (-wrap64 0) = 0 := by unfold wrap64; omega
    rw [e]
    show IntKind.i64.wrap ((BitVec.ofInt 64 ((n : Int) / 2) ^^^ BitVec.ofInt 64 0).toNat : Int) = _
    have h2 : (BitVec.ofInt 64 ((n / 2 : Nat) : Int)).toNat = n / 2 := by
      rw [BitVec.ofInt_natCast, BitVec.toNat_ofNat]; exact Nat.mod_eq_of_lt (by omega)
    have h3 : (BitVec.ofInt 64 0).toNat = 0 := by decide
    rw [show (n : Int) / 2 = ((n / 2 : Nat) : Int) by omega, BitVec.toNat_xor, h2, h3, Nat.xor_zero, IntKind.wrap_i64]
    omega

set_option maxHeartbeats 1000000 in
theorem zigzag_any (w : World) (d : Int) (h0 : -9223372036854775808 ≤ d) (h1 : d ≤ 9223372036854775807) : Calls Try.prog 33 #[.int .i64 d] w fun e w' => e = .returned (.int .u64 ((zz d : Nat) : Int)) ∧ w = w' := by
  have HZ := Lib.hid (zig_bits d h0 h1)
  go_enter Try.func33, Try.ntmps33
  go_wp2
  go_ret
  exact ⟨ret_int HZ.out, rfl⟩
set_option maxHeartbeats 1000000 in
theorem unzigzag_any (w : World) (n : Nat) (hn : n < 18446744073709551616) : Calls Try.prog 54 #[.int .u64 (n : Int)] w fun e w' => e = .returned (.int .i64 (uz n)) ∧ w = w' := by
  have HZ := Lib.hid (uzig_bits n hn)
  go_enter Try.func54, Try.ntmps54
  go_wp2
  go_ret
  exact ⟨ret_int HZ.out, rfl⟩

set_option maxHeartbeats 1000000 in
theorem gaps_any (w : World) : Calls Try.prog 30 #[] w fun e w' => e = .returned (.func (.func 50) #[] #[.pointer (some ⟨w.heap.size, 0, none⟩)]) ∧ w' = w.alloc (.cells #[.int .i64 (-1)] 3) := by
  go_enter Try.func30, Try.ntmps30
  go_wp2
  go_ret
  exact ⟨rfl, rfl⟩
set_option maxHeartbeats 1000000 in
theorem gap_any (w : World) (p : Nat) (prev k : Int) (hp : w.heap[p]? = some (.cells #[.int .i64 prev] 3 (0, 0))) (h0 : -1 ≤ prev) (h1 : prev < k) (h2 : k ≤ 2147483647) :
    Calls Try.prog 50 #[.int .i64 k, .pointer (some ⟨p, 0, none⟩)] w fun e w' => e = .returned (.int .u64 (((k - prev - 1).toNat : Nat) : Int)) ∧ w' = w.setCell ⟨p, 0, none⟩ (.int .i64 k) := by
  have c := cell_blk hp 0
  have f := frozen_blk hp 0
  simp at c
  have HE := Lib.hid (by omega : (((k - prev - 1).toNat : Nat) : Int) = k - prev - 1)
  have h3 : 0 ≤ k - prev - 1 := by omega
  clear hp
  go_enter Try.func50, Try.ntmps50
  go_wp2
  go_ret
  exact ⟨by rw [HE.out]; rfl, rfl⟩
end Go.Proofs.Ytcgndeggemceaaa
/- Chapter 28, plain: views, the difference of two views, and what applying it leaves. -/
namespace Go.Proofs.Ytcgndeggemceaaa
open Go.RowKit

/-! ### views -/
def bd64 (x : Int) : Prop := -9223372036854775808 ≤ x ∧ x ≤ 9223372036854775807
def Srt (l : List (Int × Int)) : Prop := l.Pairwise fun a b => a.1 < b.1
def idxOk (k : Int) : Prop := 0 ≤ k ∧ k ≤ 2147483647
structure IsView (l : List (Int × Int)) : Prop where
  srt : Srt l
  idx : ∀ x ∈ l, idxOk x.1
  val : ∀ x ∈ l, bd64 x.2
def has (l : List (Int × Int)) (k : Int) : Bool := l.any fun x => x.1 == k
def getv : List (Int × Int) → Int → Int
  | [], _ => 0
  | x :: l, k => if x.1 = k then x.2 else getv l k

theorem has_mem {l : List (Int × Int)} {k : Int} : has l k = true ↔ ∃ v, (k, v) ∈ l := by
  unfold has
  rw [List.any_eq_true]
  constructor
  · rintro ⟨x, hx, h⟩; rw [beq_iff_eq] at h; exact ⟨x.2, by rw [← h]; exact hx⟩
  · rintro ⟨v, h⟩; exact ⟨_, h, by simp⟩
theorem has_cons (x : Int × Int) (l : List (Int × Int)) (k : Int) : has (x :: l) k = ((x.1 == k) || has l k) := rfl
theorem has_lt {l : List (Int × Int)} {k : Int} (h : ∀ x ∈ l, k < x.1) : has l k = false := by
  rw [Bool.eq_false_iff]
  intro h1
  obtain ⟨v, hv⟩ := has_mem.1 h1
  have := h _ hv
  simp only at this; omega
theorem Srt.tail {x : Int × Int} {l : List (Int × Int)} (h : Srt (x :: l)) : Srt l := (List.pairwise_cons.1 h).2
theorem Srt.head {x : Int × Int} {l : List (Int × Int)} (h : Srt (x :: l)) : ∀ y ∈ l, x.1 < y.1 := (List.pairwise_cons.1 h).1
theorem getv_mem {l : List (Int × Int)} (h : Srt l) {x : Int × Int} (hx : x ∈ l) : getv l x.1 = x.2 := by
  induction l with
  | nil => cases hx
  | cons y l ih =>
    unfold getv
    rcases List.mem_cons.1 hx with h1 | h1
    · subst h1; rw [if_pos rfl]
    · have := h.head x h1
      rw [if_neg (by omega)]; exact ih h.tail h1
theorem getv_none {l : List (Int × Int)} {k : Int} (h : has l k = false) : getv l k = 0 := by
  induction l with
  | nil => rfl
  | cons y l ih =>
    rw [has_cons, Bool.or_eq_false_iff] at h
    unfold getv
    rw [if_neg (by have := h.1; rw [beq_eq_false_iff_ne] at this; exact this)]
    exact ih h.2
theorem getv_bd {l : List (Int × Int)} (h : ∀ x ∈ l, bd64 x.2) (k : Int) : bd64 (getv l k) := by
  induction l with
  | nil => unfold getv bd64; omega
  | cons y l ih =>
    unfold getv
    split
    · exact h y (by simp)
    · exact ih fun x hx => h x (by simp [hx])
theorem getv_has {l : List (Int × Int)} {k : Int} (h : has l k = true) : (k, getv l k) ∈ l := by
  induction l with
  | nil => cases h
  | cons y l ih =>
    unfold getv
    by_cases e : y.1 = k
    · rw [if_pos e, ← e]; simp
    · rw [if_neg e]
      rw [has_cons, Bool.or_eq_true, beq_iff_eq] at h
      rcases h with h1 | h1
      · exact absurd h1 e
      · exact List.mem_cons_of_mem _ (ih h1)

/-- two lists in strictly rising order that hold the same elements -/
theorem srt_eq : ∀ {l m : List (Int × Int)}, Srt l → Srt m → (∀ x, x ∈ l ↔ x ∈ m) → l = m := by
  intro l
  induction l with
  | nil =>
    intro m _ _ h
    cases m with
    | nil => rfl
    | cons y m => exact absurd ((h y).2 (by simp)) (by simp)
  | cons x l ih =>
    intro m hl hm h
    cases m with
    | nil => exact absurd ((h x).1 (by simp)) (by simp)
    | cons y m =>
      have hxy : x = y := by
        have h1 := (h x).1 (by simp)
        have h2 := (h y).2 (by simp)
        rcases List.mem_cons.1 h1 with e | e
        · exact e
        · rcases List.mem_cons.1 h2 with e2 | e2
          · exact e2.symm
          · have a1 := hm.head x e
            have a2 := hl.head y e2
            omega
      subst hxy
      congr 1
      refine ih hl.tail hm.tail fun z => ?_
      constructor
      · intro hz
        rcases List.mem_cons.1 ((h z).1 (by simp [hz])) with e | e
        · subst e; have := hl.head z hz; omega
        · exact e
      · intro hz
        rcases List.mem_cons.1 ((h z).2 (by simp [hz])) with e | e
        · subst e; have := hm.head z hz; omega
        · exact e
theorem ints_eq {l m : List Int} (hl : l.Pairwise (· < ·)) (hm : m.Pairwise (· < ·)) (h : ∀ x, x ∈ l ↔ x ∈ m) : l = m := by
  have e : ∀ l : List Int, (l.map fun x => (x, (0 : Int))).map Prod.fst = l := fun l => by rw [List.map_map]; exact List.map_id _
  have h1 : (l.map fun x => (x, (0 : Int))) = m.map fun x => (x, (0 : Int)) := by
    refine srt_eq ?_ ?_ fun x => ?_
    · unfold Srt; rw [List.pairwise_map]; exact hl
    · unfold Srt; rw [List.pairwise_map]; exact hm
    · simp only [List.mem_map]
      constructor
      · rintro ⟨y, hy, rfl⟩; exact ⟨y, (h y).1 hy, rfl⟩
      · rintro ⟨y, hy, rfl⟩; exact ⟨y, (h y).2 hy, rfl⟩
  rw [← e l, ← e m, h1]

/-! ### the merge of two views -/
structure Pr where
  bi : Int
  bv : Int
  ai : Int
  av : Int
  ib : Bool
  ia : Bool
def prB (x : Int × Int) : Pr := ⟨x.1, x.2, 0, 0, true, false⟩
def prA (y : Int × Int) : Pr := ⟨0, 0, y.1, y.2, false, true⟩
def prX (x y : Int × Int) : Pr := ⟨x.1, x.2, y.1, y.2, true, true⟩
def mg : List (Int × Int) → List (Int × Int) → List Pr
  | [], b => b.map prA
  | x :: a, [] => (x :: a).map prB
  | x :: a, y :: b => if x.1 < y.1 then prB x :: mg a (y :: b) else if y.1 < x.1 then prA y :: mg (x :: a) b else prX x y :: mg a b
termination_by a b => a.length + b.length
theorem mg_nil (b : List (Int × Int)) : mg [] b = b.map prA := by cases b <;> rw [mg]
theorem mg_nil' (a : List (Int × Int)) : mg a [] = a.map prB := by cases a <;> simp [mg]
theorem mg_lt {x y : Int × Int} {a b : List (Int × Int)} (h : x.1 < y.1) : mg (x :: a) (y :: b) = prB x :: mg a (y :: b) := by rw [mg, if_pos h]
theorem mg_gt {x y : Int × Int} {a b : List (Int × Int)} (h : y.1 < x.1) : mg (x :: a) (y :: b) = prA y :: mg (x :: a) b := by rw [mg, if_neg (by omega), if_pos h]
theorem mg_eq {x y : Int × Int} {a b : List (Int × Int)} (h : x.1 = y.1) : mg (x :: a) (y :: b) = prX x y :: mg a b := by rw [mg, if_neg (by omega), if_neg (by omega)]
theorem mg_len : ∀ (a b : List (Int × Int)), (mg a b).length ≤ a.length + b.length := by
  intro a b
  induction a, b using mg.induct with
  | case1 b => rw [mg_nil]; simp
  | case2 x a => rw [mg_nil']; simp
  | case3 x a y b h ih => rw [mg_lt h]; simp only [List.length_cons] at ih ⊢; omega
  | case4 x a y b h h2 ih => rw [mg_gt h2]; simp only [List.length_cons] at ih ⊢; omega
  | case5 x a y b h h2 ih => rw [mg_eq (by omega)]; simp only [List.length_cons] at ih ⊢; omega

/-- what is gone, what is changed -/
def goneL (a b : List (Int × Int)) : List Int := (a.filter fun x => !(has b x.1)).map (·.1)
def same (a : List (Int × Int)) (y : Int × Int) : Bool := has a y.1 && getv a y.1 == y.2
def chgL (a b : List (Int × Int)) : List (Int × Int) := b.filter fun y => !(same a y)
def isGone (p : Pr) : Bool := !p.ia
def isChg (p : Pr) : Bool := p.ia && (!p.ib || !(p.bi == p.ai && p.bv == p.av))
def goneP (t : List Pr) : List Int := (t.filter isGone).map (·.bi)
def chgP' (t : List Pr) : List (Int × Int × Int) := (t.filter isChg).map fun p => (p.ai, p.av, p.bv)

def encG (prev : Int) : List Int → List Nat
  | [] => []
  | k :: r => varN (k - prev - 1).toNat ++ encG k r
def encD (prev : Int) : List (Int × Int × Int) → List Nat
  | [] => []
  | y :: r => varN (y.1 - prev - 1).toNat ++ varN (zz (wrap64 (y.2.1 - y.2.2))) ++ encD y.1 r
def withOld (a : List (Int × Int)) (l : List (Int × Int)) : List (Int × Int × Int) := l.map fun y => (y.1, y.2, getv a y.1)
def encC (a : List (Int × Int)) (prev : Int) (l : List (Int × Int)) : List Nat := encD prev (withOld a l)
theorem encC_cons (a : List (Int × Int)) (prev : Int) (y : Int × Int) (l : List (Int × Int)) : encC a prev (y :: l) = varN (y.1 - prev - 1).toNat ++ varN (zz (wrap64 (y.2 - getv a y.1))) ++ encC a y.1 l := rfl
def diffL (a b : List (Int × Int)) : List Nat := varN (goneL a b).length ++ encG (-1) (goneL a b) ++ varN (chgL a b).length ++ encC a (-1) (chgL a b)

theorem filter_congr' {α : Type} {p q : α → Bool} {l : List α} (h : ∀ x ∈ l, p x = q x) : l.filter p = l.filter q := List.filter_congr h

theorem mg_gone : ∀ (a b : List (Int × Int)), Srt a → Srt b → goneP (mg a b) = goneL a b := by
  intro a b
  induction a, b using mg.induct with
  | case1 b =>
    intro _ _
    rw [mg_nil]
    unfold goneP goneL
    rw [List.filter_map]
    have : (b.filter (isGone ∘ prA)) = [] := by rw [List.filter_eq_nil_iff]; intro x _; simp [isGone, prA]
    rw [this]; rfl
  | case2 x a =>
    intro _ _
    rw [mg_nil']
    unfold goneP goneL
    rw [List.filter_map, List.map_map]
    congr 1
  | case3 x a y b h ih =>
    intro ha hb
    have ih := ih ha.tail hb
    rw [mg_lt h]
    have h1 : has (y :: b) x.1 = false := has_lt fun z hz => by
      rcases List.mem_cons.1 hz with e | e
      · subst e; exact h
      · have := hb.head z e; omega
    unfold goneP goneL at ih ⊢
    rw [List.filter_cons_of_pos (by simp [isGone, prB]), List.filter_cons_of_pos (by simp [h1])]
    rw [List.map_cons, List.map_cons, ih]; rfl
  | case4 x a y b h h2 ih =>
    intro ha hb
    have ih := ih ha hb.tail
    rw [mg_gt h2]
    unfold goneP goneL at ih ⊢
    rw [List.filter_cons_of_neg (by simp [isGone, prA]), ih]
    congr 1
    refine filter_congr' fun z hz => ?_
    have : y.1 < z.1 := by
      rcases List.mem_cons.1 hz with e | e
      · subst e; exact h2
      · have := ha.head z e; omega
    rw [has_cons, show (y.1 == z.1) = false from beq_eq_false_iff_ne.2 (by omega), Bool.false_or]
  | case5 x a y b h h2 ih =>
    intro ha hb
    have ih := ih ha.tail hb.tail
    have e : x.1 = y.1 := by omega
    rw [mg_eq e]
    unfold goneP goneL at ih ⊢
    rw [List.filter_cons_of_neg (by simp [isGone, prX]), List.filter_cons_of_neg (by simp [has_cons, e]), ih]
    congr 1
    refine filter_congr' fun z hz => ?_
    have := ha.head z hz
    rw [has_cons, show (y.1 == z.1) = false from beq_eq_false_iff_ne.2 (by omega), Bool.false_or]

theorem same_cons {x : Int × Int} {a : List (Int × Int)} {y : Int × Int} (h : x.1 ≠ y.1) : same (x :: a) y = same a y ∧ getv (x :: a) y.1 = getv a y.1 := by
  have e : getv (x :: a) y.1 = getv a y.1 := by unfold getv; rw [if_neg h]; cases a <;> rfl
  refine ⟨?_, e⟩
  unfold same
  rw [has_cons, e, show (x.1 == y.1) = false from beq_eq_false_iff_ne.2 h, Bool.false_or]

theorem mg_chg : ∀ (a b : List (Int × Int)), Srt a → Srt b → chgP' (mg a b) = withOld a (chgL a b) := by
  intro a b
  induction a, b using mg.induct with
  | case1 b =>
    intro _ _
    rw [mg_nil]
    unfold chgP' withOld chgL
    rw [List.filter_map, List.map_map]
    have e1 : b.filter (isChg ∘ prA) = b.filter fun y => !(same [] y) := filter_congr' fun x _ => by simp [isChg, prA, same, has]
    rw [e1]
    refine List.map_congr_left fun y _ => ?_
    simp [prA, getv]
  | case2 x a =>
    intro _ _
    rw [mg_nil']
    unfold chgP' withOld chgL
    rw [List.filter_map]
    have : ((x :: a).filter (isChg ∘ prB)) = [] := by rw [List.filter_eq_nil_iff]; intro x _; simp [isChg, prB]
    rw [this]; rfl
  | case3 x a y b h ih =>
    intro ha hb
    have ih := ih ha.tail hb
    rw [mg_lt h]
    have hlt : ∀ z ∈ y :: b, x.1 < z.1 := fun z hz => by
      rcases List.mem_cons.1 hz with e | e
      · subst e; exact h
      · have := hb.head z e; omega
    unfold chgP' withOld chgL at ih ⊢
    rw [List.filter_cons_of_neg (by simp [isChg, prB]), ih]
    have e1 : (y :: b).filter (fun y => !(same (x :: a) y)) = (y :: b).filter fun y => !(same a y) := filter_congr' fun z hz => by rw [(same_cons (by have := hlt z hz; omega)).1]
    rw [e1]
    refine List.map_congr_left fun z hz => ?_
    rw [(same_cons (by have := hlt z ((List.mem_filter.1 hz).1); omega)).2]
  | case4 x a y b h h2 ih =>
    intro ha hb
    have ih := ih ha hb.tail
    rw [mg_gt h2]
    have hn : has (x :: a) y.1 = false := has_lt fun z hz => by
      rcases List.mem_cons.1 hz with e | e
      · subst e; exact h2
      · have := ha.head z e; omega
    unfold chgP' withOld chgL at ih ⊢
    rw [List.filter_cons_of_pos (by simp [isChg, prA]), List.filter_cons_of_pos (by simp [same, hn]), List.map_cons, List.map_cons, ih, getv_none hn]
    rfl
  | case5 x a y b h h2 ih =>
    intro ha hb
    have ih := ih ha.tail hb.tail
    have e : x.1 = y.1 := by omega
    rw [mg_eq e]
    have hg : getv (x :: a) y.1 = x.2 := by unfold getv; rw [if_pos e]
    have hs : same (x :: a) y = (x.2 == y.2) := by unfold same; rw [has_cons, hg, show (x.1 == y.1) = true from beq_iff_eq.2 e]; simp
    have hlt : ∀ z ∈ b, x.1 < z.1 := fun z hz => by have := hb.head z hz; omega
    have e1 : b.filter (fun y => !(same (x :: a) y)) = b.filter fun y => !(same a y) := filter_congr' fun z hz => by rw [(same_cons (by have := hlt z hz; omega)).1]
    have e2 : (b.filter fun y => !(same a y)).map (fun y => (y.1, y.2, getv (x :: a) y.1)) = (b.filter fun y => !(same a y)).map fun y => (y.1, y.2, getv a y.1) := List.map_congr_left fun z hz => by
      rw [(same_cons (by have := hlt z ((List.mem_filter.1 hz).1); omega)).2]
    unfold chgP' withOld chgL at ih ⊢
    cases hxy : (x.2 == y.2)
    · rw [List.filter_cons_of_pos (by simp [isChg, prX, hxy]), List.filter_cons_of_pos (by simp [hs, hxy]), List.map_cons, List.map_cons, ih, e1, e2, hg]; rfl
    · rw [List.filter_cons_of_neg (by simp [isChg, prX, hxy, e]), List.filter_cons_of_neg (by simp [hs, hxy]), ih, e1, e2]

/-! ### what applying leaves -/
def inL (gone : List Int) (k : Int) : Bool := decide (k ∈ gone)
theorem inL_t {gone : List Int} {k : Int} (h : k ∈ gone) : inL gone k = true := decide_eq_true h
theorem inL_f {gone : List Int} {k : Int} (h : k ∉ gone) : inL gone k = false := decide_eq_false h
def outP (gone : List Int) (p : Pr) : Option (Int × Int) := cond p.ia (some (p.ai, p.av)) (cond (inL gone p.bi) none (some (p.bi, p.bv)))
theorem outP_A (gone : List Int) (y : Int × Int) : outP gone (prA y) = some y := rfl
theorem outP_X (gone : List Int) (x y : Int × Int) : outP gone (prX x y) = some y := rfl
theorem outP_Bt {gone : List Int} {x : Int × Int} (h : x.1 ∈ gone) : outP gone (prB x) = none := by unfold outP prB; simp only [cond_false, inL_t h, cond_true]
theorem outP_Bf {gone : List Int} {x : Int × Int} (h : x.1 ∉ gone) : outP gone (prB x) = some x := by unfold outP prB; simp only [cond_false, inL_f h]
def mv (a c : List (Int × Int)) (gone : List Int) : List (Int × Int) := (mg a c).filterMap (outP gone)
theorem mv_mem (gone : List Int) : ∀ (a c : List (Int × Int)), Srt a → Srt c → ∀ x, x ∈ mv a c gone ↔ x ∈ c ∨ (x ∈ a ∧ has c x.1 = false ∧ x.1 ∉ gone) := by
  intro a c
  unfold mv
  induction a, c using mg.induct with
  | case1 b =>
    intro _ _ x
    rw [mg_nil, List.filterMap_map, show (outP gone ∘ prA) = some from funext fun y => outP_A gone y, List.filterMap_some]
    simp
  | case2 x a =>
    intro _ _ z
    rw [mg_nil', List.filterMap_map]
    simp only [List.mem_filterMap, Function.comp_apply]
    constructor
    · rintro ⟨u, hu, h⟩
      by_cases h1 : u.1 ∈ gone
      · rw [outP_Bt h1] at h; cases h
      · rw [outP_Bf h1] at h; cases h; exact .inr ⟨hu, rfl, h1⟩
    · rintro (h | ⟨h1, -, h3⟩)
      · cases h
      · exact ⟨z, h1, outP_Bf h3⟩
  | case3 x a y b h ih =>
    intro ha hb z
    have ih := ih ha.tail hb z
    rw [mg_lt h]
    have hn : has (y :: b) x.1 = false := has_lt fun z hz => by
      rcases List.mem_cons.1 hz with e | e
      · subst e; exact h
      · have := hb.head z e; omega
    have key : z ∈ (prB x :: mg a (y :: b)).filterMap (outP gone) ↔ (z = x ∧ x.1 ∉ gone) ∨ z ∈ (mg a (y :: b)).filterMap (outP gone) := by
      by_cases hg : x.1 ∈ gone
      · rw [List.filterMap_cons_none (by first | exact outP_Bt hg | exact outP_Bf hg)]; simp [hg]
      · rw [List.filterMap_cons_some (b := x) (by first | exact outP_Bt hg | exact outP_Bf hg)]; simp [hg]
    rw [key, ih]
    constructor
    · rintro (⟨rfl, h1⟩ | h1 | ⟨h1, h2, h3⟩)
      · exact .inr ⟨by simp, hn, h1⟩
      · exact .inl h1
      · exact .inr ⟨by simp [h1], h2, h3⟩
    · rintro (h1 | ⟨h1, h2, h3⟩)
      · exact .inr (.inl h1)
      · rcases List.mem_cons.1 h1 with e | e
        · subst e; exact .inl ⟨rfl, h3⟩
        · exact .inr (.inr ⟨e, h2, h3⟩)
  | case4 x a y b h h2 ih =>
    intro ha hb z
    have ih := ih ha hb.tail z
    rw [mg_gt h2, List.filterMap_cons_some (b := y) (outP_A gone y), List.mem_cons, ih]
    have hc : z ∈ x :: a → has (y :: b) z.1 = has b z.1 := fun hz => by
      have : y.1 < z.1 := by
        rcases List.mem_cons.1 hz with e | e
        · subst e; exact h2
        · have := ha.head z e; omega
      rw [has_cons, show (y.1 == z.1) = false from beq_eq_false_iff_ne.2 (by omega), Bool.false_or]
    constructor
    · rintro (h1 | h1 | ⟨h1, h3, h4⟩)
      · exact .inl (by simp [h1])
      · exact .inl (by simp [h1])
      · exact .inr ⟨h1, by rw [hc h1]; exact h3, h4⟩
    · rintro (h1 | ⟨h1, h3, h4⟩)
      · rcases List.mem_cons.1 h1 with e | e
        · exact .inl e
        · exact .inr (.inl e)
      · exact .inr (.inr ⟨h1, by rw [← hc h1]; exact h3, h4⟩)
  | case5 x a y b h h2 ih =>
    intro ha hb z
    have ih := ih ha.tail hb.tail z
    have e : x.1 = y.1 := by omega
    rw [mg_eq e, List.filterMap_cons_some (b := y) (outP_X gone x y), List.mem_cons, ih]
    have hc : z ∈ a → has (y :: b) z.1 = has b z.1 := fun hz => by
      have := ha.head z hz
      rw [has_cons, show (y.1 == z.1) = false from beq_eq_false_iff_ne.2 (by omega), Bool.false_or]
    constructor
    · rintro (h1 | h1 | ⟨h1, h3, h4⟩)
      · exact .inl (by simp [h1])
      · exact .inl (by simp [h1])
      · exact .inr ⟨by simp [h1], by rw [hc h1]; exact h3, h4⟩
    · rintro (h1 | ⟨h1, h3, h4⟩)
      · rcases List.mem_cons.1 h1 with e | e
        · exact .inl e
        · exact .inr (.inl e)
      · rcases List.mem_cons.1 h1 with e1 | e1
        · subst e1; rw [has_cons, show (y.1 == z.1) = true from beq_iff_eq.2 e.symm] at h3; cases h3
        · exact .inr (.inr ⟨e1, by rw [← hc e1]; exact h3, h4⟩)
theorem mv_srt (gone : List Int) : ∀ (a c : List (Int × Int)), Srt a → Srt c → Srt (mv a c gone) := by
  intro a c
  have hm := mv_mem gone
  induction a, c using mg.induct with
  | case1 b =>
    intro _ hb
    unfold mv
    rw [mg_nil, List.filterMap_map, show (outP gone ∘ prA) = some from funext fun y => outP_A gone y, List.filterMap_some]; exact hb
  | case2 x a =>
    intro ha _
    unfold mv
    rw [mg_nil', List.filterMap_map]
    unfold Srt at ha ⊢
    rw [List.pairwise_filterMap]
    refine ha.imp fun {u v} huv z hz t ht => ?_
    simp only [Function.comp_apply] at hz ht
    by_cases h1 : u.1 ∈ gone
    · rw [outP_Bt h1] at hz; cases hz
    · by_cases h2 : v.1 ∈ gone
      · rw [outP_Bt h2] at ht; cases ht
      · rw [outP_Bf h1] at hz; rw [outP_Bf h2] at ht; cases hz; cases ht; exact huv
  | case3 x a y b h ih =>
    intro ha hb
    have ih := ih ha.tail hb
    unfold mv at ih ⊢
    rw [mg_lt h]
    by_cases hg : x.1 ∈ gone
    · rw [List.filterMap_cons_none (by first | exact outP_Bt hg | exact outP_Bf hg)]; exact ih
    · rw [List.filterMap_cons_some (b := x) (by first | exact outP_Bt hg | exact outP_Bf hg)]
      refine List.pairwise_cons.2 ⟨fun z hz => ?_, ih⟩
      rcases (hm a (y :: b) ha.tail hb z).1 hz with h1 | ⟨h1, -, -⟩
      · rcases List.mem_cons.1 h1 with e | e
        · subst e; exact h
        · have := hb.head z e; omega
      · exact ha.head z h1
  | case4 x a y b h h2 ih =>
    intro ha hb
    have ih := ih ha hb.tail
    unfold mv at ih ⊢
    rw [mg_gt h2, List.filterMap_cons_some (b := y) (outP_A gone y)]
    refine List.pairwise_cons.2 ⟨fun z hz => ?_, ih⟩
    rcases (hm (x :: a) b ha hb.tail z).1 hz with h1 | ⟨h1, -, -⟩
    · exact hb.head z h1
    · rcases List.mem_cons.1 h1 with e | e
      · subst e; exact h2
      · have := ha.head z e; omega
  | case5 x a y b h h2 ih =>
    intro ha hb
    have ih := ih ha.tail hb.tail
    have e : x.1 = y.1 := by omega
    unfold mv at ih ⊢
    rw [mg_eq e, List.filterMap_cons_some (b := y) (outP_X gone x y)]
    refine List.pairwise_cons.2 ⟨fun z hz => ?_, ih⟩
    rcases (hm a b ha.tail hb.tail z).1 hz with h1 | ⟨h1, -, -⟩
    · exact hb.head z h1
    · have := ha.head z h1; omega
end Go.Proofs.Ytcgndeggemceaaa
