/- Dec28, Idx28, Map28, Rem28 (merged by merge.py). -/
import Derived.Test.YtodfeaipoagphaaZ301
import Derived.Deep.QuietTactic
import Derived.BigQuiet
import Derived.Maps.OwnSet
import Derived.WalkArith
import Derived.Carry
/- Package snapshot: the decoder: fail, number, index. -/
namespace Go.Proofs.Ytodfeaipoagphaa
open Go.RowKit

structure IsDec (w : World) (p : Nat) (ro : Option Addr) (rest : List Nat) (rc : Nat) (e : Nat) : Prop where
  head : w.heap[p]? = some (.cells #[.slice ro rest.length rc, .int .i64 (e : Int)] 104 (0, 0))
  rd : Rd w 1 ro rest.length (bts rest)
  fit : rest.length ≤ rc
  cap : rc ≤ maxLen
  out : p ∉ blk ro
def DecTo (w : World) (p : Nat) (ro : Option Addr) (rest : List Nat) (e : Nat) (w' : World) : Prop := ∃ ro' rc', IsDec w' p ro' rest rc' e ∧ Fr [p] w w' ∧ ∀ k ∈ blk ro', k ∈ blk ro
theorem IsDec.old {w w' : World} {p : Nat} {ro : Option Addr} {rest : List Nat} {rc e : Nat} (h : IsDec w p ro rest rc e) (hf : Fr [] w w') : IsDec w' p ro rest rc e := ⟨hf.blk h.head (by simp), h.rd.fr hf (by simp), h.fit, h.cap, h.out⟩
theorem IsDec.to {w w' : World} {p : Nat} {ro : Option Addr} {rest : List Nat} {rc e : Nat} (h : IsDec w p ro rest rc e) (hf : Fr [] w w') : DecTo w p ro rest e w' := ⟨ro, rc, h.old hf, hf.mono (by simp), fun _ hk => hk⟩
theorem DecTo.then {w w1 w2 : World} {p : Nat} {ro ro1 : Option Addr} {rest : List Nat} {e : Nat} (hf : Fr [p] w w1) (hb : ∀ k ∈ blk ro1, k ∈ blk ro) (h : DecTo w1 p ro1 rest e w2) : DecTo w p ro rest e w2 := by
  obtain ⟨ro', rc', a, b, c⟩ := h
  exact ⟨ro', rc', a, hf.trans b (Ext.refl _ _), fun k hk => hb k (c k hk)⟩

def failE (e x : Nat) : Nat := if e = 0 then x else e
set_option maxHeartbeats 1000000 in
theorem fail_any {w : World} {p : Nat} {ro : Option Addr} {rest : List Nat} {rc e : Nat} (h : IsDec w p ro rest rc e) (x : Nat) :
    Calls Try.prog 51 #[.pointer (some ⟨p, 0, none⟩), .int .i64 (x : Int)] w fun r w' => r = .returned (.tuple #[]) ∧ IsDec w' p ro rest rc (failE e x) ∧ Fr [p] w w' := by
  have c1 : w.cell? ⟨p, 1, none⟩ = some (.int .i64 (e : Int)) := cell_blk h.head 1
  have f1 : w.frozen? ⟨p, 1, none⟩ = false := frozen_blk h.head 1
  have H := Lib.hid h
  clear h
  by_cases he : e = 0
  · have e1 : ((e : Int) == 0) = true := beq_iff_eq.2 (by omega)
    have HE := Lib.hid (by unfold failE; rw [if_pos he] : failE e x = x)
    clear he
    go_enter Try.func51, Try.ntmps51
    go_wp2
    go_end0
    have hs : Fr [p] w (w.setCell ⟨p, 1, none⟩ (.int .i64 (x : Int))) := (Fr.refl _ _).setCell (.inl (by simp)) _
    refine ⟨rfl, ?_, hs⟩
    rw [HE.out]
    exact ⟨setCell_blk H.out.head 1 _, H.out.rd.fr hs (fun k hk => by have := H.out.out; intro hm; simp at hm; subst hm; exact this hk), H.out.fit, H.out.cap, H.out.out⟩
  · have e1 : ((e : Int) == 0) = false := beq_eq_false_iff_ne.2 (by omega)
    have HE := Lib.hid (by unfold failE; rw [if_neg he] : failE e x = e)
    clear he
    go_enter Try.func51, Try.ntmps51
    go_wp2
    go_end0
    exact ⟨rfl, by rw [HE.out]; exact H.out, Fr.refl _ _⟩

/-! ### number -/
/-- the same reading, the number so far at hand -/
def readA : Nat → Nat → Nat → List Nat → Rdr Nat
  | 0, _, _, _ => .bad 8
  | _ + 1, _, _, [] => .bad 7
  | k + 1, i, n, c :: r => if c < 128 then (if (0 < i ∧ c = 0) ∨ (i = 9 ∧ 1 < c) then .bad 8 else .ok (n + c * 128 ^ i) r) else readA k (i + 1) (n + c % 128 * 128 ^ i) r
theorem readA_eq : ∀ (k i n : Nat) (l : List Nat), readA k i n l = match readG k i l with | .bad e => .bad e | .ok m r => .ok (n + m * 128 ^ i) r := by
  intro k
  induction k with
  | zero => intro i n l; rfl
  | succ k ih =>
    intro i n l
    cases l with
    | nil => rfl
    | cons c r =>
      rw [readA, readG]
      by_cases h : c < 128
      · rw [if_pos h, if_pos h]
        by_cases h2 : (0 < i ∧ c = 0) ∨ (i = 9 ∧ 1 < c)
        · rw [if_pos h2, if_pos h2]
        · rw [if_neg h2, if_neg h2]
      · rw [if_neg h, if_neg h, ih]
        cases readG k (i + 1) r with
        | bad e => rfl
        | ok m r' =>
          simp only
          congr 1
          rw [Nat.pow_succ, Nat.add_mul, Nat.add_assoc, Nat.mul_comm (128 ^ i) 128, ← Nat.mul_assoc, Nat.mul_comm m 128]
theorem readA_zero (l : List Nat) : readA 10 0 0 l = readV l := by
  rw [readA_eq]
  unfold readV
  cases readG 10 0 l with
  | bad e => rfl
  | ok m r => simp
def rdrN : Rdr Nat → Nat
  | .bad _ => 0
  | .ok n _ => n
def rdrR (rest : List Nat) : Rdr Nat → List Nat
  | .bad _ => rest
  | .ok _ r => r
def rdrE : Rdr Nat → Nat
  | .bad x => x
  | .ok _ _ => 0
def numN (rest : List Nat) (e : Nat) : Nat := if e = 0 then rdrN (readV rest) else 0
def numR (rest : List Nat) (e : Nat) : List Nat := if e = 0 then rdrR rest (readV rest) else rest
def numE (rest : List Nat) (e : Nat) : Nat := if e = 0 then rdrE (readV rest) else e

theorem and127' (x : Nat) (hx : x < 256) : bits BinOp.and IntKind.u8 (x : Int) 127 = ((x % 128 : Nat) : Int) := by
  have h : ∀ y : Fin 256, y.val &&& 127 = y.val % 128 := by decide +kernel
  rw [show (127 : Int) = ((127 : Nat) : Int) from rfl, bits_and_u8 _ _ hx (by omega)]
  have := h ⟨x, hx⟩
  simp only at this
  rw [this]
theorem or_lowB (n a k : Nat) (h : n < 2 ^ k) : n ||| a * 2 ^ k = n + a * 2 ^ k := by
  rw [Nat.or_comm, Nat.mul_comm, ← Nat.two_pow_add_eq_or_of_lt h, Nat.add_comm]
theorem digit64 (n y i : Nat) (hi : i ≤ 9) (hn : n < 128 ^ i) (hy : y < 128) (hf : i ≤ 8 ∨ y ≤ 1) : bits BinOp.or IntKind.u64 (n : Int) (IntKind.u64.wrap ((y : Int) * 2 ^ (7 * i))) = ((n + y * 128 ^ i : Nat) : Int) := by
  have e2 : (2 : Nat) ^ (7 * i) = 128 ^ i := by rw [Nat.pow_mul]
  have hm : y * 128 ^ i < 18446744073709551616 := by
    rcases Nat.lt_or_ge i 9 with h | h
    · have hp : (128 : Nat) ^ i ≤ 128 ^ 8 := Nat.pow_le_pow_right (by omega) (by omega)
      have : y * 128 ^ i ≤ 127 * 128 ^ 8 := Nat.mul_le_mul (by omega) hp
      omega
    · have : i = 9 := by omega
      subst this
      have : y ≤ 1 := by omega
      omega
  have hn2 : n < 18446744073709551616 := by
    have hp : (128 : Nat) ^ i ≤ 128 ^ 9 := Nat.pow_le_pow_right (by omega) (by omega)
    omega
  have e1 : (y : Int) * 2 ^ (7 * i) = ((y * 128 ^ i : Nat) : Int) := by
    rw [show (2 : Int) ^ (7 * i) = ((2 ^ (7 * i) : Nat) : Int) by rw [Int.natCast_pow]; rfl, e2, Int.natCast_mul]
  rw [e1, IntWalk.u64_in _ (by omega), Go.u64_or_nat _ _ hn2 hm, ← e2, or_lowB _ _ _ (by rw [e2]; exact hn)]
theorem next_lt {n y i : Nat} (hn : n < 128 ^ i) (hy : y < 128) : n + y * 128 ^ i < 128 ^ (i + 1) := by
  rw [Nat.pow_succ]
  have : y * 128 ^ i ≤ 127 * 128 ^ i := Nat.mul_le_mul_right _ (by omega)
  omega
theorem cut_rdB {w : World} {g off cap i : Nat} {l : List Nat} (h : Rd w 1 (some ⟨g, off, none⟩) l.length (bts l)) (hi : i ≤ l.length) (hc : l.length ≤ cap) : Rd w 1 (cutA (some ⟨g, off, none⟩) i cap 1) (l.drop i).length (bts (l.drop i)) := by
  obtain ⟨e1, e2, e3⟩ := h
  refine ⟨by simp [bts_length], by rw [List.length_drop]; omega, ?_⟩
  rcases Nat.eq_or_lt_of_le hi with h0 | h0
  · left; rw [List.length_drop]; omega
  · rcases e3 with e3 | ⟨g', off', ha, hg, hcc⟩
    · omega
    · cases ha
      refine .inr ⟨g, off + i * 1, cutA_ne (by omega), hg, fun j hj => ?_⟩
      rw [List.length_drop] at hj
      have := hcc (i + j) (by omega)
      rw [show off + i * 1 + j = off + (i + j) by omega, this]
      simp [bts, List.getElem?_drop]

def NumTo (w : World) (p : Nat) (ro : Option Addr) (n : Nat) (rest : List Nat) (e : Nat) (r : Ending) (w' : World) : Prop := r = .returned (.int .u64 (n : Int)) ∧ DecTo w p ro rest e w'
theorem numTo_bad {w w' : World} {p : Nat} {ro : Option Addr} {rest : List Nat} {rc x : Nat} {R : Rdr Nat} (hR : R = .bad x) (hd : IsDec w' p ro rest rc (failE 0 x)) (hx : x ≠ 0) (hf : Fr [p] w w') : NumTo w p ro (rdrN R) (rdrR rest R) (rdrE R) (.returned (.int .u64 0)) w' := by
  subst hR
  refine ⟨rfl, ro, rc, ?_, hf, fun _ h => h⟩
  simpa [failE, rdrR, rdrE] using hd

set_option maxRecDepth 100000 in
set_option maxHeartbeats 8000000 in
theorem number_any {w : World} {p : Nat} {ro : Option Addr} {rest : List Nat} {rc e : Nat} (h : IsDec w p ro rest rc e) (hb : BytesB rest) :
    Calls Try.prog 57 #[.pointer (some ⟨p, 0, none⟩)] w (NumTo w p ro (numN rest e) (numR rest e) (numE rest e)) := by
  have hlen : rest.length ≤ 9223372036854775807 := by have := h.rd.2.1; unfold maxLen at this; omega
  have hcap : rc ≤ 9223372036854775807 := by have := h.cap; unfold maxLen at this; omega
  have H := Lib.hid h
  have HB := Lib.hid hb
  have c0 : w.cell? ⟨p, 0, none⟩ = some (.slice ro rest.length rc) := cell_blk h.head 0
  have c1 : w.cell? ⟨p, 1, none⟩ = some (.int .i64 (e : Int)) := cell_blk h.head 1
  have f0 : w.frozen? ⟨p, 0, none⟩ = false := frozen_blk h.head 0
  have hfit := h.fit
  by_cases he : e = 0
  · have e1 : ((e : Int) != 0) = false := by rw [he]; rfl
    obtain ⟨R, hR⟩ : ∃ R, R = readV rest := ⟨_, rfl⟩
    have HN := Lib.hid (by unfold numN; rw [if_pos he, ← hR] : numN rest e = rdrN R)
    have HRR := Lib.hid (by unfold numR; rw [if_pos he, ← hR] : numR rest e = rdrR rest R)
    have HEE := Lib.hid (by unfold numE; rw [if_pos he, ← hR] : numE rest e = rdrE R)
    have HS := Lib.hid (.inl ⟨by omega, 0, rfl, by omega, by rw [List.drop_zero, readA_zero, hR]⟩ : (0 ≤ 9 ∧ ∃ N : Nat, Value.int .u64 0 = .int .u64 (N : Int) ∧ N < 128 ^ 0 ∧ readA (10 - 0) 0 N (rest.drop 0) = R) ∨ (0 = 10 ∧ R = .bad 8))
    have HE0 := Lib.hid he
    have HX8 := Lib.hid (fun (hRb : R = .bad 8) => (fail_any h 8).mono (fun r w' hw => (⟨hw.1, by have := numTo_bad hRb (by rw [← he]; exact hw.2.1) (by omega) hw.2.2; rw [HN.out, HRR.out, HEE.out]; exact this⟩ : r = .returned (.tuple #[]) ∧ NumTo w p ro (numN rest e) (numR rest e) (numE rest e) (.returned (.int .u64 0)) w')))
    have HX7 := Lib.hid (fun (hRb : R = .bad 7) => (fail_any h 7).mono (fun r w' hw => (⟨hw.1, by have := numTo_bad hRb (by rw [← he]; exact hw.2.1) (by omega) hw.2.2; rw [HN.out, HRR.out, HEE.out]; exact this⟩ : r = .returned (.tuple #[]) ∧ NumTo w p ro (numN rest e) (numR rest e) (numE rest e) (.returned (.int .u64 0)) w')))
    clear h hb hR he
    go_enter Try.func57, Try.ntmps57
    go_wp2_with fail
    go_loopw [3, 11] (fun nv iv wr => ∃ i : Nat, i ≤ rest.length ∧ iv = .int .i64 (i : Int) ∧ wr = w ∧ ((i ≤ 9 ∧ ∃ N : Nat, nv = .int .u64 (N : Int) ∧ N < 128 ^ i ∧ readA (10 - i) i N (rest.drop i) = R) ∨ (i = 10 ∧ R = .bad 8))) (fun _ iv _ => 10 - (intOf iv).toNat)
    case atStart => exact ⟨0, by omega, rfl, rfl, HS.out⟩
    case round =>
      clear HS
      obtain ⟨i, hil, rfl, rfl, ⟨hi9, N, rfl, hN, hR⟩ | ⟨hi10, hR⟩⟩ := hrel
      · have hi10 : i < 10 := by omega
        by_cases hl : i < rest.length
        · obtain ⟨g, off, rfl, hg, hcc⟩ := H.out.rd.at (by omega)
          have cx : wr.cell? ⟨g, off + i, none⟩ = some (.int .u8 ((rest[i] : Nat) : Int)) := by
            rw [hcc i (by omega), bts_get, List.getElem?_eq_getElem hl]; rfl
          have hx : rest[i] < 256 := HB.out _ (List.getElem_mem hl)
          have hdr : rest.drop i = rest[i] :: rest.drop (i + 1) := List.drop_eq_getElem_cons hl
          obtain ⟨k, hk⟩ : ∃ k, 10 - i = k + 1 := ⟨9 - i, by omega⟩
          rw [hdr, hk, readA] at hR
          obtain ⟨x, hx2⟩ : ∃ x, x = rest[i] := ⟨_, rfl⟩
          rw [← hx2] at cx hx hR
          have HX := Lib.hid hx2
          have HR := Lib.hid hR
          have HNl := Lib.hid hN
          have HK := Lib.hid hk
          have ha := and127' x hx
          have hneb : ((i : Int) == (rest.length : Int)) = false := beq_eq_false_iff_ne.2 (by omega)
          have w7 : IntKind.i64.wrap (7 * (i : Int)) = 7 * (i : Int) := IntWalk.i64_in _ (by omega)
          have w8 : IntKind.i64.wrap ((i : Int) + 1) = (i : Int) + 1 := IntWalk.i64_in _ (by omega)
          have wu : IntKind.u64.wrap (((x % 128 : Nat) : Int)) = ((x % 128 : Nat) : Int) := IntWalk.u64_in _ (by omega)
          obtain ⟨y, hy⟩ : ∃ y, y = x % 128 := ⟨_, rfl⟩
          have hyl : y < 128 := by omega
          rw [← hy] at ha wu
          obtain ⟨M, hM⟩ : ∃ M : Int, bits BinOp.or IntKind.u64 (N : Int) (IntKind.u64.wrap ((y : Int) * 2 ^ (7 * i))) = M := ⟨_, rfl⟩
          have HM := Lib.hid (fun hf => hM.symm.trans (digit64 N y i hi9 HNl.out hyl hf))
          have HY := Lib.hid hy
          have HCUT := Lib.hid (cut_rdB (i := i + 1) H.out.rd (show i + 1 ≤ rest.length by omega) hfit)
          clear hcc hdr hR hN hk hx2 hy
          by_cases hx8 : x < 128
          · have hRe := HR.out
            rw [if_pos hx8] at hRe
            by_cases hbad : (0 < i ∧ x = 0) ∨ (i = 9 ∧ 1 < x)
            · rw [if_pos hbad] at hRe
              have HCL := Lib.hid (HX8.out hRe.symm)
              rcases hbad with ⟨hz1, hz2⟩ | ⟨hz1, hz2⟩
              · have hzb : ((x : Int) == 0) = true := beq_iff_eq.2 (by omega)
                clear hRe hz2 HR
                go_wp2_with fail
                refine HCL.out.mono ?_
                rintro r w2 ⟨rfl, hn⟩
                go_wp2
                go_ret
                exact hn
              · have hzb : ((x : Int) == 0) = false := beq_eq_false_iff_ne.2 (by omega)
                have h9b : ((i : Int) == 9) = true := beq_iff_eq.2 (by omega)
                have hi0 : 0 < i := by omega
                clear hRe hz1 HR
                go_wp2_with fail
                refine HCL.out.mono ?_
                rintro r w2 ⟨rfl, hn⟩
                go_wp2
                go_ret
                exact hn
            · rw [if_neg hbad] at hRe
              have hyx : y = x := by rw [HY.out]; exact Nat.mod_eq_of_lt hx8
              have hME : M = ((N + x * 128 ^ i : Nat) : Int) := by rw [← hyx]; exact HM.out (by rw [hyx]; omega)
              have HF := Lib.hid (show NumTo wr p (some ⟨g, off, none⟩) (rdrN R) (rdrR rest R) (rdrE R) (.returned (.int .u64 M)) (wr.setCell ⟨p, 0, none⟩ (.slice (cutA (some ⟨g, off, none⟩) (i + 1) rc 1) (rest.length - (i + 1)) (rc - (i + 1)))) by
                have hs : Fr [p] wr (wr.setCell ⟨p, 0, none⟩ (.slice (cutA (some ⟨g, off, none⟩) (i + 1) rc 1) (rest.length - (i + 1)) (rc - (i + 1)))) := (Fr.refl _ _).setCell (.inl (by simp)) _
                have hbk : ∀ k ∈ blk (cutA (some ⟨g, off, none⟩) (i + 1) rc 1), k ∈ blk (some (⟨g, off, none⟩ : Addr)) := fun k hk => by rw [blk_cutA] at hk; exact hk
                have hgp : p ∉ blk (some (⟨g, off, none⟩ : Addr)) := H.out.out
                rw [← hRe]
                refine ⟨by simp only [rdrN]; rw [hME], _, rc - (i + 1), ?_, hs, hbk⟩
                simp only [rdrR, rdrE]
                have hl2 : (rest.drop (i + 1)).length = rest.length - (i + 1) := List.length_drop
                refine ⟨?_, HCUT.out.fr hs (fun k hk hm => ?_), by rw [hl2]; omega, by have := H.out.cap; omega, fun hm => hgp (hbk _ hm)⟩
                · rw [hl2]
                  have := setCell_blk H.out.head 0 (.slice (cutA (some ⟨g, off, none⟩) (i + 1) rc 1) (rest.length - (i + 1)) (rc - (i + 1)))
                  rw [HE0.out] at this
                  exact this
                · simp at hm; subst hm; exact hgp (hbk _ hk))
              clear hME hyx hRe HR
              have hsl : ∀ u : World, (Instr.slice 33 (.slice (some ⟨g, off, none⟩) rest.length rc) (some (.int .i64 ((i : Int) + 1))) none none).run Try.prog u = .ok (.slice (cutA (some ⟨g, off, none⟩) (i + 1) rc 1) (rest.length - (i + 1)) (rc - (i + 1))) u := fun u => by
                have := run_slice_from (P := Try.prog) 33 5 Try.underlying33 1 (by kernel_rfl) (some ⟨g, off, none⟩) rest.length rc (i + 1) (by omega) u
                exact this
              rcases Nat.eq_zero_or_pos i with hi0 | hi0
              · have hg0 : ¬ 0 < i := by omega
                have h9b : ((i : Int) == 9) = false := beq_eq_false_iff_ne.2 (by omega)
                clear hi0 hbad
                go_wp2_with fail
                go_ret
                rw [HN.out, HRR.out, HEE.out]
                exact HF.out
              · have hzb : ((x : Int) == 0) = false := beq_eq_false_iff_ne.2 (by omega)
                rcases Nat.lt_or_ge i 9 with h9 | h9
                · have h9b : ((i : Int) == 9) = false := beq_eq_false_iff_ne.2 (by omega)
                  clear hbad
                  go_wp2_with fail
                  go_ret
                  rw [HN.out, HRR.out, HEE.out]
                  exact HF.out
                · have h9b : ((i : Int) == 9) = true := beq_iff_eq.2 (by omega)
                  have hx1 : ¬ 1 < x := by omega
                  clear hbad
                  go_wp2_with fail
                  go_ret
                  rw [HN.out, HRR.out, HEE.out]
                  exact HF.out
          · have hRe := HR.out
            rw [if_neg hx8] at hRe
            have HRE := Lib.hid (show (i + 1 ≤ 9 ∧ ∃ N' : Nat, Value.int .u64 M = .int .u64 (N' : Int) ∧ N' < 128 ^ (i + 1) ∧ readA (10 - (i + 1)) (i + 1) N' (rest.drop (i + 1)) = R) ∨ (i + 1 = 10 ∧ R = .bad 8) by
              rcases Nat.lt_or_ge i 9 with h9 | h9
              · exact .inl ⟨by omega, N + y * 128 ^ i, by rw [HM.out (.inl (by omega))], next_lt HNl.out hyl, by rw [HY.out, show 10 - (i + 1) = k by have := HK.out; omega]; exact hRe⟩
              · exact .inr ⟨by omega, by rw [← hRe, show k = 0 by have := HK.out; omega, readA]⟩)
            clear hRe HR
            go_wp2_with fail
            go_roundw
            case rel => exact ⟨i + 1, by omega, by go_num, by trivial, HRE.out⟩
            case measure => simp [intOf]; omega
        · have hRe := hR
          rw [List.drop_of_length_le (by omega)] at hRe
          have hRb : R = .bad 7 := by rw [← hRe]; obtain ⟨k, hk⟩ : ∃ k, 10 - i = k + 1 := ⟨9 - i, by omega⟩; rw [hk, readA]
          have heb : ((i : Int) == (rest.length : Int)) = true := beq_iff_eq.2 (by omega)
          have HCL := Lib.hid (HX7.out hRb)
          clear hRe hR hN hRb
          go_wp2_with fail
          refine HCL.out.mono ?_
          rintro r w2 ⟨rfl, hn⟩
          go_wp2
          go_ret
          exact hn
      · have hi : i = 10 := hi10
        have HCL := Lib.hid (HX8.out hR)
        clear hR
        go_wp2_with fail
        refine HCL.out.mono ?_
        rintro r w2 ⟨rfl, hn⟩
        go_wp2
        go_ret
        exact hn
  · have e1 : ((e : Int) != 0) = true := bne_iff_ne.2 (by omega)
    have HN := Lib.hid (by unfold numN; rw [if_neg he] : numN rest e = 0)
    have HRR := Lib.hid (by unfold numR; rw [if_neg he] : numR rest e = rest)
    have HEE := Lib.hid (by unfold numE; rw [if_neg he] : numE rest e = e)
    clear h he hb
    go_enter Try.func57, Try.ntmps57
    go_wp2_with fail
    go_ret
    exact ⟨by rw [HN.out]; rfl, by rw [HRR.out, HEE.out]; exact H.out.to (Fr.refl _ _)⟩
end Go.Proofs.Ytodfeaipoagphaa
/- Package snapshot: the decoder: index. -/
namespace Go.Proofs.Ytodfeaipoagphaa
open Go.RowKit

def ixV (prev : Int) (g : Nat) : Int := match idxN prev g with | none => prev | some k => k
def ixE (prev : Int) (g e : Nat) : Nat := match idxN prev g with | none => failE e 8 | some _ => e
theorem ixV_bd {prev : Int} (g : Nat) (hp : -1 ≤ prev ∧ prev ≤ maxI) : -1 ≤ ixV prev g ∧ ixV prev g ≤ maxI := by
  unfold ixV
  cases h : idxN prev g with
  | none => exact hp
  | some k => obtain ⟨h1, h2, h3⟩ := idxN_inv h; exact ⟨by show -1 ≤ k; omega, h2⟩
theorem numN_lt {rest : List Nat} (e : Nat) (hb : BytesB rest) : numN rest e < 18446744073709551616 := by
  unfold numN
  split
  · cases h : readV rest with
    | bad x => show 0 < 18446744073709551616; omega
    | ok n r => exact (readV_ok hb h).2
  · omega
theorem numR_bytes {rest : List Nat} (e : Nat) (hb : BytesB rest) : BytesB (numR rest e) := by
  unfold numR
  split
  · cases h : readV rest with
    | bad x => exact hb
    | ok n r =>
      intro x hx
      exact hb x (by rw [(readV_ok hb h).1]; exact List.mem_append_right _ hx)
  · exact hb

def IdxTo (w : World) (p : Nat) (ro : Option Addr) (k : Int) (rest : List Nat) (e : Nat) (r : Ending) (w' : World) : Prop := r = .returned (.int .i64 k) ∧ DecTo w p ro rest e w'

set_option maxRecDepth 100000 in
set_option maxHeartbeats 8000000 in
theorem index_any {w : World} {p : Nat} {ro : Option Addr} {rest : List Nat} {rc e : Nat} (h : IsDec w p ro rest rc e) (hb : BytesB rest) {prev : Int} (hp : -1 ≤ prev ∧ prev ≤ maxI) :
    Calls Try.prog 58 #[.pointer (some ⟨p, 0, none⟩), .int .i64 prev] w (IdxTo w p ro (ixV prev (numN rest e)) (numR rest e) (ixE prev (numN rest e) (numE rest e))) := by
  have HNUM := Lib.hid (number_any h hb)
  have hn := numN_lt e hb
  obtain ⟨n, hn2⟩ : ∃ n, n = numN rest e := ⟨_, rfl⟩
  rw [← hn2] at HNUM hn ⊢
  obtain ⟨R, hR⟩ : ∃ R, R = numR rest e := ⟨_, rfl⟩
  obtain ⟨E, hE⟩ : ∃ E, E = numE rest e := ⟨_, rfl⟩
  rw [← hR, ← hE] at HNUM ⊢
  unfold maxI at hp
  clear h hb hn2 hR hE
  have w1 : IntKind.i64.wrap (2147483647 - prev) = 2147483647 - prev := IntWalk.i64_in _ (by omega)
  have w2 : IntKind.i64.wrap (2147483647 - prev - 1) = 2147483647 - prev - 1 := IntWalk.i64_in _ (by omega)
  have w3 : IntKind.i64.wrap (prev + 1) = prev + 1 := IntWalk.i64_in _ (by omega)
  by_cases hm : prev = 2147483647
  · have hi : idxN prev n = none := by unfold idxN maxI; rw [if_pos (.inr hm)]
    have HV := Lib.hid (by unfold ixV; rw [hi] : ixV prev n = prev)
    have HE := Lib.hid (by unfold ixE; rw [hi] : ixE prev n E = failE E 8)
    have w4 : IntKind.u64.wrap (2147483647 - prev - 1) = 18446744073709551615 := by rw [hm]; decide
    have hgt : ¬ (18446744073709551615 : Int) < (n : Int) := by omega
    have heb : (prev == 2147483647) = true := beq_iff_eq.2 hm
    clear hi hm
    go_enter Try.func58, Try.ntmps58
    go_wp2_with fail
    refine HNUM.out.mono ?_
    rintro r wn ⟨rfl, ro1, rc1, hd, hf, hbk⟩
    have HD := Lib.hid hd
    have HF := Lib.hid hf
    clear hd hf
    go_wp2_with fail
    refine (fail_any HD.out 8).mono ?_
    rintro r wf ⟨rfl, hd2, hf2⟩
    have HD2 := Lib.hid hd2
    have HF2 := Lib.hid hf2
    clear hd2 hf2
    go_wp2
    go_ret
    exact ⟨by rw [HV.out]; rfl, by rw [HE.out]; exact ⟨ro1, rc1, HD2.out, HF.out.trans HF2.out (Ext.refl _ _), hbk⟩⟩
  · have heb : (prev == 2147483647) = false := beq_eq_false_iff_ne.2 hm
    have w4 : IntKind.u64.wrap (2147483647 - prev - 1) = 2147483647 - prev - 1 := IntWalk.u64_in _ (by omega)
    by_cases hg : 2147483647 - prev - 1 < (n : Int)
    · have hi : idxN prev n = none := by unfold idxN maxI; rw [if_pos (.inl hg)]
      have HV := Lib.hid (by unfold ixV; rw [hi] : ixV prev n = prev)
      have HE := Lib.hid (by unfold ixE; rw [hi] : ixE prev n E = failE E 8)
      clear hi hm
      go_enter Try.func58, Try.ntmps58
      go_wp2_with fail
      refine HNUM.out.mono ?_
      rintro r wn ⟨rfl, ro1, rc1, hd, hf, hbk⟩
      have HD := Lib.hid hd
      have HF := Lib.hid hf
      clear hd hf
      go_wp2_with fail
      refine (fail_any HD.out 8).mono ?_
      rintro r wf ⟨rfl, hd2, hf2⟩
      have HD2 := Lib.hid hd2
      have HF2 := Lib.hid hf2
      clear hd2 hf2
      go_wp2
      go_ret
      exact ⟨by rw [HV.out]; rfl, by rw [HE.out]; exact ⟨ro1, rc1, HD2.out, HF.out.trans HF2.out (Ext.refl _ _), hbk⟩⟩
    · have hi : idxN prev n = some (prev + 1 + (n : Int)) := by unfold idxN maxI; rw [if_neg (fun q => q.elim hg hm)]
      have HV := Lib.hid (by unfold ixV; rw [hi] : ixV prev n = prev + 1 + (n : Int))
      have HE := Lib.hid (by unfold ixE; rw [hi] : ixE prev n E = E)
      have w5 : IntKind.i64.wrap (n : Int) = (n : Int) := IntWalk.i64_in _ (by omega)
      have w6 : IntKind.i64.wrap (prev + 1 + (n : Int)) = prev + 1 + (n : Int) := IntWalk.i64_in _ (by omega)
      clear hi hm
      go_enter Try.func58, Try.ntmps58
      go_wp2_with fail
      refine HNUM.out.mono ?_
      rintro r wn ⟨rfl, ro1, rc1, hd, hf, hbk⟩
      have HD := Lib.hid hd
      have HF := Lib.hid hf
      clear hd hf
      go_wp2_with fail
      go_ret
      exact ⟨by rw [HV.out]; rfl, by rw [HE.out]; exact ⟨ro1, rc1, HD.out, HF.out, hbk⟩⟩
end Go.Proofs.Ytodfeaipoagphaa
/- Chapter 28: the maps that Apply makes: int → int and the set of int. -/
namespace Go.Proofs.Ytodfeaipoagphaa
open Go.RowKit Go.Maps

theorem lawI : Keyed Try.prog 3 := int_keyed Try.underlying3
theorem zeroI (w : World) : (zeroValue 3).run Try.prog w = .ok (.int .i64 0) w := by kernel_rfl
theorem zeroU (w : World) : (zeroValue 109).run Try.prog w = .ok (.agg #[]) w := by kernel_rfl
theorem WF {k : Int} (h : bd64 k) : (Lit.int .i64 k).wf = true := WalkArith.wf_i64 h
theorem keyI {k : Int} (h : bd64 k) : keyOf Try.prog 3 (.int .i64 k) = some (.int .i64 k) := keyOf_int_mk Try.underlying3 (WF h)
/-- block b is a map of at most n entries in which just the k with hs k lie, and gv k is what k holds (zero else) -/
def IsM (w : World) (b n : Nat) (hs : Int → Bool) (gv : Int → Int) : Prop := ∃ D : DataW Unit, w.ownsMap Try.prog 3 (plainElem Try.prog 3) b n D ∧ ∀ k, bd64 k → Maps.has D (.int .i64 k) = hs k ∧ D.atKey (.int .i64 k) (.lit (.int .i64 0)) = .lit (.int .i64 (gv k))
def IsS (w : World) (b n : Nat) (hs : Int → Bool) : Prop := ∃ D : DataW Unit, w.ownsMap Try.prog 3 unitElem b n D ∧ ∀ k, bd64 k → Maps.has D (.int .i64 k) = hs k
theorem IsM.lt {w : World} {b n : Nat} {hs : Int → Bool} {gv : Int → Int} (h : IsM w b n hs gv) : b < w.heap.size := let ⟨_, h1, _⟩ := h; h1.lt
theorem IsS.lt {w : World} {b n : Nat} {hs : Int → Bool} (h : IsS w b n hs) : b < w.heap.size := let ⟨_, h1, _⟩ := h; h1.lt
theorem IsM.fr {w w' : World} {b n : Nat} {hs : Int → Bool} {gv : Int → Int} {S : List Nat} (h : IsM w b n hs gv) (hf : Fr S w w') (hb : b ∉ S) : IsM w' b n hs gv := by
  obtain ⟨D, ⟨es, clock, h1, h2⟩, h3⟩ := h
  exact ⟨D, ⟨es, clock, hf.blk h1 hb, h2⟩, h3⟩
theorem IsS.fr {w w' : World} {b n : Nat} {hs : Int → Bool} {S : List Nat} (h : IsS w b n hs) (hf : Fr S w w') (hb : b ∉ S) : IsS w' b n hs := by
  obtain ⟨D, ⟨es, clock, h1, h2⟩, h3⟩ := h
  exact ⟨D, ⟨es, clock, hf.blk h1 hb, h2⟩, h3⟩
theorem IsM.congr {w : World} {b n m : Nat} {hs hs' : Int → Bool} {gv gv' : Int → Int} (h : IsM w b n hs gv) (hn : n ≤ m) (h1 : ∀ k, bd64 k → hs k = hs' k) (h2 : ∀ k, bd64 k → gv k = gv' k) : IsM w b m hs' gv' := by
  obtain ⟨D, a, c⟩ := h
  exact ⟨D, a.mono hn, fun k hk => ⟨by rw [← h1 k hk]; exact (c k hk).1, by rw [← h2 k hk]; exact (c k hk).2⟩⟩
theorem IsS.congr {w : World} {b n m : Nat} {hs hs' : Int → Bool} (h : IsS w b n hs) (hn : n ≤ m) (h1 : ∀ k, bd64 k → hs k = hs' k) : IsS w b m hs' := by
  obtain ⟨D, a, c⟩ := h
  exact ⟨D, a.mono hn, fun k hk => by rw [← h1 k hk]; exact c k hk⟩
theorem mapTurned_fr {w w' : World} {b : Nat} (h : w.mapTurned w' b) : Fr [b] w w' := by
  obtain ⟨es, clock, es', clock', hb, rfl⟩ := h
  refine ⟨rfl, rfl, rfl, by simp [ChangeMaps.setBlock], fun k hk hn => ?_⟩
  exact ChangeMaps.heap_setBlock_other hb _ (by simpa using hn)
theorem IsM.look {w : World} {b n : Nat} {hs : Int → Bool} {gv : Int → Int} (h : IsM w b n hs gv) {k : Int} (hk : bd64 k) : (Instr.lookup 101 (.map (some b)) (.int .i64 k) true).run Try.prog w = .ok (.tuple #[.int .i64 (gv k), .bool (hs k)]) w := by
  obtain ⟨D, a, c⟩ := h
  obtain ⟨c1, c2⟩ := c k hk
  obtain ⟨v, ps, hr, hv⟩ := a.look_ok lawI Try.underlying101 (zeroI w) (plainElem_int (a := 0) Try.underlying3 (by decide)) (keyI hk)
  rw [hr, c1]
  obtain ⟨x, rfl, hx, -⟩ := plainElem_int_inv Try.underlying3 hv
  rw [c2] at hx
  cases hx
  rfl
theorem IsS.look {w : World} {b n : Nat} {hs : Int → Bool} (h : IsS w b n hs) {k : Int} (hk : bd64 k) : (Instr.lookup 105 (.map (some b)) (.int .i64 k) true).run Try.prog w = .ok (.tuple #[.agg #[], .bool (hs k)]) w := by
  obtain ⟨D, a, c⟩ := h
  obtain ⟨v, ps, hr, hv⟩ := a.look_ok lawI Try.underlying105 (zeroU w) unitElem_mk (keyI hk)
  rw [hr, c k hk]
  obtain ⟨rfl, -⟩ := unitElem_inv hv
  rfl
theorem key_is {k : Int} : WideAt.IsKeyLit (.int .i64 k) := by trivial
theorem key_ne {x k : Int} (h : x ≠ k) : (Lit.int .i64 x) ≠ (Lit.int .i64 k) := fun e => h (by cases e; rfl)
theorem IsM.store {w : World} {b n : Nat} {hs : Int → Bool} {gv : Int → Int} (h : IsM w b n hs gv) (hn : n < maxLen) {k v : Int} (hk : bd64 k) (hv : bd64 v) :
    ∃ w', (Instr.mapUpdate 101 (.map (some b)) (.int .i64 k) (.int .i64 v)).run Try.prog w = .ok () w' ∧ IsM w' b (n + 1) (fun x => x == k || hs x) (fun x => if x = k then v else gv x) ∧ Fr [b] w w' := by
  obtain ⟨D, a, c⟩ := h
  obtain ⟨w', hr, ho, ht⟩ := a.store lawI Try.underlying101 hn (keyI hk) (plainElem_int Try.underlying3 (WF hv))
  refine ⟨w', hr, ⟨_, ho, fun x hx => ?_⟩, mapTurned_fr ht⟩
  by_cases e : x = k
  · subst e
    exact ⟨by rw [has_put_same a.isMap key_is]; simp, by rw [atKey_put_same a.isMap key_is]; simp⟩
  · have e2 : (x == k) = false := beq_eq_false_iff_ne.2 e
    exact ⟨by rw [has_put_other (key_ne e)]; simp only [e2, Bool.false_or]; exact (c x hx).1, by rw [atKey_put_other (key_ne e)]; simp only [if_neg e]; exact (c x hx).2⟩
theorem IsS.store {w : World} {b n : Nat} {hs : Int → Bool} (h : IsS w b n hs) (hn : n < maxLen) {k : Int} (hk : bd64 k) :
    ∃ w', (Instr.mapUpdate 105 (.map (some b)) (.int .i64 k) (.agg #[])).run Try.prog w = .ok () w' ∧ IsS w' b (n + 1) (fun x => x == k || hs x) ∧ Fr [b] w w' := by
  obtain ⟨D, a, c⟩ := h
  obtain ⟨w', hr, ho, ht⟩ := a.store lawI Try.underlying105 hn (keyI hk) unitElem_mk
  refine ⟨w', hr, ⟨_, ho, fun x hx => ?_⟩, mapTurned_fr ht⟩
  by_cases e : x = k
  · subst e
    rw [has_put_same a.isMap key_is]; simp
  · have e2 : (x == k) = false := beq_eq_false_iff_ne.2 e
    rw [has_put_other (key_ne e)]; simp only [e2, Bool.false_or]; exact c x hx
theorem isM_made (w : World) : IsM (w.alloc (.map #[] 0)) w.heap.size 0 (fun _ => false) (fun _ => 0) := ⟨.map [], World.ownsMap_made _ _ _ _, fun _ _ => ⟨rfl, rfl⟩⟩
theorem isS_made (w : World) : IsS (w.alloc (.map #[] 0)) w.heap.size 0 (fun _ => false) := ⟨.map [], World.ownsMap_made _ _ _ _, fun _ _ => rfl⟩
end Go.Proofs.Ytodfeaipoagphaa
/- Package snapshot: the decoder: removed. -/
namespace Go.Proofs.Ytodfeaipoagphaa
open Go.RowKit Go.Maps

def preR (G : List Int) : Rdr (List Int) → Rdr (List Int)
  | .bad e => .bad e
  | .ok l r => .ok (G ++ l) r
def remR (a : List (Int × Int)) (rest : List Nat) : Rdr (List Int) := match readV rest with
  | .bad e => .bad e
  | .ok n r => remP a n (-1) r
theorem preR_nil (x : Rdr (List Int)) : preR [] x = x := by cases x <;> rfl
theorem failE_ne {e x : Nat} (h : e ≠ 0) : failE e x = e := by unfold failE; rw [if_neg h]
theorem failE_z (x : Nat) : failE 0 x = x := by unfold failE; rw [if_pos rfl]
def okE (b : Bool) (e : Nat) : Nat := if b then e else failE e 8
theorem numR_len {rest : List Nat} (e : Nat) (hb : BytesB rest) : (numR rest e).length ≤ rest.length := by
  unfold numR
  split
  · cases h : readV rest with
    | bad x => exact Nat.le_refl _
    | ok n r => rw [(readV_ok hb h).1]; simp [rdrR]
  · exact Nat.le_refl _
theorem numR_lt {rest : List Nat} (hb : BytesB rest) (h : numE rest 0 = 0) : (numR rest 0).length < rest.length := by
  unfold numE at h
  unfold numR
  rw [if_pos rfl] at h ⊢
  cases hv : readV rest with
  | bad x => rw [hv] at h; have := readV_bad hv; have h' : x = 0 := h; omega
  | ok n r =>
    have := varN_len_pos n
    have e : rest.length = (varN n).length + r.length := by rw [← List.length_append, ← (readV_ok hb hv).1]
    simp only [rdrR]
    omega
theorem ixE_zero {prev : Int} {g e : Nat} (h : ixE prev g e = 0) : e = 0 := by
  unfold ixE at h
  cases hi : idxN prev g with
  | none => rw [hi] at h; unfold failE at h; simp only at h; split at h <;> omega
  | some k => rw [hi] at h; exact h
theorem okE_zero {b : Bool} {e : Nat} (h : okE b e = 0) : e = 0 := by
  unfold okE failE at h
  split at h
  · exact h
  · split at h <;> omega
theorem rem_step (a : List (Int × Int)) (n : Nat) (prev : Int) (rest : List Nat) (G : List Int) (R : Rdr (List Int)) (h : preR G (remP a (n + 1) prev rest) = R) :
    (okE (has a (ixV prev (numN rest 0))) (ixE prev (numN rest 0) (numE rest 0)) = 0 ∧ preR (G ++ [ixV prev (numN rest 0)]) (remP a n (ixV prev (numN rest 0)) (numR rest 0)) = R) ∨
    (okE (has a (ixV prev (numN rest 0))) (ixE prev (numN rest 0) (numE rest 0)) ≠ 0 ∧ R = .bad (okE (has a (ixV prev (numN rest 0))) (ixE prev (numN rest 0) (numE rest 0)))) := by
  rw [remP] at h
  cases hv : readV rest with
  | bad e =>
    rw [hv] at h
    have he : e ≠ 0 := by have := readV_bad hv; omega
    have e1 : numE rest 0 = e := by unfold numE; rw [if_pos rfl, hv]; rfl
    have e2 : ∀ g, ixE prev g e = e := fun g => by
      unfold ixE
      cases idxN prev g with
      | none => exact failE_ne he
      | some k => rfl
    have e3 : ∀ b, okE b e = e := fun b => by unfold okE; split; rfl; exact failE_ne he
    rw [e1, e2, e3]
    exact .inr ⟨he, h.symm⟩
  | ok g r =>
    rw [hv] at h
    simp only at h
    have e1 : numE rest 0 = 0 := by unfold numE; rw [if_pos rfl, hv]; rfl
    have e2 : numN rest 0 = g := by unfold numN; rw [if_pos rfl, hv]; rfl
    have e3 : numR rest 0 = r := by unfold numR; rw [if_pos rfl, hv]; rfl
    rw [e1, e2, e3]
    cases hi : idxN prev g with
    | none =>
      rw [hi] at h
      have f1 : ixE prev g 0 = 8 := by unfold ixE; rw [hi]; rfl
      have f2 : ∀ b, okE b 8 = 8 := fun b => by unfold okE; split <;> rfl
      rw [f1, f2]
      exact .inr ⟨by omega, h.symm⟩
    | some k =>
      rw [hi] at h
      simp only at h
      have f1 : ixE prev g 0 = 0 := by unfold ixE; rw [hi]
      have f2 : ixV prev g = k := by unfold ixV; rw [hi]
      rw [f1, f2]
      cases hh : has a k with
      | false =>
        rw [hh] at h
        exact .inr ⟨by decide, h.symm⟩
      | true =>
        rw [hh] at h
        simp only [cond_true] at h
        refine .inl ⟨rfl, ?_⟩
        rw [← h]
        cases remP a n k r with
        | bad e => rfl
        | ok l r' => simp [preR]

def RemTo (w : World) (p : Nat) (ro : Option Addr) (len : Nat) (R : Rdr (List Int)) (r : Ending) (w' : World) : Prop := ∃ (G : List Int) (m : Nat) (r' : List Nat) (e' : Nat) (ro' : Option Addr) (rc' : Nat),
  r = .returned (.map (some w.heap.size)) ∧ IsDec w' p ro' r' rc' e' ∧ BytesB r' ∧ r'.length ≤ len ∧ (∀ k ∈ blk ro', k ∈ blk ro) ∧ Fr [p] w w' ∧ IsS w' w.heap.size m (inL G) ∧ ((e' = 0 ∧ R = .ok G r') ∨ (e' ≠ 0 ∧ R = .bad e'))
/-- the state at the head of a round -/
structure RemAt (w wr : World) (p : Nat) (ro : Option Addr) (len : Nat) (a : List (Int × Int)) (R : Rdr (List Int)) (prev : Int) (n : Nat) (G : List Int) (m : Nat) (r : List Nat) (e : Nat) (ro2 : Option Addr) (rc2 : Nat) : Prop where
  hp : -1 ≤ prev ∧ prev ≤ maxI
  hn : n < 18446744073709551616
  dec : IsDec wr p ro2 r rc2 e
  bts : BytesB r
  hl : r.length ≤ len
  hb : ∀ k ∈ blk ro2, k ∈ blk ro
  fr : Fr [p] w wr
  set : IsS wr w.heap.size m (inL G)
  st : (e = 0 ∧ preR G (remP a n prev r) = R ∧ m + r.length ≤ len) ∨ (e ≠ 0 ∧ R = .bad e)
theorem inL_snoc (G : List Int) (k x : Int) : (x == k || inL G x) = inL (G ++ [k]) x := by
  unfold inL
  rw [Bool.eq_iff_iff]
  simp [or_comm]
/-- a round: what the next state is -/
theorem RemAt.next {w wr w1 w2 w3 : World} {p : Nat} {ro : Option Addr} {len : Nat} {a : List (Int × Int)} {R : Rdr (List Int)} {prev : Int} {n : Nat} {G : List Int} {m : Nat} {r : List Nat} {ro2 ro3 : Option Addr} {rc2 rc3 : Nat} (h : RemAt w wr p ro len a R prev (n + 1) G m r 0 ro2 rc2) (hpw : p < w.heap.size)
    (hf1 : Fr [p] wr w1) (hbk : ∀ k ∈ blk ro3, k ∈ blk ro2) (hf2 : Fr [p] w1 w2) (hd : IsDec w2 p ro3 (numR r 0) rc3 (okE (has a (ixV prev (numN r 0))) (ixE prev (numN r 0) (numE r 0))))
    (hs : IsS w3 w.heap.size (m + 1) (fun x => x == ixV prev (numN r 0) || inL G x)) (hf3 : Fr [w.heap.size] w2 w3) (hro : w.heap.size ∉ blk ro) :
    RemAt w w3 p ro len a R (ixV prev (numN r 0)) n (G ++ [ixV prev (numN r 0)]) (m + 1) (numR r 0) (okE (has a (ixV prev (numN r 0))) (ixE prev (numN r 0) (numE r 0))) ro3 rc3 := by
  have hne : p ∉ [w.heap.size] := by simp; omega
  have hbk2 : ∀ k ∈ blk ro3, k ∈ blk ro := fun k hk => h.hb k (hbk k hk)
  refine ⟨ixV_bd _ h.hp, by have := h.hn; omega, ⟨hf3.blk hd.head hne, hd.rd.fr hf3 (fun k hk hm => ?_), hd.fit, hd.cap, hd.out⟩, numR_bytes 0 h.bts, Nat.le_trans (numR_len 0 h.bts) h.hl, hbk2, ((h.fr.trans hf1 (Ext.refl _ _)).trans hf2 (Ext.refl _ _)).trans hf3 (fun k hk => .inr (by simp at hk; omega)), hs.congr (Nat.le_refl _) (fun x _ => inL_snoc _ _ _), ?_⟩
  · simp at hm; subst hm; exact hro (hbk2 _ hk)
  · rcases h.st with ⟨-, hR, hm⟩ | ⟨h0, -⟩
    · rcases rem_step a n prev r G R hR with ⟨e1, e2⟩ | ⟨e1, e2⟩
      · exact .inl ⟨e1, e2, by have := numR_lt h.bts (ixE_zero (okE_zero e1)); omega⟩
      · exact .inr ⟨e1, e2⟩
    · exact absurd rfl h0

set_option maxRecDepth 100000 in
set_option maxHeartbeats 8000000 in
theorem removed_any {w : World} {p : Nat} {ro : Option Addr} {rest : List Nat} {rc : Nat} (h : IsDec w p ro rest rc 0) (hb : BytesB rest) (hlen : rest.length < 4611686018427387904) {a : List (Int × Int)} {bv nv : Nat} (hm : IsM w bv nv (has a) (getv a)) (hvp : bv ≠ p) (hrb : ∀ k ∈ blk ro, k < w.heap.size) :
    Calls Try.prog 49 #[.pointer (some ⟨p, 0, none⟩), .map (some bv)] w (RemTo w p ro rest.length (remR a rest)) := by
  have hpw : p < w.heap.size := lt_of_blk h.head
  have HVP := Lib.hid hvp
  have HPW := Lib.hid hpw
  have HM := Lib.hid hm
  have hro : w.heap.size ∉ blk ro := fun hk => by have := hrb _ hk; omega
  have HRO := Lib.hid hro
  have hmm := @run_makeMap Try.prog
  obtain ⟨W, hW⟩ : ∃ W, W = w.alloc (.map #[] 0) := ⟨_, rfl⟩
  have hfW : Fr [] w W := by rw [hW]; exact (Fr.refl _ _).alloc _
  have HFW := Lib.hid hfW
  have HSW := Lib.hid (by rw [hW]; exact isS_made w : IsS W w.heap.size 0 (fun _ => false))
  have HNUM := Lib.hid (number_any (h.old hfW) hb)
  have HLEN := Lib.hid hlen
  obtain ⟨R, hR⟩ : ∃ R, R = remR a rest := ⟨_, rfl⟩
  rw [← hR]
  have HR := Lib.hid hR
  have HST := Lib.hid (fun (W1 : World) (ro1 : Option Addr) (rc1 : Nat) (hd : IsDec W1 p ro1 (numR rest 0) rc1 (numE rest 0)) (hf : Fr [p] W W1) (hbk : ∀ k ∈ blk ro1, k ∈ blk ro) => (⟨by unfold maxI; omega, numN_lt 0 hb, hd, numR_bytes 0 hb, numR_len 0 hb, hbk, (hfW.mono (by simp)).trans hf (Ext.refl _ _), HSW.out.fr hf (by simp; omega), by
      rw [hR]
      unfold remR numN numR numE
      simp only [if_pos]
      cases hv : readV rest with
      | bad e => exact .inr ⟨by have := readV_bad hv; show e ≠ 0; omega, rfl⟩
      | ok n r => exact .inl ⟨rfl, preR_nil _, by have := numR_len 0 hb; unfold numR at this; rw [if_pos rfl, hv] at this; omega⟩⟩ : RemAt w W1 p ro rest.length a R (-1) (numN rest 0) [] 0 (numR rest 0) (numE rest 0) ro1 rc1))
  clear h hb hlen hm hvp hpw hro hfW hR
  obtain ⟨n0, hn0⟩ : ∃ n0, n0 = numN rest 0 := ⟨_, rfl⟩
  rw [← hn0] at HNUM HST
  clear hn0
  go_enter Try.func49, Try.ntmps49
  go_wp2_with fail
  rw [← hW]
  clear hW
  refine HNUM.out.mono ?_
  rintro r w1 ⟨rfl, ro1, rc1, hd, hf, hbk⟩
  have HS := Lib.hid (HST.out _ _ _ hd hf hbk)
  clear hd hf hbk
  go_wp2_with fail
  go_loopw [6, 7] (fun iv nv' wr => ∃ (prev : Int) (n : Nat) (G : List Int) (m : Nat) (r : List Nat) (e : Nat) (ro2 : Option Addr) (rc2 : Nat), iv = .int .i64 prev ∧ nv' = .int .u64 (n : Int) ∧ RemAt w wr p ro rest.length a R prev n G m r e ro2 rc2) (fun _ nv' _ => (intOf nv').toNat)
  case atStart => exact ⟨-1, n0, [], 0, _, _, _, _, rfl, rfl, HS.out⟩
  case round =>
    clear HS
    obtain ⟨prev, n, G, m, r, e, ro2, rc2, rfl, rfl, hat⟩ := hrel
    have HA := Lib.hid hat
    have c1 : wr.cell? ⟨p, 1, none⟩ = some (.int .i64 (e : Int)) := cell_blk hat.dec.head 1
    have hn := hat.hn
    have hmR : ∀ u : World, Fr [p] wr u → IsM u bv nv (has a) (getv a) := fun u hu => (HM.out.fr hat.fr (by simp; exact HVP.out)).fr hu (by simp; exact HVP.out)
    have HMR := Lib.hid hmR
    clear hat hmR
    have hend : (n = 0 ∨ e ≠ 0) → RemTo w p ro rest.length R (.returned (.map (some w.heap.size))) wr := fun hc => by
      refine ⟨G, m, r, e, ro2, rc2, rfl, HA.out.dec, HA.out.bts, HA.out.hl, HA.out.hb, HA.out.fr, HA.out.set, ?_⟩
      rcases HA.out.st with ⟨h1, h2, -⟩ | h1
      · have h0 : n = 0 := by rcases hc with hc | hc; exact hc; exact absurd h1 hc
        subst h0
        exact .inl ⟨h1, by rw [← h2]; simp [remP, preR]⟩
      · exact .inr h1
    have HEND := Lib.hid hend
    clear hend
    rcases Nat.eq_zero_or_pos n with h0 | h0
    · have hg0 : ¬ 0 < n := by omega
      have hc0 : decide ((0 : Int) < (n : Int)) = false := decide_eq_false (by omega)
      have HR0 := Lib.hid (HEND.out (.inl h0))
      clear h0
      go_wp2_with fail
      go_ret
      exact HR0.out
    · have hc0 : decide ((0 : Int) < (n : Int)) = true := decide_eq_true (by omega)
      by_cases he : e = 0
      · have e1 : ((e : Int) == 0) = true := beq_iff_eq.2 (by omega)
        subst he
        obtain ⟨n', rfl⟩ : ∃ n', n = n' + 1 := ⟨n - 1, by omega⟩
        have HIX := Lib.hid (index_any HA.out.dec HA.out.bts HA.out.hp)
        have hkb : bd64 (ixV prev (numN r 0)) := by have := ixV_bd (numN r 0) HA.out.hp; unfold maxI at this; unfold bd64; omega
        have hml : m < maxLen := by
          have := HLEN.out
          rcases HA.out.st with ⟨-, -, q⟩ | ⟨q, -⟩
          · unfold maxLen; omega
          · exact absurd rfl q
        have HNX := Lib.hid (fun (w1 w2 w3 : World) (ro3 : Option Addr) (rc3 : Nat) a1 a2 a3 a4 a5 a6 => HA.out.next (w1 := w1) (w2 := w2) (w3 := w3) (ro3 := ro3) (rc3 := rc3) HPW.out a1 a2 a3 a4 a5 a6 HRO.out)
        obtain ⟨k, hk⟩ : ∃ k, k = ixV prev (numN r 0) := ⟨_, rfl⟩
        obtain ⟨E, hE⟩ : ∃ E, E = ixE prev (numN r 0) (numE r 0) := ⟨_, rfl⟩
        obtain ⟨r1, hr1⟩ : ∃ r1, r1 = numR r 0 := ⟨_, rfl⟩
        rw [← hk] at HIX hkb HNX
        rw [← hE] at HIX HNX
        rw [← hr1] at HIX HNX
        have HKB := Lib.hid hkb
        have HML := Lib.hid hml
        have wn : IntKind.u64.wrap (((n' + 1 : Nat) : Int) - 1) = (n' : Int) := by rw [show ((n' + 1 : Nat) : Int) - 1 = (n' : Int) by omega]; exact IntWalk.u64_in _ (by omega)
        clear hk hE hr1 hkb hml HEND
        go_wp2_with fail
        refine HIX.out.mono ?_
        rintro rr w1 ⟨rfl, ro3, rc3, hd, hf, hbk⟩
        have hlk := (HMR.out _ hf).look HKB.out
        have HD := Lib.hid hd
        have HF := Lib.hid hf
        have HBK := Lib.hid hbk
        have HS1 := Lib.hid (HA.out.set.fr hf (by simp; have := HPW.out; omega))
        clear hd hf hbk
        cases hh : has a k with
        | true =>
          rw [hh] at hlk HNX
          obtain ⟨w3, hst, hs3, hf3⟩ := HS1.out.store HML.out HKB.out
          have HN := Lib.hid (HNX.out _ _ _ _ _ HF.out HBK.out (Fr.refl _ _) HD.out hs3 hf3)
          clear hs3 hf3
          go_wp2_with fail
          go_roundw
          case rel => exact ⟨k, n', G ++ [k], m + 1, r1, _, ro3, rc3, by go_num, by go_num, HN.out⟩
          case measure => simp [intOf]
        | false =>
          rw [hh] at hlk HNX
          go_wp2_with fail
          refine (fail_any HD.out 8).mono ?_
          rintro rr w2 ⟨rfl, hd2, hf2⟩
          obtain ⟨w3, hst, hs3, hf3⟩ := (HS1.out.fr hf2 (by simp; have := HPW.out; omega)).store HML.out HKB.out
          have HN := Lib.hid (HNX.out _ _ _ _ _ HF.out HBK.out hf2 hd2 hs3 hf3)
          clear hs3 hf3 hd2 hf2
          go_wp2_with fail
          go_roundw
          case rel => exact ⟨k, n', G ++ [k], m + 1, r1, _, ro3, rc3, by go_num, by go_num, HN.out⟩
          case measure => simp [intOf]
      · have e1 : ((e : Int) == 0) = false := beq_eq_false_iff_ne.2 (by omega)
        have HR0 := Lib.hid (HEND.out (.inr he))
        clear he
        go_wp2_with fail
        go_ret
        exact HR0.out
end Go.Proofs.Ytodfeaipoagphaa
