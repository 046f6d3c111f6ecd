/- Package snapshot: the decoder: fail, number, index. -/
import Derived.Test.YtcgndeggemceaaaApp28
import Derived.Test.YtcgndeggemceaaaApplyP
import Derived.Deep.QuietTactic
import Derived.BigQuiet
namespace Go.Proofs.Ytcgndeggemceaaa
open Go.RowKit

structure IsDec (w : World) (p : Nat) (ro : Option Addr) (rest : List Nat) (rc : Nat) (e : Nat) : Prop where
  head : w.heap[p]? = some (.cells #[.slice ro rest.length rc, .int .i64 (e : Int)] 75 (0, 0))
  rd : Rd w 1 ro rest.length (bts rest)
  fit : rest.length ≤ rc
  cap : rc ≤ maxLen
  out : p ∉ blk ro
def DecTo (w : World) (p : Nat) (ro : Option Addr) (rest : List Nat) (e : Nat) (w' : World) : Prop := ∃ ro' rc', IsDec w' p ro' rest rc' e ∧ Fr [p] w w' ∧ ∀ k ∈ blk ro', k ∈ blk ro
theorem IsDec.old {w w' : World} {p : Nat} {ro : Option Addr} {rest : List Nat} {rc e : Nat} (h : IsDec w p ro rest rc e) (hf : Fr [] w w') : IsDec w' p ro rest rc e := ⟨hf.blk h.head (by simp), h.rd.fr hf (by simp), h.fit, h.cap, h.out⟩
theorem IsDec.to {w w' : World} {p : Nat} {ro : Option Addr} {rest : List Nat} {rc e : Nat} (h : IsDec w p ro rest rc e) (hf : Fr [] w w') : DecTo w p ro rest e w' := ⟨ro, rc, h.old hf, hf.mono (by simp), fun _ hk => hk⟩
theorem DecTo.then {w w1 w2 : World} {p : Nat} {ro ro1 : Option Addr} {rest : List Nat} {e : Nat} (hf : Fr [p] w w1) (hb : ∀ k ∈ blk ro1, k ∈ blk ro) (h : DecTo w1 p ro1 rest e w2) : DecTo w p ro rest e w2 := by
  obtain ⟨ro', rc', a, b, c⟩ := h
  exact ⟨ro', rc', a, hf.trans b (Ext.refl _ _), fun k hk => hb k (c k hk)⟩

def failE (e x : Nat) : Nat := if e = 0 then x else e
set_option maxHeartbeats 1000000 in
theorem fail_any {w : World} {p : Nat} {ro : Option Addr} {rest : List Nat} {rc e : Nat} (h : IsDec w p ro rest rc e) (x : Nat) :
    Calls Try.prog 39 #[.pointer (some ⟨p, 0, none⟩), .int .i64 (x : Int)] w fun r w' => r = .returned (.tuple #[]) ∧ IsDec w' p ro rest rc (failE e x) ∧ Fr [p] w w' := by
  have c1 : w.cell? ⟨p, 1, none⟩ = some (.int .i64 (e : Int)) := cell_blk h.head 1
  have f1 : w.frozen? ⟨p, 1, none⟩ = false := frozen_blk h.head 1
  have H := Lib.hid h
  clear h
  by_cases he : e = 0
  · have e1 : ((e : Int) == 0) = true := beq_iff_eq.2 (by omega)
    have HE := Lib.hid (by unfold failE; rw [if_pos he] : failE e x = x)
    clear he
    go_enter Try.func39, Try.ntmps39
    go_wp2
    go_end0
    have hs : Fr [p] w (w.setCell ⟨p, 1, none⟩ (.int .i64 (x : Int))) := (Fr.refl _ _).setCell (.inl (by simp)) _
    refine ⟨rfl, ?_, hs⟩
    rw [HE.out]
    exact ⟨setCell_blk H.out.head 1 _, H.out.rd.fr hs (fun k hk => by have := H.out.out; intro hm; simp at hm; subst hm; exact this hk), H.out.fit, H.out.cap, H.out.out⟩
  · have e1 : ((e : Int) == 0) = false := beq_eq_false_iff_ne.2 (by omega)
    have HE := Lib.hid (by unfold failE; rw [if_neg he] : failE e x = e)
    clear he
    go_enter Try.func39, Try.ntmps39
    go_wp2
    go_end0
    exact ⟨rfl, by rw [HE.out]; exact H.out, Fr.refl _ _⟩

/-! ### number -/
/-- the same reading, the number so far at hand -/
def readA : Nat → Nat → Nat → List Nat → Rdr Nat
  | 0, _, _, _ => .bad 8
  | _ + 1, _, _, [] => .bad 7
  | k + 1, i, n, c :: r => if c < 128 then (if (0 < i ∧ c = 0) ∨ (i = 9 ∧ 1 < c) then .bad 8 else .ok (n + c * 128 ^ i) r) else readA k (i + 1) (n + c % 128 * 128 ^ i) r
theorem readA_eq : ∀ (k i n : Nat) (l : List Nat), readA k i n l = match readG k i l with | .bad e => .bad e | .ok m r => .ok (n + m * 128 ^ i) r := by
  intro k
  induction k with
  | zero => intro i n l; rfl
  | succ k ih =>
    intro i n l
    cases l with
    | nil => rfl
    | cons c r =>
      rw [readA, readG]
      by_cases h : c < 128
      · rw [if_pos h, if_pos h]
        by_cases h2 : (0 < i ∧ c = 0) ∨ (i = 9 ∧ 1 < c)
        · rw [if_pos h2, if_pos h2]
        · rw [if_neg h2, if_neg h2]
      · rw [if_neg h, if_neg h, ih]
        cases readG k (i + 1) r with
        | bad e => rfl
        | ok m r' =>
          simp only
          congr 1
          rw [Nat.pow_succ, Nat.add_mul, Nat.add_assoc, Nat.mul_comm (128 ^ i) 128, ← Nat.mul_assoc, Nat.mul_comm m 128]
theorem readA_zero (l : List Nat) : readA 10 0 0 l = readV l := by
  rw [readA_eq]
  unfold readV
  cases readG 10 0 l with
  | bad e => rfl
  | ok m r => simp
def rdrN : Rdr Nat → Nat
  | .bad _ => 0
  | .ok n _ => n
def rdrR (rest : List Nat) : Rdr Nat → List Nat
  | .bad _ => rest
  | .ok _ r => r
def rdrE : Rdr Nat → Nat
  | .bad x => x
  | .ok _ _ => 0
def numN (rest : List Nat) (e : Nat) : Nat := if e = 0 then rdrN (readV rest) else 0
def numR (rest : List Nat) (e : Nat) : List Nat := if e = 0 then rdrR rest (readV rest) else rest
def numE (rest : List Nat) (e : Nat) : Nat := if e = 0 then rdrE (readV rest) else e

theorem and127' (x : Nat) (hx : x < 256) : bits BinOp.and IntKind.u8 (x : Int) 127 = ((x % 128 : Nat) : Int) := by
  have h : ∀ y : Fin 256, y.val &&& 127 = y.val % 128 := by decide +kernel
  rw [show (127 : Int) = ((127 : Nat) : Int) from rfl, bits_and_u8 _ _ hx (by omega)]
  have := h ⟨x, hx⟩
  simp only at this
  rw [this]
theorem or_lowB (n a k : Nat) (h : n < 2 ^ k) : n ||| a * 2 ^ k = n + a * 2 ^ k := by
  rw [Nat.or_comm, Nat.mul_comm, ← Nat.two_pow_add_eq_or_of_lt h, Nat.add_comm]
theorem digit64 (n y i : Nat) (hi : i ≤ 9) (hn : n < 128 ^ i) (hy : y < 128) (hf : i ≤ 8 ∨ y ≤ 1) : bits BinOp.or IntKind.u64 (n : Int) (IntKind.u64.wrap ((y : Int) * 2 ^ (7 * i))) = ((n + y * 128 ^ i : Nat) : Int) := by
  have e2 : (2 : Nat) ^ (7 * i) = 128 ^ i := by rw [Nat.pow_mul]
  have hm : y * 128 ^ i < 18446744073709551616 := by
    rcases Nat.lt_or_ge i 9 with h | h
    · have hp : (128 : Nat) ^ i ≤ 128 ^ 8 := Nat.pow_le_pow_right (by omega) (by omega)
      have : y * 128 ^ i ≤ 127 * 128 ^ 8 := Nat.mul_le_mul (by omega) hp
      omega
    · have : i = 9 := by omega
      subst this
      have : y ≤ 1 := by omega
      omega
  have hn2 : n < 18446744073709551616 := by
    have hp : (128 : Nat) ^ i ≤ 128 ^ 9 := Nat.pow_le_pow_right (by omega) (by omega)
    omega
  have e1 : (y : Int) * 2 ^ (7 * i) = ((y * 128 ^ i : Nat) : Int) := by
    rw [show (2 : Int) ^ (7 * i) = ((2 ^ (7 * i) : Nat) : Int) by rw [Int.natCast_pow]; rfl, e2, Int.natCast_mul]
  rw [e1, IntWalk.u64_in _ (by omega), Go.u64_or_nat _ _ hn2 hm, ← e2, or_lowB _ _ _ (by rw [e2]; exact hn)]
theorem next_lt {n y i : Nat} (hn : n < 128 ^ i) (hy : y < 128) : n + y * 128 ^ i < 128 ^ (i + 1) := by
  rw [Nat.pow_succ]
  have : y * 128 ^ i ≤ 127 * 128 ^ i := Nat.mul_le_mul_right _ (by omega)
  omega
theorem cut_rdB {w : World} {g off cap i : Nat} {l : List Nat} (h : Rd w 1 (some ⟨g, off, none⟩) l.length (bts l)) (hi : i ≤ l.length) (hc : l.length ≤ cap) : Rd w 1 (cutA (some ⟨g, off, none⟩) i cap 1) (l.drop i).length (bts (l.drop i)) := by
  obtain ⟨e1, e2, e3⟩ := h
  refine ⟨by simp [bts_length], by rw [List.length_drop]; omega, ?_⟩
  rcases Nat.eq_or_lt_of_le hi with h0 | h0
  · left; rw [List.length_drop]; omega
  · rcases e3 with e3 | ⟨g', off', ha, hg, hcc⟩
    · omega
    · cases ha
      refine .inr ⟨g, off + i * 1, cutA_ne (by omega), hg, fun j hj => ?_⟩
      rw [List.length_drop] at hj
      have := hcc (i + j) (by omega)
      rw [show off + i * 1 + j = off + (i + j) by omega, this]
      simp [bts, List.getElem?_drop]

def NumTo (w : World) (p : Nat) (ro : Option Addr) (n : Nat) (rest : List Nat) (e : Nat) (r : Ending) (w' : World) : Prop := r = .returned (.int .u64 (n : Int)) ∧ DecTo w p ro rest e w'
theorem numTo_bad {w w' : World} {p : Nat} {ro : Option Addr} {rest : List Nat} {rc x : Nat} {R : Rdr Nat} (hR : R = .bad x) (hd : IsDec w' p ro rest rc (failE 0 x)) (hx : x ≠ 0) (hf : Fr [p] w w') : NumTo w p ro (rdrN R) (rdrR rest R) (rdrE R) (.returned (.int .u64 0)) w' := by
  subst hR
  refine ⟨rfl, ro, rc, ?_, hf, fun _ h => h⟩
  simpa [failE, rdrR, rdrE] using hd

set_option maxRecDepth 100000 in
set_option maxHeartbeats 8000000 in
theorem number_any {w : World} {p : Nat} {ro : Option Addr} {rest : List Nat} {rc e : Nat} (h : IsDec w p ro rest rc e) (hb : BytesB rest) :
    Calls Try.prog 52 #[.pointer (some ⟨p, 0, none⟩)] w (NumTo w p ro (numN rest e) (numR rest e) (numE rest e)) := by
  have hlen : rest.length ≤ 9223372036854775807 := by have := h.rd.2.1; unfold maxLen at this; omega
  have hcap : rc ≤ 9223372036854775807 := by have := h.cap; unfold maxLen at this; omega
  have H := Lib.hid h
  have HB := Lib.hid hb
  have c0 : w.cell? ⟨p, 0, none⟩ = some (.slice ro rest.length rc) := cell_blk h.head 0
  have c1 : w.cell? ⟨p, 1, none⟩ = some (.int .i64 (e : Int)) := cell_blk h.head 1
  have f0 : w.frozen? ⟨p, 0, none⟩ = false := frozen_blk h.head 0
  have hfit := h.fit
  by_cases he : e = 0
  · have e1 : ((e : Int) != 0) = false := by rw [he]; rfl
    obtain ⟨R, hR⟩ : ∃ R, R = readV rest := ⟨_, rfl⟩
    have HN := Lib.hid (by unfold numN; rw [if_pos he, ← hR] : numN rest e = rdrN R)
    have HRR := Lib.hid (by unfold numR; rw [if_pos he, ← hR] : numR rest e = rdrR rest R)
    have HEE := Lib.hid (by unfold numE; rw [if_pos he, ← hR] : numE rest e = rdrE R)
    have HS := Lib.hid (.inl ⟨by omega, 0, rfl, by omega, by rw [List.drop_zero, readA_zero, hR]⟩ : (0 ≤ 9 ∧ ∃ N : Nat, Value.int .u64 0 = .int .u64 (N : Int) ∧ N < 128 ^ 0 ∧ readA (10 - 0) 0 N (rest.drop 0) = R) ∨ (0 = 10 ∧ R = .bad 8))
    have HE0 := Lib.hid he
    have HX8 := Lib.hid (fun (hRb : R = .bad 8) => (fail_any h 8).mono (fun r w' hw => (⟨hw.1, by have := numTo_bad hRb (by rw [← he]; exact hw.2.1) (by omega) hw.2.2; rw [HN.out, HRR.out, HEE.out]; exact this⟩ : r = .returned (.tuple #[]) ∧ NumTo w p ro (numN rest e) (numR rest e) (numE rest e) (.returned (.int .u64 0)) w')))
    have HX7 := Lib.hid (fun (hRb : R = .bad 7) => (fail_any h 7).mono (fun r w' hw => (⟨hw.1, by have := numTo_bad hRb (by rw [← he]; exact hw.2.1) (by omega) hw.2.2; rw [HN.out, HRR.out, HEE.out]; exact this⟩ : r = .returned (.tuple #[]) ∧ NumTo w p ro (numN rest e) (numR rest e) (numE rest e) (.returned (.int .u64 0)) w')))
    clear h hb hR he
    go_enter Try.func52, Try.ntmps52
    go_wp2_with fail
    go_loopw [3, 11] (fun nv iv wr => ∃ i : Nat, i ≤ rest.length ∧ iv = .int .i64 (i : Int) ∧ wr = w ∧ ((i ≤ 9 ∧ ∃ N : Nat, nv = .int .u64 (N : Int) ∧ N < 128 ^ i ∧ readA (10 - i) i N (rest.drop i) = R) ∨ (i = 10 ∧ R = .bad 8))) (fun _ iv _ => 10 - (intOf iv).toNat)
    case atStart => exact ⟨0, by omega, rfl, rfl, HS.out⟩
    case round =>
      clear HS
      obtain ⟨i, hil, rfl, rfl, ⟨hi9, N, rfl, hN, hR⟩ | ⟨hi10, hR⟩⟩ := hrel
      · have hi10 : i < 10 := by omega
        by_cases hl : i < rest.length
        · obtain ⟨g, off, rfl, hg, hcc⟩ := H.out.rd.at (by omega)
          have cx : wr.cell? ⟨g, off + i, none⟩ = some (.int .u8 ((rest[i] : Nat) : Int)) := by
            rw [hcc i (by omega), bts_get, List.getElem?_eq_getElem hl]; rfl
          have hx : rest[i] < 256 := HB.out _ (List.getElem_mem hl)
          have hdr : rest.drop i = rest[i] :: rest.drop (i + 1) := List.drop_eq_getElem_cons hl
          obtain ⟨k, hk⟩ : ∃ k, 10 - i = k + 1 := ⟨9 - i, by omega⟩
          rw [hdr, hk, readA] at hR
          obtain ⟨x, hx2⟩ : ∃ x, x = rest[i] := ⟨_, rfl⟩
          rw [← hx2] at cx hx hR
          have HX := Lib.hid hx2
          have HR := Lib.hid hR
          have HNl := Lib.hid hN
          have HK := Lib.hid hk
          have ha := and127' x hx
          have hneb : ((i : Int) == (rest.length : Int)) = false := beq_eq_false_iff_ne.2 (by omega)
          have w7 : IntKind.i64.wrap (7 * (i : Int)) = 7 * (i : Int) := IntWalk.i64_in _ (by omega)
          have w8 : IntKind.i64.wrap ((i : Int) + 1) = (i : Int) + 1 := IntWalk.i64_in _ (by omega)
          have wu : IntKind.u64.wrap (((x % 128 : Nat) : Int)) = ((x % 128 : Nat) : Int) := IntWalk.u64_in _ (by omega)
          obtain ⟨y, hy⟩ : ∃ y, y = x % 128 := ⟨_, rfl⟩
          have hyl : y < 128 := by omega
          rw [← hy] at ha wu
          obtain ⟨M, hM⟩ : ∃ M : Int, bits BinOp.or IntKind.u64 (N : Int) (IntKind.u64.wrap ((y : Int) * 2 ^ (7 * i))) = M := ⟨_, rfl⟩
          have HM := Lib.hid (fun hf => hM.symm.trans (digit64 N y i hi9 HNl.out hyl hf))
          have HY := Lib.hid hy
          have HCUT := Lib.hid (cut_rdB (i := i + 1) H.out.rd (show i + 1 ≤ rest.length by omega) hfit)
          clear hcc hdr hR hN hk hx2 hy
          by_cases hx8 : x < 128
          · have hRe := HR.out
            rw [if_pos hx8] at hRe
            by_cases hbad : (0 < i ∧ x = 0) ∨ (i = 9 ∧ 1 < x)
            · rw [if_pos hbad] at hRe
              have HCL := Lib.hid (HX8.out hRe.symm)
              rcases hbad with ⟨hz1, hz2⟩ | ⟨hz1, hz2⟩
              · have hzb : ((x : Int) == 0) = true := beq_iff_eq.2 (by omega)
                clear hRe hz2 HR
                go_wp2_with fail
                refine HCL.out.mono ?_
                rintro r w2 ⟨rfl, hn⟩
                go_wp2
                go_ret
                exact hn
              · have hzb : ((x : Int) == 0) = false := beq_eq_false_iff_ne.2 (by omega)
                have h9b : ((i : Int) == 9) = true := beq_iff_eq.2 (by omega)
                have hi0 : 0 < i := by omega
                clear hRe hz1 HR
                go_wp2_with fail
                refine HCL.out.mono ?_
                rintro r w2 ⟨rfl, hn⟩
                go_wp2
                go_ret
                exact hn
            · rw [if_neg hbad] at hRe
              have hyx : y = x := by rw [HY.out]; exact Nat.mod_eq_of_lt hx8
              have hME : M = ((N + x * 128 ^ i : Nat) : Int) := by rw [← hyx]; exact HM.out (by rw [hyx]; omega)
              have HF := Lib.hid (show NumTo wr p (some ⟨g, off, none⟩) (rdrN R) (rdrR rest R) (rdrE R) (.returned (.int .u64 M)) (wr.setCell ⟨p, 0, none⟩ (.slice (cutA (some ⟨g, off, none⟩) (i + 1) rc 1) (rest.length - (i + 1)) (rc - (i + 1)))) by
                have hs : Fr [p] wr (wr.setCell ⟨p, 0, none⟩ (.slice (cutA (some ⟨g, off, none⟩) (i + 1) rc 1) (rest.length - (i + 1)) (rc - (i + 1)))) := (Fr.refl _ _).setCell (.inl (by simp)) _
                have hbk : ∀ k ∈ blk (cutA (some ⟨g, off, none⟩) (i + 1) rc 1), k ∈ blk (some (⟨g, off, none⟩ : Addr)) := fun k hk => by rw [blk_cutA] at hk; exact hk
                have hgp : p ∉ blk (some (⟨g, off, none⟩ : Addr)) := H.out.out
                rw [← hRe]
                refine ⟨by simp only [rdrN]; rw [hME], _, rc - (i + 1), ?_, hs, hbk⟩
                simp only [rdrR, rdrE]
                have hl2 : (rest.drop (i + 1)).length = rest.length - (i + 1) := List.length_drop
                refine ⟨?_, HCUT.out.fr hs (fun k hk hm => ?_), by rw [hl2]; omega, by have := H.out.cap; omega, fun hm => hgp (hbk _ hm)⟩
                · rw [hl2]
                  have := setCell_blk H.out.head 0 (.slice (cutA (some ⟨g, off, none⟩) (i + 1) rc 1) (rest.length - (i + 1)) (rc - (i + 1)))
                  rw [HE0.out] at this
                  exact this
                · simp at hm; subst hm; exact hgp (hbk _ hk))
              clear hME hyx hRe HR
              have hsl : ∀ u : World, (Instr.slice 26 (.slice (some ⟨g, off, none⟩) rest.length rc) (some (.int .i64 ((i : Int) + 1))) none none).run Try.prog u = .ok (.slice (cutA (some ⟨g, off, none⟩) (i + 1) rc 1) (rest.length - (i + 1)) (rc - (i + 1))) u := fun u => by
                have := run_slice_from (P := Try.prog) 26 5 Try.underlying26 1 (by kernel_rfl) (some ⟨g, off, none⟩) rest.length rc (i + 1) (by omega) u
                exact this
              rcases Nat.eq_zero_or_pos i with hi0 | hi0
              · have hg0 : ¬ 0 < i := by omega
                have h9b : ((i : Int) == 9) = false := beq_eq_false_iff_ne.2 (by omega)
                clear hi0 hbad
                go_wp2_with fail
                go_ret
                rw [HN.out, HRR.out, HEE.out]
                exact HF.out
              · have hzb : ((x : Int) == 0) = false := beq_eq_false_iff_ne.2 (by omega)
                rcases Nat.lt_or_ge i 9 with h9 | h9
                · have h9b : ((i : Int) == 9) = false := beq_eq_false_iff_ne.2 (by omega)
                  clear hbad
                  go_wp2_with fail
                  go_ret
                  rw [HN.out, HRR.out, HEE.out]
                  exact HF.out
                · have h9b : ((i : Int) == 9) = true := beq_iff_eq.2 (by omega)
                  have hx1 : ¬ 1 < x := by omega
                  clear hbad
                  go_wp2_with fail
                  go_ret
                  rw [HN.out, HRR.out, HEE.out]
                  exact HF.out
          · have hRe := HR.out
            rw [if_neg hx8] at hRe
            have HRE := Lib.hid (show (i + 1 ≤ 9 ∧ ∃ N' : Nat, Value.int .u64 M = .int .u64 (N' : Int) ∧ N' < 128 ^ (i + 1) ∧ readA (10 - (i + 1)) (i + 1) N' (rest.drop (i + 1)) = R) ∨ (i + 1 = 10 ∧ R = .bad 8) by
              rcases Nat.lt_or_ge i 9 with h9 | h9
              · exact .inl ⟨by omega, N + y * 128 ^ i, by rw [HM.out (.inl (by omega))], next_lt HNl.out hyl, by rw [HY.out, show 10 - (i + 1) = k by have := HK.out; omega]; exact hRe⟩
              · exact .inr ⟨by omega, by rw [← hRe, show k = 0 by have := HK.out; omega, readA]⟩)
            clear hRe HR
            go_wp2_with fail
            go_roundw
            case rel => exact ⟨i + 1, by omega, by go_num, by trivial, HRE.out⟩
            case measure => simp [intOf]; omega
        · have hRe := hR
          rw [List.drop_of_length_le (by omega)] at hRe
          have hRb : R = .bad 7 := by rw [← hRe]; obtain ⟨k, hk⟩ : ∃ k, 10 - i = k + 1 := ⟨9 - i, by omega⟩; rw [hk, readA]
          have heb : ((i : Int) == (rest.length : Int)) = true := beq_iff_eq.2 (by omega)
          have HCL := Lib.hid (HX7.out hRb)
          clear hRe hR hN hRb
          go_wp2_with fail
          refine HCL.out.mono ?_
          rintro r w2 ⟨rfl, hn⟩
          go_wp2
          go_ret
          exact hn
      · have hi : i = 10 := hi10
        have HCL := Lib.hid (HX8.out hR)
        clear hR
        go_wp2_with fail
        refine HCL.out.mono ?_
        rintro r w2 ⟨rfl, hn⟩
        go_wp2
        go_ret
        exact hn
  · have e1 : ((e : Int) != 0) = true := bne_iff_ne.2 (by omega)
    have HN := Lib.hid (by unfold numN; rw [if_neg he] : numN rest e = 0)
    have HRR := Lib.hid (by unfold numR; rw [if_neg he] : numR rest e = rest)
    have HEE := Lib.hid (by unfold numE; rw [if_neg he] : numE rest e = e)
    clear h he hb
    go_enter Try.func52, Try.ntmps52
    go_wp2_with fail
    go_ret
    exact ⟨by rw [HN.out]; rfl, by rw [HRR.out, HEE.out]; exact H.out.to (Fr.refl _ _)⟩
end Go.Proofs.Ytcgndeggemceaaa
