/- Package rangecoder: the decoder; next, get. -/
import Derived.Test.YtjehkpfmndfjeaaEncode2
namespace Go.Proofs.Ytjehkpfmndfjeaa
open Go.RowKit

/-! ### how the code moves on, round by round -/
inductive Dn : Nat → Ds → Ds → Prop
  | done {s : Ds} : ¬ s.m.same → Dn 0 s s
  | more {k : Nat} {s s' : Ds} : s.m.same → Dn k { s.next with m := s.m.shf } s' → Dn (k + 1) s s'

theorem dnorm_dn : ∀ (k : Nat) {s : Ds}, s.m.Ok → 16777216 < (s.m.hi - s.m.lo + 1) * 256 ^ k → ∃ j, Dn j s (dnorm k s)
  | 0, s, h, hw => ⟨0, .done (norm_done 0 h hw)⟩
  | k + 1, s, h, hw => by
    by_cases hs : s.m.same
    · have e : dnorm (k + 1) s = dnorm k { s.next with m := s.m.shf } := by rw [dnorm, if_pos hs]
      rw [e]
      obtain ⟨a, b, c, d⟩ := Md.shf_eq h hs
      have hl := h.le
      obtain ⟨j, hj⟩ := dnorm_dn k (s := { s.next with m := s.m.shf }) (h.shf hs) (by
        have e2 : s.m.shf.hi - s.m.shf.lo + 1 = (s.m.hi - s.m.lo + 1) * 256 := by omega
        simp only
        rw [e2, Nat.mul_assoc, ← Nat.pow_succ']
        exact hw)
      exact ⟨j + 1, .more hs hj⟩
    · have e : dnorm (k + 1) s = s := by rw [dnorm, if_neg hs]
      rw [e]; exact ⟨0, .done hs⟩
theorem dstep_dn {s : Ds} (h : s.m.Rdy) {c : Nat} (hc : c < 256) : ∃ j, Dn j { s with m := s.m.nar c (s.bit c) } (s.step c) := dnorm_dn 5 (h.ok.nar h.lt hc _) (by
  have := (h.ok.nar h.lt hc (s.bit c)).le
  simp only; omega)
theorem Dn.no {k : Nat} {s s' : Ds} (h : Dn k s s') (hs : ¬ s.m.same) : s = s' := by
  cases h with
  | done _ => rfl
  | more h1 _ => exact absurd h1 hs
theorem Dn.yes {k : Nat} {s s' : Ds} (h : Dn k s s') (hs : s.m.same) : ∃ j, k = j + 1 ∧ Dn j { s.next with m := s.m.shf } s' := by
  cases h with
  | done h1 => exact absurd hs h1
  | more _ h2 => exact ⟨_, rfl, h2⟩

/-! ### the decoder in the heap -/
structure IsDecAt (w : World) (p : Nat) (s : Ds) (ra : Option Addr) (rc : Nat) : Prop where
  head : MdAt w p 62 s.m [.slice ra s.rest.length rc, .int .u32 (s.code : Int)]
  rest : Rd w 1 ra s.rest.length (bts s.rest)
  cap : s.rest.length ≤ rc
  capm : rc ≤ maxLen
  pr : ∀ k ∈ blk ra, k < p
  code : s.code < 4294967296
  bytes : Bytes s.rest
def IsDec (w : World) (p : Nat) (s : Ds) : Prop := ∃ ra rc, IsDecAt w p s ra rc
def DecTo (w : World) (p : Nat) (s : Ds) (w' : World) : Prop := IsDec w' p s ∧ Fr [p] w w'

section
variable {w : World} {p : Nat} {s : Ds}

theorem IsDec.fr {w' : World} {S : List Nat} (h : IsDec w p s) (hf : Fr S w w') (hp : p ∉ S) (hS : ∀ k ∈ S, p < k) : IsDec w' p s := by
  obtain ⟨ra, rc, h⟩ := h
  refine ⟨ra, rc, h.head.fr hf hp, ?_, h.cap, h.capm, h.pr, h.code, h.bytes⟩
  obtain ⟨e1, e2, e3⟩ := h.rest
  refine ⟨e1, e2, ?_⟩
  rcases e3 with e3 | ⟨g, off, ha, hg, hc⟩
  · exact .inl e3
  · exact .inr ⟨g, off, ha, Nat.lt_of_lt_of_le hg hf.size, fun j hj => by rw [← hc j hj]; exact World.cell?_of_block (a := ⟨g, off + j, none⟩) (hf.block g hg (fun hm => by have := hS g hm; have := h.pr g (by simp [ha, blk]); omega))⟩
theorem DecTo.trans {w1 w2 : World} {s2 : Ds} (h1 : Fr [p] w w1) (h : DecTo w1 p s2 w2) : DecTo w p s2 w2 := ⟨h.1, h1.trans h.2 (Ext.refl _ _)⟩
theorem IsDec.to (h : IsDec w p s) : DecTo w p s w := ⟨h, Fr.refl _ _⟩
theorem IsDec.toFr {w' : World} (h : IsDec w p s) (hf : Fr [] w w') : DecTo w p s w' := ⟨h.fr hf (by simp) (by simp), hf.mono (by simp)⟩
theorem IsDecAt.mdTo {ra : Option Addr} {rc : Nat} {m' : Md} {w' : World} (h : IsDecAt w p s ra rc) (ht : MdTo w p 62 m' [.slice ra s.rest.length rc, .int .u32 (s.code : Int)] w') : DecTo w p { s with m := m' } w' :=
  ⟨⟨ra, rc, ht.1, h.rest.fr ht.2 (fun k hk hm => by simp at hm; subst hm; exact Nat.lt_irrefl _ (h.pr _ hk)), h.cap, h.capm, h.pr, h.code, h.bytes⟩, ht.2⟩

theorem dec_narrow (h : IsDec w p s) (hm : s.m.Rdy) (c : Nat) (hc : c < 256) (b : Bool) {x : Int} (hx : x = if b then 1 else 0) :
    Calls Try.prog 34 #[.pointer (some ⟨p, 0, none⟩), .int .i64 c, .int .i64 x] w fun e w' => e = .returned (.tuple #[]) ∧ DecTo w p { s with m := s.m.nar c b } w' := by
  obtain ⟨ra, rc, h⟩ := h
  exact (narrow_any h.head hm c hc b hx).mono fun e w' ⟨h1, h2⟩ => ⟨h1, h.mdTo h2⟩

/-- shift as the loop of get meets it -/
def DShift (w : World) (p : Nat) (S : Ds) (k : Nat) (e : Ending) (w' : World) : Prop :=
  ∃ (v : Value) (ok : Bool), e = .returned (.tuple #[v, .bool ok]) ∧
    if ok then ∃ (j : Nat) (sc : Ds), k = j + 1 ∧ DecTo w p sc w' ∧ Dn j sc.next S ∧ sc.m.Ok else DecTo w p S w'
theorem dec_shift (h : IsDec w p s) (hm : s.m.Ok) {k : Nat} {S : Ds} (hn : Dn k s S) :
    Calls Try.prog 35 #[.pointer (some ⟨p, 0, none⟩)] w (DShift w p S k) := by
  by_cases hs : s.m.same
  · obtain ⟨j, rfl, hn'⟩ := hn.yes hs
    obtain ⟨ra, rc, h⟩ := h
    exact (shift_yes h.head hm hs).mono fun e w' ⟨h1, h2⟩ => ⟨_, true, h1, ⟨j, _, rfl, h.mdTo h2, hn', hm.shf hs⟩⟩
  · obtain rfl := hn.no hs
    have h' := h
    obtain ⟨ra, rc, h⟩ := h
    exact (shift_no h.head hm hs).mono fun e w' ⟨h1, h2⟩ => ⟨_, false, h1, h'.toFr h2⟩

theorem next_nil {m : Md} {code : Nat} {ra : Option Addr} {rc : Nat} (h : IsDecAt w p { m := m, code := code, rest := [] } ra rc) :
    DecTo w p ({ m := m, code := code, rest := [] } : Ds).next (w.setCell ⟨p, 259, none⟩ (.int .u32 ((code : Int) * 256 % 4294967296))) := by
  have e : (code : Int) * 256 % 4294967296 = ((code * 256 % 4294967296 : Nat) : Int) := by omega
  rw [e]
  have h1 := h.head.setX 1 (.int .u32 ((code * 256 % 4294967296 : Nat) : Int))
  have hn : ({ m := m, code := code, rest := [] } : Ds).next = { m := m, code := code * 256 % 4294967296, rest := [] } := by simp [Ds.next]
  rw [hn]
  exact ⟨⟨ra, rc, h1, h.rest.fr ((Fr.refl [p] w).setCell (.inl (by simp)) _) (fun k hk hm => by simp at hm; subst hm; exact Nat.lt_irrefl _ (h.pr _ hk)), h.cap, h.capm, h.pr, by simp only; omega, h.bytes⟩, (Fr.refl [p] w).setCell (.inl (by simp)) _⟩

theorem next_cons {m : Md} {code x : Nat} {r : List Nat} {g off : Nat} {rc : Nat} {n : Nat} {v0 : Value} (h : IsDecAt w p { m := m, code := code, rest := x :: r } (some ⟨g, off, none⟩) rc) :
    DecTo w p ({ m := m, code := code, rest := x :: r } : Ds).next (((((w.setCell ⟨p, 259, none⟩ v0).drewN n).setCell ⟨p, 259, none⟩ (.int .u32 (bits BinOp.or IntKind.u32 ((code : Int) * 256 % 4294967296) (x : Int)))).setCell ⟨p, 258, none⟩ (.slice (cutA (some ⟨g, off, none⟩) 1 rc 1) r.length (rc - 1)))) := by
  have hx : x < 256 := h.bytes x (by simp)
  have e : bits BinOp.or IntKind.u32 ((code : Int) * 256 % 4294967296) (x : Int) = ((code * 256 % 4294967296 + x : Nat) : Int) := by
    have a1 : (code : Int) * 256 % 4294967296 = ((code % 16777216 * 2 ^ 8 : Nat) : Int) := by omega
    rw [a1, bits_or_u32 _ _ (by omega) (by omega), or_low _ _ 8 (by omega)]
    omega
  rw [e]
  have h1 := (((h.head.setX 1 v0).drewN n).setX 1 (.int .u32 ((code * 256 % 4294967296 + x : Nat) : Int))).setX 0 (.slice (cutA (some ⟨g, off, none⟩) 1 rc 1) r.length (rc - 1))
  have hn : ({ m := m, code := code, rest := x :: r } : Ds).next = { m := m, code := code * 256 % 4294967296 + x, rest := r } := by simp [Ds.next]
  rw [hn]
  have hf : Fr [p] w (((((w.setCell ⟨p, 259, none⟩ v0).drewN n).setCell ⟨p, 259, none⟩ (.int .u32 ((code * 256 % 4294967296 + x : Nat) : Int))).setCell ⟨p, 258, none⟩ (.slice (cutA (some ⟨g, off, none⟩) 1 rc 1) r.length (rc - 1)))) :=
    ((((Fr.refl [p] w).setCell (.inl (by simp)) _).drewN n).setCell (.inl (by simp)) _).setCell (.inl (by simp)) _
  have hcap := h.cap
  have hcm := h.capm
  simp only [List.length_cons] at hcap
  refine ⟨⟨_, rc - 1, h1, ?_, by simp only; omega, by omega, by rw [blk_cutA]; exact h.pr, by simp only; omega, h.bytes.tail⟩, hf⟩
  have hr := h.rest.fr hf (fun k hk hm => by simp at hm; subst hm; exact Nat.lt_irrefl _ (h.pr _ hk))
  obtain ⟨e1, e2, e3⟩ := hr
  simp only [List.length_cons] at e1 e2 e3
  refine ⟨by simp [bts_length], by simp only; omega, ?_⟩
  rcases e3 with e3 | ⟨g', off', ha, hg, hc⟩
  · omega
  · cases ha
    rcases Nat.eq_zero_or_pos r.length with hz | hz
    · exact .inl hz
    · refine .inr ⟨g, off + 1 * 1, cutA_ne (by omega), hg, fun j (hj : j < r.length * 1) => ?_⟩
      have := hc (1 + j) (by omega)
      rw [show off + 1 * 1 + j = off + (1 + j) by omega, this]
      simp [bts, Nat.add_comm 1 j]

set_option maxRecDepth 100000 in
set_option maxHeartbeats 2000000 in
theorem next_any (h : IsDec w p s) :
    Calls Try.prog 30 #[.pointer (some ⟨p, 0, none⟩)] w fun e w' => e = .returned (.tuple #[]) ∧ DecTo w p s.next w' := by
  obtain ⟨ra, rc, h⟩ := h
  have c0 := h.head.cx 0
  have c1 := h.head.cx 1
  have f0 := h.head.fz 258
  have f1 := h.head.fz 259
  simp only [Nat.add_zero, List.getElem?_cons_zero, List.getElem?_cons_succ] at c0 c1
  have hc := h.code
  have hr := h.rest
  have hcap := h.cap
  obtain ⟨m, code, rest⟩ := s
  simp only at c0 c1 hc hr hcap
  have hlen : rest.length ≤ 9223372036854775807 := by have := hr.2.1; unfold maxLen at this; omega
  cases rest with
  | nil =>
    have H := Lib.hid h
    clear h hr
    go_enter Try.func30, Try.ntmps30
    go_wp2
    go_end0
    exact ⟨rfl, next_nil H.out⟩
  | cons x r =>
    obtain ⟨g, off, rfl, hg, hcc⟩ := hr.at (by simp)
    have cx := hcc 0 (by simp)
    simp only [Nat.add_zero, bts, List.map_cons, List.getElem?_cons_zero] at cx
    have hgp : g ≠ p := fun e => Nat.lt_irrefl p (h.pr p (by simp [blk, e]))
    have hx : x < 256 := h.bytes x (by simp)
    have hxi : (x : Int) < 256 := by omega
    have hsl : ∀ u : World, (Instr.slice 22 (.slice (some ⟨g, off, none⟩) (r.length + 1) rc) (some (.int .i64 1)) none none).run Try.prog u = .ok (.slice (cutA (some ⟨g, off, none⟩) 1 rc 1) r.length (rc - 1)) u := fun u => by
      have := run_slice_from (P := Try.prog) 22 5 Try.underlying22 1 (by kernel_rfl) (some ⟨g, off, none⟩) (r.length + 1) rc 1 (by omega) u
      simpa using this
    have H := Lib.hid h
    clear h hr hcc
    go_enter Try.func30, Try.ntmps30
    go_wp2_with fail
    refine wp_still_tail 14 (by kernel_rfl) (by kernel_rfl) ?_
    simp only [List.take_succ_cons, List.take_zero, List.drop_succ_cons, List.drop_zero]
    repeat still_step
    refine wpStill_nil ?_
    go_wp2_with fail
    go_end0
    exact ⟨rfl, next_cons (n := 1) H.out⟩
end
end Go.Proofs.Ytjehkpfmndfjeaa
