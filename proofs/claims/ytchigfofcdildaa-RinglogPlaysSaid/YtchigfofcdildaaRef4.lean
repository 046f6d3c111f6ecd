/- The reference of chapter 24: Push onto some entries; Push of any tick. -/
import Derived.Test.YtchigfofcdildaaRef3
namespace Go.Proofs.Ytchigfofcdildaa
open Go.RowKit

section
variable {w : World} {G : List Nat} {v : Value} {S : Sp}

theorem ents_one {v0 : Value} {ca la : Option Addr} {cc lc : Nat} {es : List Ent} (h : RefAt w G v0 S ca cc la lc es) : ∀ u ∈ prs (entV es), u.oneCell' = true := by
  intro u hu
  simp only [prs, entV, List.mem_flatMap, List.mem_map] at hu
  obtain ⟨x, ⟨e, he, rfl⟩, hx⟩ := hu
  obtain ⟨⟨a, cp, h1, _⟩, _⟩ := h.each e he
  simp only [List.mem_cons, List.not_mem_nil, or_false] at hx
  rcases hx with rfl | rfl
  · rfl
  · rw [h1]; rfl

theorem refpush_more (h : IsRef w G v S) (hG : ∀ k ∈ G, k < w.heap.size) (tick : Int) (ht : 0 ≤ tick) (h0 : 0 < S.L.length) (hn : tick = S.newest + 1) (b1 : -1 ≤ S.newest) (b2 : S.newest ≤ 1000000) :
    Calls Try.prog 23 #[v, .int .i64 tick] w (RefTo w G (S.pushed tick) (fun v' => .returned (.tuple #[v', .int .i64 0]))) := by
  have H1 := Lib.hid fun (o1 o2 : Obj) => h.fr hG (((Fr.refl _ _).alloc o1).alloc o2)
  obtain ⟨ca, cc, la, lc, es, h⟩ := h
  obtain rfl := h.val
  have he : 0 < es.length := by rw [h.L, entL_length] at h0; exact h0
  have hfew := h.few
  have hkp := h.keep
  have he13 : es.length ≤ 13 := by omega
  have hkp1 := hkp.1
  have hkp2 := hkp.2
  obtain ⟨g, off, rfl, _⟩ := h.ents.at he
  obtain ⟨i0, hi0, hz0, hz1, hz2⟩ := info_parts infoEnt
  have HF := Lib.hid fun (o1 o2 o3 : Obj) => (((Fr.refl [] w).alloc o1).alloc o2).alloc o3
  have HN1 := Lib.hid fun (o1 o2 o3 : Obj) => (h.ents.fr (HF.out o1 o2 o3) (by simp)).news he
  have HONE := Lib.hid (ents_one h)
  have HS := Lib.hid fun (w : World) => Seg.nil w 69 2
  have H := Lib.hid h
  have HG := Lib.hid hG
  have hne : (tick != S.newest + 1) = false := by rw [hn]; simp
  have HT := Lib.hid hn
  by_cases hdr : S.keep < (es.length : Int) + 1
  all_goals
    have HSL := Lib.hid fun (ao : Option Addr) (cap : Nat) (u : World) => (by
      have := run_slice_from (P := Try.prog) 43 69 Try.underlying43 2 (by kernel_rfl) ao (es.length + 1) cap 1 (by omega) u
      simpa using this : (Instr.slice 43 (.slice ao (es.length + 1) cap) (some (.int .i64 1)) none none).run Try.prog u = .ok (.slice (cutA ao 1 cap 2) es.length (cap - 1)) u)
    clear h hG h0 hn hkp
    go_enter Try.func23, Try.ntmps23
    go_wp2_with fail
    refine (refnewest_any (H1.out _ _)).mono ?_
    rintro e w1 ⟨rfl, ob, rfl⟩
    go_wp2_with (first
      | (at_builtin; refine wpList_append_seg rfl _ _ 43 rfl 69 i0 _ 2 32 Try.underlying43 hi0 hz0 hz1 hz2 rfl (by decide) ao1 es.length cap1 (prs (entV es)) rfl (HS3.out.alloc _) ⟨w3.heap.size, 0, none⟩ 1 1 [.int .i64 tick, .slice ca S.cells.length cc] rfl rfl (new_two _ _ _ _) (by simp [Value.oneCell']) (by unfold maxLen; omega) (by omega) ?_; intro ao2 cap2 w4 hs4 hf4 hx4; obtain ⟨p0, p1, k0, k1, k2, e2, r0, r1, r2, q0, q1, q2⟩ := refpush_mid (alloc_old P0.out) (alloc_old P1.out) hf4 NEW1.out; have hsl := HSL.out ao2 cap2; have HS4 := Lib.hid hs4; have HF4 := Lib.hid hf4; have HX4 := Lib.hid hx4; clear hs4 hf4 hx4)
      | (at_builtin; refine wpList_append_seg rfl _ _ 43 rfl 69 i0 _ 2 32 Try.underlying43 hi0 hz0 hz1 hz2 rfl (by decide) none 0 0 [] rfl (HS.out _) ⟨g, off, none⟩ es.length lc (prs (entV es)) rfl (by rw [prs_length, entV_length]) (HN1.out _ _ _) HONE.out (by unfold maxLen; omega) (by omega) ?_; intro ao1 cap1 w3 hs3 hf3 hx3; rw [Nat.zero_add] at hs3 ⊢; simp only [List.nil_append] at hs3; obtain ⟨p0, p1, k0, k1, k2, e2, r0, r1, r2, q0, q1, q2⟩ := refpush_mid (alloc_old (alloc_old (alloc_new _ _))) (alloc_old (alloc_second _ _ _)) hf3 (by simp [blk]); have HS3 := Lib.hid hs3; have HF3 := Lib.hid hf3; have NEW1 := Lib.hid (fun k hk => (by have := hx3 k hk; simp [blk] at this; omega : w.heap.size + 2 ≤ k)); have P0 := Lib.hid p0; have P1 := Lib.hid p1; clear hs3 hf3 hx3 p0 p1))
  · refine bodyPost_ret (v := .tuple #[.agg #[.int .i64 S.keep, .slice ca S.cells.length cc, .slice (cutA ao2 1 cap2 2) es.length (cap2 - 1)], .int .i64 0]) (by simp [results, Try.results23, go_sem, *]) rfl ?_
    generalize hW : ((((_ : World).setCell _ _).setCell _ _).setCell _ _).setCell _ _ = W5
    have hW5 : Fr [w.heap.size, w.heap.size + 1] w4 W5 := by
      rw [← hW]; exact ((((Fr.refl _ _).setCell (.inl (by simp)) _).setCell (.inl (by simp)) _).setCell (.inl (by simp)) _).setCell (.inl (by simp)) _
    obtain ⟨g2, off2, rfl⟩ := HS4.out.somewhere (by omega)
    have hf3 := (HF.out _ _ _).trans HF3.out (by simp [blk, Ext])
    have hs3 := hf3.size
    have hf4 : Fr [] w w4 := (hf3.alloc _).trans HF4.out (fun k hk => .inr (by have := NEW1.out k hk; omega))
    have := refpush_to (w' := W5) (tick := tick) 1 H.out HG.out (by first | rw [if_pos (by omega)] | rw [if_neg (by omega)]) hf4 (fun k hk => by
      have := hf3.size
      rcases HX4.out k hk with h | h
      · exact NEW1.out k h
      · simp at h
        have e := lt_of_blk p1
        have e2 := lt_of_blk P1.out
        omega) HS4.out hW5
    exact this
  · refine bodyPost_ret (v := .tuple #[.agg #[.int .i64 S.keep, .slice ca S.cells.length cc, .slice ao2 (es.length + 1) cap2], .int .i64 0]) (by simp [results, Try.results23, go_sem, *]) rfl ?_
    generalize hW : ((((_ : World).setCell _ _).setCell _ _).setCell _ _).setCell _ _ = W5
    have hW5 : Fr [w.heap.size, w.heap.size + 1] w4 W5 := by
      rw [← hW]; exact ((((Fr.refl _ _).setCell (.inl (by simp)) _).setCell (.inl (by simp)) _).setCell (.inl (by simp)) _).setCell (.inl (by simp)) _
    obtain ⟨g2, off2, rfl⟩ := HS4.out.somewhere (by omega)
    have hf3 := (HF.out _ _ _).trans HF3.out (by simp [blk, Ext])
    have hs3 := hf3.size
    have hf4 : Fr [] w w4 := (hf3.alloc _).trans HF4.out (fun k hk => .inr (by have := NEW1.out k hk; omega))
    have := refpush_to (w' := W5) (tick := tick) 0 H.out HG.out (by first | rw [if_pos (by omega)] | rw [if_neg (by omega)]) hf4 (fun k hk => by
      have := hf3.size
      rcases HX4.out k hk with h | h
      · exact NEW1.out k h
      · simp at h
        have e := lt_of_blk p1
        have e2 := lt_of_blk P1.out
        omega) HS4.out hW5
    rw [cutA_zero] at this
    exact this

theorem refpush_any (h : IsRef w G v S) (hG : ∀ k ∈ G, k < w.heap.size) (tick : Int) (b1 : -1 ≤ S.newest) (b2 : S.newest ≤ 1000000) {code : Int} {S' : Sp} (he : S.push tick = (code, S')) :
    Calls Try.prog 23 #[v, .int .i64 tick] w (RefTo w G S' (fun v' => .returned (.tuple #[v', .int .i64 code]))) := by
  unfold Sp.push at he
  by_cases c0 : tick < 0
  · rw [if_pos c0, Prod.mk.injEq] at he
    obtain ⟨rfl, rfl⟩ := he
    exact refpush_neg h hG tick c0
  · rw [if_neg c0] at he
    by_cases c1 : 0 < S.L.length ∧ tick ≠ S.newest + 1
    · rw [if_pos c1, Prod.mk.injEq] at he
      obtain ⟨rfl, rfl⟩ := he
      exact refpush_order h hG tick (by omega) c1.1 c1.2 b1 b2
    · rw [if_neg c1, Prod.mk.injEq] at he
      obtain ⟨rfl, rfl⟩ := he
      rcases Nat.eq_zero_or_pos S.L.length with h0 | h0
      · exact refpush_nil h hG tick (by omega) h0
      · exact refpush_more h hG tick (by omega) h0 (by
          by_cases ht : tick = S.newest + 1
          · exact ht
          · exact absurd ⟨h0, ht⟩ c1) b1 b2
end
end Go.Proofs.Ytchigfofcdildaa
