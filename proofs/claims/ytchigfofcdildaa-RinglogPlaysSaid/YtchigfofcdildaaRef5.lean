/- The reference of chapter 24: Rewind. -/
import Derived.Test.YtchigfofcdildaaRef4
namespace Go.Proofs.Ytchigfofcdildaa
open Go.RowKit

section
variable {w : World} {G : List Nat} {v : Value} {S : Sp}

theorem refrewind_stale (h : IsRef w G v S) (hG : ∀ k ∈ G, k < w.heap.size) (tick : Int) (ht : S.L.length = 0 ∨ tick < S.oldest) :
    Calls Try.prog 24 #[v, .int .i64 tick] w (RefTo w G S (fun v' => .returned (.tuple #[v', .int .i64 24]))) := by
  have H := Lib.hid h
  have HG := Lib.hid hG
  have H1 := Lib.hid fun (o1 o2 : Obj) => h.fr hG (((Fr.refl _ _).alloc o1).alloc o2)
  obtain ⟨ca, cc, la, lc, es, h⟩ := h
  obtain rfl := h.val
  have hlen : es.length ≤ 9223372036854775807 := by have := h.ents.2.1; unfold maxLen at this; omega
  have hel : S.L.length = es.length := by rw [h.L, entL_length]
  rcases Nat.eq_zero_or_pos es.length with h0 | h0
  · have hz : ((es.length : Int) == 0) = true := by simp [h0]
    clear h hG ht h0 hel
    go_enter Try.func24, Try.ntmps24
    go_wp2
    refine bodyPost_ret (v := .tuple #[.agg #[.int .i64 S.keep, .slice ca S.cells.length cc, .slice la es.length lc], .int .i64 24]) (by simp [results, Try.results24, go_sem, *]) rfl ?_
    exact ref_same H.out HG.out (((Fr.refl _ _).alloc _).alloc _) (fun v' => .returned (.tuple #[v', .int .i64 24]))
  · have hz : ((es.length : Int) == 0) = false := beq_eq_false_iff_ne.2 (by omega)
    have ht2 : tick < S.oldest := by omega
    clear h hG ht h0 hel
    go_enter Try.func24, Try.ntmps24
    go_wp2_with fail
    refine (refoldest_any (H1.out _ _)).mono ?_
    rintro e w3 ⟨rfl, o, rfl⟩
    go_wp2
    refine bodyPost_ret (v := .tuple #[.agg #[.int .i64 S.keep, .slice ca S.cells.length cc, .slice la es.length lc], .int .i64 24]) (by simp [results, Try.results24, go_sem, *]) rfl ?_
    exact ref_same H.out HG.out ((((Fr.refl _ _).alloc _).alloc _).alloc _) (fun v' => .returned (.tuple #[v', .int .i64 24]))

theorem refrewind_range (h : IsRef w G v S) (hG : ∀ k ∈ G, k < w.heap.size) (tick : Int) (h0 : 0 < S.L.length) (h1 : ¬ tick < S.oldest) (h2 : S.newest < tick) :
    Calls Try.prog 24 #[v, .int .i64 tick] w (RefTo w G S (fun v' => .returned (.tuple #[v', .int .i64 6]))) := by
  have H := Lib.hid h
  have HG := Lib.hid hG
  have H1 := Lib.hid fun (o1 o2 : Obj) => h.fr hG (((Fr.refl _ _).alloc o1).alloc o2)
  have H2 := Lib.hid fun (o1 o2 o3 : Obj) => h.fr hG ((((Fr.refl _ _).alloc o1).alloc o2).alloc o3)
  obtain ⟨ca, cc, la, lc, es, h⟩ := h
  obtain rfl := h.val
  have hlen : es.length ≤ 9223372036854775807 := by have := h.ents.2.1; unfold maxLen at this; omega
  have hel : S.L.length = es.length := by rw [h.L, entL_length]
  have hz : ((es.length : Int) == 0) = false := beq_eq_false_iff_ne.2 (by omega)
  clear h hG h0 hel
  go_enter Try.func24, Try.ntmps24
  go_wp2_with fail
  refine (refoldest_any (H1.out _ _)).mono ?_
  rintro e w3 ⟨rfl, o, rfl⟩
  go_wp2_with fail
  refine (refnewest_any (H2.out _ _ _)).mono ?_
  rintro e w4 ⟨rfl, o2, rfl⟩
  go_wp2
  refine bodyPost_ret (v := .tuple #[.agg #[.int .i64 S.keep, .slice ca S.cells.length cc, .slice la es.length lc], .int .i64 6]) (by simp [results, Try.results24, go_sem, *]) rfl ?_
  exact ref_same H.out HG.out (((((Fr.refl _ _).alloc _).alloc _).alloc _).alloc _) (fun v' => .returned (.tuple #[v', .int .i64 6]))

theorem refrewind_to {ca la : Option Addr} {cc lc : Nat} {es : List Ent} {w' : World} {v0 : Value} (h : RefAt w G v0 S ca cc la lc es) (hG : ∀ k ∈ G, k < w.heap.size) {k : Nat} (hk : k < es.length) (hf : Fr [] w w') :
    RefTo w G { S with cells := es[k].2.1, L := S.L.take (k + 1) } (fun v' => .returned (.tuple #[v', .int .i64 0])) (.returned (.tuple #[.agg #[.int .i64 S.keep, es[k].2.2, .slice la (k + 1) lc], .int .i64 0])) w' := by
  have hkp : Kept G w w' := fun k hk => hf.block k (hG k hk) (by simp)
  obtain ⟨⟨a, cp, h1, h2, h3⟩, h6⟩ := h.each _ (List.getElem_mem hk)
  have hl : (es.take (k + 1)).length = k + 1 := by rw [List.length_take]; omega
  have hfw := h.few
  refine ⟨_, G, rfl, ⟨a, cp, la, lc, es.take (k + 1), by rw [hl, h1], h6, h.keep, ?_, fun h0 => ?_, h2.kept fun k hm => hkp k (h3 k hm), h3, ?_, by rw [hl]; have := h.cap; omega, h.big, ?_, h.inL, fun e he => ⟨(h.each e (List.mem_of_mem_take he)).1.kept hkp, (h.each e (List.mem_of_mem_take he)).2⟩⟩, hf, fun k hm => ⟨.inl hm, Nat.lt_of_lt_of_le (hG k hm) hf.size⟩⟩
  · rw [hl]; simp only; omega
  · rw [hl] at h0; omega
  · simp only [h.L, entL, List.map_take]
  · rw [hl]
    have he := h.ents.kept fun k hm => hkp k (h.inL k hm)
    obtain ⟨e1, e2, e3⟩ := he
    have ht : prs (entV (es.take (k + 1))) = (prs (entV es)).take ((k + 1) * 2) := by rw [prs_take]; simp [entV, List.map_take]
    refine ⟨by rw [ht, List.length_take, e1]; omega, by omega, ?_⟩
    rcases e3 with e3 | ⟨g, off, ha, hg, hc⟩
    · omega
    · exact .inr ⟨g, off, ha, hg, fun j hj => by rw [hc j (by omega), ht, List.getElem?_take_of_lt hj]⟩

theorem refrewind_ok (h : IsRef w G v S) (hG : ∀ k ∈ G, k < w.heap.size) (tick : Int) (h0 : 0 < S.L.length) (h1 : ¬ tick < S.oldest) (h2 : ¬ S.newest < tick) (b0 : 0 ≤ S.oldest) (b2 : S.newest ≤ 1000000) (hk : (tick - S.oldest).toNat < S.L.length) :
    Calls Try.prog 24 #[v, .int .i64 tick] w (RefTo w G { S with cells := (S.L.getD (tick - S.oldest).toNat (0, [])).2, L := S.L.take ((tick - S.oldest).toNat + 1) } (fun v' => .returned (.tuple #[v', .int .i64 0]))) := by
  have H1 := Lib.hid fun (o1 o2 : Obj) => h.fr hG (((Fr.refl _ _).alloc o1).alloc o2)
  have H2 := Lib.hid fun (o1 o2 o3 : Obj) => h.fr hG ((((Fr.refl _ _).alloc o1).alloc o2).alloc o3)
  have H3 := Lib.hid fun (o1 o2 o3 o4 : Obj) => h.fr hG (((((Fr.refl _ _).alloc o1).alloc o2).alloc o3).alloc o4)
  obtain ⟨ca, cc, la, lc, es, h⟩ := h
  obtain rfl := h.val
  have hel : S.L.length = es.length := by rw [h.L, entL_length]
  obtain ⟨k, hkk⟩ : ∃ k, k = (tick - S.oldest).toNat := ⟨_, rfl⟩
  rw [← hkk] at hk ⊢
  have hkl : k < es.length := by omega
  have hkt : tick - S.oldest = (k : Int) := by omega
  have hz : ((es.length : Int) == 0) = false := beq_eq_false_iff_ne.2 (by omega)
  obtain ⟨g, off, rfl, hg, hc⟩ := h.ents.at (by omega)
  obtain ⟨⟨a, cp, e1, e2, e3⟩, e4⟩ := h.each _ (List.getElem_mem hkl)
  clear e4
  have c1 := (ent_cells hc hkl).2
  rw [e1] at c1
  have hcap := h.cap
  have hfw := h.few
  have hkp := h.keep.2
  have hl13 : es.length ≤ 13 := by omega
  have HSL := run_slice_to (P := Try.prog) 43 69 Try.underlying43 2 (by kernel_rfl) (some ⟨g, off, none⟩) es.length lc (k + 1) (by omega)
  have HCX := Lib.hid fun (o1 o2 o3 o4 o5 : Obj) => (World.cell?_of_block (a := ⟨g, off + k * 2 + 1, none⟩) (by
    have := (((((Fr.refl [] w).alloc o1).alloc o2).alloc o3).alloc o4).alloc o5
    exact this.block g hg (by simp)) |>.trans c1 : (((((w.alloc o1).alloc o2).alloc o3).alloc o4).alloc o5).cell? ⟨g, off + k * 2 + 1, none⟩ = _)
  have H := Lib.hid h
  have HG := Lib.hid hG
  have HKK := Lib.hid hkk
  have HE1 := Lib.hid e1
  have hse : { S with cells := (S.L.getD k (0, [])).2, L := S.L.take (k + 1) } = { S with cells := es[k].2.1, L := S.L.take (k + 1) } := by
    congr 1
    rw [h.L]
    simp [entL, hkl]
  rw [hse]
  have hki : (k : Int) < (es.length : Int) := by omega
  clear h hG hc e1 e2 e3 c1 hel hkk hse h0 hfw
  go_enter Try.func24, Try.ntmps24
  go_wp2_with fail
  refine (refoldest_any (H1.out _ _)).mono ?_
  rintro e w3 ⟨rfl, o, rfl⟩
  go_wp2_with fail
  refine (refnewest_any (H2.out _ _ _)).mono ?_
  rintro e w4 ⟨rfl, o2, rfl⟩
  go_wp2_with fail
  refine (refoldest_any (H3.out _ _ _ _)).mono ?_
  rintro e w5 ⟨rfl, o3, rfl⟩
  have cx := HCX.out (.cells #[.int .i64 S.keep, .slice ca S.cells.length cc, .slice (some ⟨g, off, none⟩) es.length lc] 45) (.cells #[.int .i64 0, .slice none 0 0, .slice none 0 0] 45) o o2 o3
  go_wp2
  refine bodyPost_ret (v := .tuple #[.agg #[.int .i64 S.keep, .slice a es[k].2.1.length cp, .slice (some ⟨g, off, none⟩) (k + 1) lc], .int .i64 0]) (by simp [results, Try.results24, go_sem, *]) rfl ?_
  rw [← HE1.out]
  exact refrewind_to H.out HG.out hkl ((((((Fr.refl [] w).alloc _).alloc _).alloc o).alloc o2).alloc o3)

theorem refrewind_any (h : IsRef w G v S) (hG : ∀ k ∈ G, k < w.heap.size) (tick : Int) (b0 : 0 < S.L.length → 0 ≤ S.oldest) (b2 : S.newest ≤ 1000000)
    (hk : 0 < S.L.length → ¬ tick < S.oldest → ¬ S.newest < tick → (tick - S.oldest).toNat < S.L.length) {code : Int} {S' : Sp} (he : S.rewind tick = (code, S')) :
    Calls Try.prog 24 #[v, .int .i64 tick] w (RefTo w G S' (fun v' => .returned (.tuple #[v', .int .i64 code]))) := by
  unfold Sp.rewind at he
  by_cases c0 : S.L.length = 0 ∨ tick < S.oldest
  · rw [if_pos c0, Prod.mk.injEq] at he
    obtain ⟨rfl, rfl⟩ := he
    exact refrewind_stale h hG tick c0
  · rw [if_neg c0] at he
    have h0 : 0 < S.L.length := by omega
    have h1 : ¬ tick < S.oldest := by omega
    by_cases c1 : S.newest < tick
    · rw [if_pos c1, Prod.mk.injEq] at he
      obtain ⟨rfl, rfl⟩ := he
      exact refrewind_range h hG tick h0 h1 c1
    · rw [if_neg c1, Prod.mk.injEq] at he
      obtain ⟨rfl, rfl⟩ := he
      exact refrewind_ok h hG tick h0 h1 c1 (b0 h0) b2 (hk h0 h1 c1)
end
end Go.Proofs.Ytchigfofcdildaa
