/- The reference of chapter 24: Push. -/
import Derived.Test.YtchigfofcdildaaRef2
namespace Go.Proofs.Ytchigfofcdildaa
open Go.RowKit

theorem infoEnt : (Try.prog.info? 69).map (fun i => (i.zero, i.size, i.bytes)) = some (some (.agg #[.int .i64 0, .slice none 0 0]), 2, 32) := by kernel_rfl

section
variable {w : World} {G : List Nat} {v : Value} {S : Sp}

/-- nothing but a result has been made -/
theorem ref_same {w' : World} (h : IsRef w G v S) (hG : ∀ k ∈ G, k < w.heap.size) (hf : Fr [] w w') (f : Value → Ending) : RefTo w G S f (f v) w' :=
  ⟨v, G, rfl, h.fr hG hf, hf, fun k hk => ⟨.inl hk, Nat.lt_of_lt_of_le (hG k hk) hf.size⟩⟩

def Sp.pushed (S : Sp) (tick : Int) : Sp := { S with L := if S.keep < (S.L.length : Int) + 1 then (S.L ++ [(tick, S.cells)]).drop 1 else S.L ++ [(tick, S.cells)] }

/-- the end of Push -/
theorem refpush_to {ca la ao : Option Addr} {cc lc cap : Nat} {es : List Ent} {w4 w' : World} {v0 : Value} {tick : Int} (d : Nat)
    (h : RefAt w G v0 S ca cc la lc es) (hG : ∀ k ∈ G, k < w.heap.size) (hd : d = if S.keep < (es.length : Int) + 1 then 1 else 0) (hf : Fr [] w w4) (hn : ∀ k ∈ blk ao, w.heap.size + 2 ≤ k)
    (hs : Seg w4 69 2 ao (es.length + 1) cap (prs (entV es) ++ [.int .i64 tick, .slice ca S.cells.length cc])) (h5 : Fr [w.heap.size, w.heap.size + 1] w4 w') :
    RefTo w G (S.pushed tick) (fun v' => .returned (.tuple #[v', .int .i64 0]))
      (.returned (.tuple #[.agg #[.int .i64 S.keep, .slice ca S.cells.length cc, .slice (cutA ao d cap 2) (es.length + 1 - d) (cap - d)], .int .i64 0])) w' := by
  have hs3 := hf.size
  have hw' : Fr [] w w' := hf.trans h5 (fun k hk => by simp at hk; right; omega)
  have hk : Kept G w w' := fun k hk => hw'.block k (hG k hk) (by simp)
  have hd1 : d ≤ 1 := by rw [hd]; split <;> omega
  have hkp := h.keep
  have hfw := h.few
  have hsg := hs.fr h5 (fun k hk hm => by have := hn k hk; simp at hm; omega)
  have hcap := hsg.2.2.1
  have hct := hsg.cutA (lo := d) (hi := es.length + 1) (mx := cap) (by omega) hcap (Nat.le_refl _) (Nat.le_refl _)
  have hes : prs (entV es) ++ [Value.int .i64 tick, Value.slice ca S.cells.length cc] = prs (entV (es ++ [((tick, S.cells, Value.slice ca S.cells.length cc) : Ent)])) := by simp [entV, prs]
  have hlen : (es ++ [((tick, S.cells, Value.slice ca S.cells.length cc) : Ent)]).length = es.length + 1 := by simp
  have hv : ((prs (entV es) ++ [Value.int .i64 tick, Value.slice ca S.cells.length cc]).drop (d * 2)).take ((es.length + 1 - d) * 2) = prs (entV ((es ++ [((tick, S.cells, Value.slice ca S.cells.length cc) : Ent)]).drop d)) := by
    rw [hes, prs_drop, prs_take, List.take_of_length_le (by simp [entV])]
    simp [entV]
  have hel : ((es ++ [((tick, S.cells, Value.slice ca S.cells.length cc) : Ent)]).drop d).length = es.length + 1 - d := by rw [List.length_drop, hlen]
  refine ⟨_, blk ao ++ G, rfl, ⟨ca, cc, cutA ao d cap 2, cap - d, (es ++ [((tick, S.cells, Value.slice ca S.cells.length cc) : Ent)]).drop d, by rw [hel]; rfl, h.six, h.keep, ?_, fun h0 => ?_, h.cells.kept fun k hm => hk k (h.inC k hm), fun k hm => by simp [h.inC k hm], ?_, by rw [hel]; omega, by have := hsg.2.1; omega, ?_, fun k hm => by rw [blk_cutA] at hm; simp [hm], fun e he => ?_⟩, hw', fun k hm => ?_⟩
  · rw [hel]
    show ((es.length + 1 - d : Nat) : Int) ≤ S.keep
    rw [hd]
    split <;> omega
  · rw [hel] at h0
    split at hd <;> omega
  · unfold Sp.pushed
    simp only
    rw [h.L, entL_length]
    rw [hd]
    split
    · simp [entL]
    · simp [entL]
  · rw [hel]
    have := hct.rd
    rwa [hv] at this
  · have he := List.mem_of_mem_drop he
    rcases List.mem_append.1 he with he | he
    · exact ⟨((h.each e he).1.kept hk).mono fun k hm => by simp [hm], (h.each e he).2⟩
    · simp only [List.mem_singleton] at he
      subst he
      exact ⟨⟨ca, cc, rfl, h.cells.kept fun k hm => hk k (h.inC k hm), fun k hm => by simp [h.inC k hm]⟩, h.six⟩
  · rcases List.mem_append.1 hm with hm | hm
    · exact ⟨.inr (by have := hn k hm; omega), Nat.lt_of_lt_of_le (hs.lt k hm) h5.size⟩
    · exact ⟨.inl hm, Nat.lt_of_lt_of_le (hG k hm) hw'.size⟩

theorem refpush_neg (h : IsRef w G v S) (hG : ∀ k ∈ G, k < w.heap.size) (tick : Int) (ht : tick < 0) :
    Calls Try.prog 23 #[v, .int .i64 tick] w (RefTo w G S (fun v' => .returned (.tuple #[v', .int .i64 6]))) := by
  have H := Lib.hid h
  have HG := Lib.hid hG
  obtain ⟨ca, cc, la, lc, es, h⟩ := h
  obtain rfl := h.val
  clear h hG
  go_enter Try.func23, Try.ntmps23
  go_wp2
  refine bodyPost_ret (v := .tuple #[.agg #[.int .i64 S.keep, .slice ca S.cells.length cc, .slice la es.length lc], .int .i64 6]) (by simp [results, Try.results23, go_sem, *]) rfl ?_
  exact ref_same H.out HG.out (((Fr.refl _ _).alloc _).alloc _) (fun v' => .returned (.tuple #[v', .int .i64 6]))

theorem refpush_order (h : IsRef w G v S) (hG : ∀ k ∈ G, k < w.heap.size) (tick : Int) (ht : 0 ≤ tick) (h0 : 0 < S.L.length) (hn : tick ≠ S.newest + 1) (b1 : -1 ≤ S.newest) (b2 : S.newest ≤ 1000000) :
    Calls Try.prog 23 #[v, .int .i64 tick] w (RefTo w G S (fun v' => .returned (.tuple #[v', .int .i64 5]))) := by
  have H := Lib.hid h
  have HG := Lib.hid hG
  have H1 := Lib.hid fun (o1 o2 : Obj) => h.fr hG (((Fr.refl _ _).alloc o1).alloc o2)
  obtain ⟨ca, cc, la, lc, es, h⟩ := h
  obtain rfl := h.val
  have hlen : es.length ≤ 9223372036854775807 := by have := h.ents.2.1; unfold maxLen at this; omega
  have hz : 0 < es.length := by rw [h.L, entL_length] at h0; exact h0
  have hne : (tick != S.newest + 1) = true := by simpa using hn
  have HN := Lib.hid hn
  clear h hG hn h0
  go_enter Try.func23, Try.ntmps23
  go_wp2_with fail
  refine (refnewest_any (H1.out _ _)).mono ?_
  rintro e w3 ⟨rfl, o, rfl⟩
  go_wp2
  refine bodyPost_ret (v := .tuple #[.agg #[.int .i64 S.keep, .slice ca S.cells.length cc, .slice la es.length lc], .int .i64 5]) (by simp [results, Try.results23, go_sem, *]) rfl ?_
  exact ref_same H.out HG.out ((((Fr.refl _ _).alloc _).alloc _).alloc _) (fun v' => .returned (.tuple #[v', .int .i64 5]))

theorem alloc_second (w : World) (o1 o2 : Obj) : ((w.alloc o1).alloc o2).heap[w.heap.size + 1]? = some o2 := by have := alloc_new (w.alloc o1) o2; rwa [World.size_alloc] at this

theorem refpush_mid {v0 v1 v2 u0 u1 u2 : Value} {w1 w3 : World} {S : List Nat} (h1 : w1.heap[w.heap.size]? = some (.cells #[v0, v1, v2] 45 (0, 0))) (h2 : w1.heap[w.heap.size + 1]? = some (.cells #[u0, u1, u2] 45 (0, 0)))
    (hf : Fr S w1 w3) (hS : ∀ k ∈ S, w.heap.size + 2 ≤ k) :
    w3.heap[w.heap.size]? = some (.cells #[v0, v1, v2] 45 (0, 0)) ∧ w3.heap[w.heap.size + 1]? = some (.cells #[u0, u1, u2] 45 (0, 0)) ∧
    w3.cell? ⟨w.heap.size, 0, none⟩ = some v0 ∧ w3.cell? ⟨w.heap.size, 1, none⟩ = some v1 ∧ w3.cell? ⟨w.heap.size, 2, none⟩ = some v2 ∧ w3.frozen? ⟨w.heap.size, 2, none⟩ = false ∧
    w3.cell? ⟨w.heap.size + 1, 0, none⟩ = some u0 ∧ w3.cell? ⟨w.heap.size + 1, 1, none⟩ = some u1 ∧ w3.cell? ⟨w.heap.size + 1, 2, none⟩ = some u2 ∧
    w3.frozen? ⟨w.heap.size + 1, 0, none⟩ = false ∧ w3.frozen? ⟨w.heap.size + 1, 1, none⟩ = false ∧ w3.frozen? ⟨w.heap.size + 1, 2, none⟩ = false := by
  have hb0 := hf.blk h1 (fun h => by have := hS _ h; omega)
  have hb1 := hf.blk h2 (fun h => by have := hS _ h; omega)
  exact ⟨hb0, hb1, cell_blk hb0 0, cell_blk hb0 1, cell_blk hb0 2, frozen_blk hb0 2, cell_blk hb1 0, cell_blk hb1 1, cell_blk hb1 2, frozen_blk hb1 0, frozen_blk hb1 1, frozen_blk hb1 2⟩

set_option maxHeartbeats 1000000 in
theorem refpush_nil (h : IsRef w G v S) (hG : ∀ k ∈ G, k < w.heap.size) (tick : Int) (ht : 0 ≤ tick) (h0 : S.L.length = 0) :
    Calls Try.prog 23 #[v, .int .i64 tick] w (RefTo w G (S.pushed tick) (fun v' => .returned (.tuple #[v', .int .i64 0]))) := by
  obtain ⟨ca, cc, la, lc, es, h⟩ := h
  obtain rfl := h.val
  have he : es.length = 0 := by rw [h.L, entL_length] at h0; exact h0
  obtain rfl : es = [] := List.eq_nil_of_length_eq_zero he
  obtain ⟨rfl, rfl⟩ := h.none rfl
  obtain ⟨i0, hi0, hz0, hz1, hz2⟩ := info_parts infoEnt
  have hk := h.keep
  have H := Lib.hid h
  have HG := Lib.hid hG
  have HF := Lib.hid fun (o1 o2 o3 : Obj) => (((Fr.refl [] w).alloc o1).alloc o2).alloc o3
  have HS := Lib.hid fun (w : World) => Seg.nil w 69 2
  have HN := Lib.hid fun (o1 o2 : Obj) (x y : Value) => (by
    have := new_two ((w.alloc o1).alloc o2) x y 69
    simp only [World.size_alloc] at this
    exact this : ∀ j u, [x, y][j]? = some u → (((w.alloc o1).alloc o2).alloc (.cells #[x, y] 69)).cell? ((⟨w.heap.size + 1 + 1, 0, none⟩ : Addr).add j) = some u)
  have hk1 : ¬ S.keep < 1 := by omega
  clear h hG h0 he
  go_enter Try.func23, Try.ntmps23
  go_wp2_with (at_builtin; refine wpList_append_seg rfl _ _ 43 rfl 69 i0 _ 2 32 Try.underlying43 hi0 hz0 hz1 hz2 rfl (by decide) none 0 0 [] rfl (HS.out _) ⟨w.heap.size + 1 + 1, 0, none⟩ 1 1 [_, _] rfl rfl (HN.out _ _ _ _) (by simp [Value.oneCell']) (by unfold maxLen; omega) (by omega) ?_; intro ao' cap' w3 hs3 hf3 hx3; simp only [Nat.zero_add, List.nil_append] at hs3; obtain ⟨p0, p1, k0, k1, k2, e2, r0, r1, r2, q0, q1, q2⟩ := refpush_mid (alloc_old (alloc_old (alloc_new _ _))) (alloc_old (alloc_second _ _ _)) hf3 (by simp [blk]); have HS3 := Lib.hid hs3; have HF3 := Lib.hid hf3; have HX3 := Lib.hid hx3; clear hs3 hf3 hx3)
  refine bodyPost_ret (v := .tuple #[.agg #[.int .i64 S.keep, .slice ca S.cells.length cc, .slice ao' 1 cap'], .int .i64 0]) (by simp [results, Try.results23, go_sem, *]) rfl ?_
  generalize hW : ((((_ : World).setCell _ _).setCell _ _).setCell _ _).setCell _ _ = W5
  have hW5 : Fr [w.heap.size, w.heap.size + 1] w3 W5 := by
    rw [← hW]; exact ((((Fr.refl _ _).setCell (.inl (by simp)) _).setCell (.inl (by simp)) _).setCell (.inl (by simp)) _).setCell (.inl (by simp)) _
  obtain ⟨g2, off2, rfl⟩ := HS3.out.somewhere (by omega)
  have := refpush_to (w' := W5) (tick := tick) 0 H.out HG.out (by rw [if_neg (by simp only [List.length_nil]; omega)]) ((HF.out _ _ _).trans HF3.out (by simp [blk, Ext])) (fun k hk => by have := HX3.out k hk; simp [blk] at this; omega) HS3.out hW5
  rw [cutA_zero] at this
  exact this
end
end Go.Proofs.Ytchigfofcdildaa
