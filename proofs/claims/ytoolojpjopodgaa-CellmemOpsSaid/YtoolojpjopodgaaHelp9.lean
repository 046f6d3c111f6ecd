/- Chapter 9: the statements' helpers: Ints, six, Has. -/
import Derived.Test.YtoolojpjopodgaaLives9
import Derived.Test.YtoolojpjopodgaaRow
namespace Go.Proofs.Ytoolojpjopodgaa
open Go.RowKit

theorem Rd.news {w : World} {size : Nat} {ad : Addr} {n : Nat} {xs : List Value} (h : Rd w size (some ad) n xs) (h0 : 0 < n) : ∀ j u, xs[j]? = some u → w.cell? (ad.add j) = some u := by
  intro j u hu
  obtain ⟨g, off, ha, _, hc⟩ := h.at h0
  cases ha
  have hj : j < n * size := by have := (List.getElem?_eq_some_iff.1 hu).1; rw [h.1] at this; exact this
  rw [Addr.add_mid, hc j hj, hu]

/-- a slice of ints that came in -/
structure Srci (w : World) (ao : Option Addr) (cap : Nat) (l : List Int) : Prop where
  rd : Rd w 1 ao l.length (ints l)
  bnd : ∀ x ∈ l, bounded x
  fit : l.length ≤ cap
  capm : cap ≤ maxLen
  nil : ao = none → cap = 0 ∧ l = []

theorem Srci.old {w w' : World} {ao : Option Addr} {cap : Nat} {l : List Int} (h : Srci w ao cap l) (hf : Fr [] w w') : Srci w' ao cap l := ⟨h.rd.fr hf (by simp), h.bnd, h.fit, h.capm, h.nil⟩

theorem srci_of_row {w : World} {a : Option Addr} {len cap : Nat} {zs : List Int}
    (h : (a = none ∧ len = 0 ∧ cap = 0 ∧ zs = []) ∨
      ∃ x, a = some x ∧ len ≤ cap ∧ cap ≤ maxLen ∧ zs.length = cap ∧ (∀ i, i < zs.length → w.cell? (x.add i) = some (.int .i64 (zs.getD i 0))) ∧ ∀ n ∈ zs, (Lit.int .i64 n).wf = true) :
    ∃ l : List Int, l.length = len ∧ Srci w a cap l := by
  obtain ⟨l, hl, h1, h2⟩ := rd_of_row h
  refine ⟨l, hl, h1, h2, ?_, ?_, fun hn => ?_⟩
  · rcases h with ⟨rfl, rfl, rfl, rfl⟩ | ⟨x, rfl, h3, h4, _⟩ <;> omega
  · rcases h with ⟨rfl, rfl, rfl, rfl⟩ | ⟨x, rfl, h3, h4, _⟩
    · simp
    · exact h4
  · rcases h with ⟨rfl, rfl, rfl, rfl⟩ | ⟨x, rfl, h3, h4, _⟩
    · exact ⟨rfl, List.eq_nil_of_length_eq_zero hl⟩
    · cases hn

def IntsTo (w : World) (l : List Int) (e : Ending) (w' : World) : Prop := ∃ oa oc, e = .returned (.slice oa l.length oc) ∧ Seg w' 3 1 oa l.length oc (ints l) ∧ Fr [] w w' ∧ ∀ k ∈ blk oa, w.heap.size ≤ k

set_option maxRecDepth 100000 in
set_option maxHeartbeats 1000000 in
theorem ints_any (w : World) (ao : Option Addr) (cap : Nat) (l : List Int) (most : Nat) (h : Srci w ao cap l) (hm : most ≤ 1000000) :
    Calls Try.prog 12 #[.slice ao l.length cap, .int .i64 most] w (IntsTo w (l.take most)) := by
  have hlen : l.length ≤ 9223372036854775807 := by have := h.rd.2.1; unfold maxLen at this; omega
  have hcl := h.fit
  obtain ⟨i0, hi0, hz0, hz1, hz2⟩ := info_parts infoIntC
  cases ao with
  | none =>
    obtain ⟨rfl, rfl⟩ := h.nil rfl
    clear h
    have hmin : min (0 : Int) (most : Int) = 0 := by omega
    go_enter Try.func12, Try.ntmps12
    go_wp2
    go_ret
    exact ⟨none, 0, by simp, by simpa [ints] using Seg.nil _ _ _, Fr.refl _ _, by simp [blk]⟩
  | some ad =>
    obtain ⟨k, hk⟩ : ∃ k, k = min l.length most := ⟨_, rfl⟩
    have htk : l.take most = l.take k := by
      rw [hk]
      rcases Nat.le_total l.length most with h | h
      · rw [Nat.min_eq_left h, List.take_of_length_le h, List.take_of_length_le (Nat.le_refl _)]
      · rw [Nat.min_eq_right h]
    have hkl : k ≤ l.length := by omega
    have hkm : k ≤ 1000000 := by omega
    have htl : (l.take k).length = k := by rw [List.length_take]; omega
    have HTL := Lib.hid htl
    have HN := Lib.hid (fun j u hu => by
      have hj : j < (ints (l.take k)).length := (List.getElem?_eq_some_iff.1 hu).1
      rw [ints_length, htl] at hj
      have h1 := h.rd.news (by omega) j u (by
        rw [ints_get] at hu ⊢
        rwa [List.getElem?_take_of_lt hj] at hu)
      exact h1 : ∀ j u, (ints (l.take k))[j]? = some u → w.cell? (ad.add j) = some u)
    have hto := run_slice_to (P := Try.prog) 22 3 Try.underlying22 1 (by kernel_rfl) (some ad) l.length cap k (by omega)
    have HS := Lib.hid (Seg.nil w 3 1)
    rw [htk]
    have HK := Lib.hid hk
    have hmin : min (l.length : Int) (most : Int) = (k : Int) := by omega
    clear h htk htl hk
    go_enter Try.func12, Try.ntmps12
    go_wp2_with (at_builtin; refine wpList_append_seg rfl _ _ 22 rfl 3 i0 _ 1 8 Try.underlying22 hi0 hz0 hz1 hz2 rfl (by decide) none 0 0 [] rfl HS.out ad k cap (ints (l.take k)) rfl (by rw [ints_length, HTL.out]; omega) HN.out (ints_one _) (by unfold maxLen; omega) (by omega) ?_; intro ao' cap' w5 hs5 hf5 hx5; have HS5 := Lib.hid hs5; have HF5 := Lib.hid hf5; have HX5 := Lib.hid hx5; clear hs5 hf5 hx5)
    go_ret
    refine ⟨ao', cap', by rw [HTL.out]; simp, by have := HS5.out; rw [HTL.out]; simpa using this, HF5.out, fun k hk => ?_⟩
    rcases HX5.out k hk with h | h
    · simp [blk] at h
    · exact h

/-- the six cells that a statement takes -/
def sixL (l : List Int) : List Int := l.take 6 ++ List.replicate (6 - l.length) 0
theorem sixL_len (l : List Int) : (sixL l).length = 6 := by simp [sixL]; omega
def sixK (l : List Int) (k : Nat) : List Int := l.take k ++ List.replicate (6 - k) 0
theorem sixK_len (l : List Int) (k : Nat) (hk : k ≤ 6) (hl : k ≤ l.length) : (sixK l k).length = 6 := by simp [sixK]; omega
theorem sixK_step (l : List Int) (k : Nat) (hk : k < 6) (hl : k < l.length) : (sixK l k).set k l[k] = sixK l (k + 1) := by
  unfold sixK
  have e1 : (l.take k).length = k := by simp; omega
  rw [List.set_append_right _ _ (by omega), e1, Nat.sub_self, show 6 - k = (6 - (k + 1)) + 1 by omega, List.replicate_succ, List.set_cons_zero, List.take_succ_eq_append_getElem hl, List.append_assoc, List.singleton_append]
theorem sixK_end (l : List Int) (k : Nat) (hk : k ≤ 6) (hl : k ≤ l.length) (h : k = 6 ∨ k = l.length) : sixK l k = sixL l := by
  unfold sixK sixL
  rcases h with rfl | rfl
  · simp; omega
  · rw [List.take_of_length_le (Nat.le_refl _), List.take_of_length_le hk]

set_option maxRecDepth 100000 in
set_option maxHeartbeats 1000000 in
theorem six_any (w : World) (ao : Option Addr) (cap : Nat) (l : List Int) (h : Rd w 1 ao l.length (ints l)) :
    Calls Try.prog 21 #[.slice ao l.length cap] w fun e w' => ∃ b, e = .returned (.slice (some ⟨b, 0, none⟩) 6 6) ∧ w.heap.size ≤ b ∧ RowNew w b (sixL l) w' := by
  have hmk : ∀ u : World, (Instr.makeSlice 22 (.int .i64 6) (.int .i64 6)).run Try.prog u = _ := fun u => make_ints 6 (by omega) u
  have hlen : l.length ≤ 9223372036854775807 := by have := h.2.1; unfold maxLen at this; omega
  have H := Lib.hid h
  obtain ⟨b, hb⟩ : ∃ b, b = w.heap.size := ⟨_, rfl⟩
  have HB := Lib.hid hb
  have HI := Lib.hid (⟨by rw [hb]; exact alloc_new w _, (Fr.refl [] w).alloc _⟩ : RowNew w b (sixK l 0) (w.alloc (row (sixK l 0))))
  clear h hb
  go_enter Try.func21, Try.ntmps21
  go_wp2
  rw [← HB.out]
  go_loopw [4] (fun iv wr => ∃ i : Nat, i ≤ 6 ∧ i ≤ l.length ∧ iv = .int .i64 (i : Int) ∧ RowNew w b (sixK l i) wr) (fun iv _ => 6 - (intOf iv).toNat)
  case atStart => exact ⟨0, by omega, by omega, rfl, HI.out⟩
  case round =>
    obtain ⟨i, hi, hil, rfl, hrow, hf⟩ := hrel
    by_cases hlt : i < l.length ∧ i < 6
    · obtain ⟨h1, h2⟩ := hlt
      obtain ⟨g, off, rfl, hg, hc⟩ := (H.out.fr hf (by simp)).at (by omega)
      have cx : wr.cell? ⟨g, off + i, none⟩ = some (.int .i64 l[i]) := by rw [hc i (by omega), ints_get, List.getElem?_eq_getElem h1]; rfl
      have hsl := sixK_len l i hi hil
      have cb : wr.cell? ⟨b, i, none⟩ = some (.int .i64 ((sixK l i)[i]'(by omega))) := row_cell hrow (by omega)
      have fb : wr.frozen? ⟨b, i, none⟩ = false := row_frozen hrow i
      have HR := Lib.hid hrow
      have HF := Lib.hid hf
      clear hc hrow hf
      go_wp2
      go_roundw
      case rel =>
        refine ⟨i + 1, by omega, by omega, by go_num, ?_, ?_⟩
        · have h := row_set HR.out i l[i]
          rw [sixK_step l i h2 h1] at h
          exact h
        · exact HF.out.setCell (p := ⟨b, i, none⟩) (.inr (by rw [HB.out]; exact Nat.le_refl _)) _
      case measure => simp [intOf]; omega
    · have HR := Lib.hid hrow
      have HF := Lib.hid hf
      have hend : i = 6 ∨ i = l.length := by omega
      have HE := Lib.hid hend
      clear hrow hf hend
      by_cases h1 : i < l.length
      · have h2 : ¬ i < 6 := by omega
        clear hlt
        go_wp2
        go_ret
        exact ⟨b, rfl, by rw [HB.out]; exact Nat.le_refl _, by rw [← sixK_end l i hi hil HE.out]; exact HR.out, HF.out⟩
      · clear hlt
        go_wp2
        go_ret
        exact ⟨b, rfl, by rw [HB.out]; exact Nat.le_refl _, by rw [← sixK_end l i hi hil HE.out]; exact HR.out, HF.out⟩

set_option maxRecDepth 100000 in
set_option maxHeartbeats 1000000 in
theorem hasn_any (w : World) (ao : Option Addr) (cap : Nat) (l : List Int) (n : Int) (h : Rd w 1 ao l.length (ints l)) :
    Calls Try.prog 28 #[.slice ao l.length cap, .int .i64 n] w fun e w' => e = .returned (.bool (decide (n ∈ l))) ∧ w = w' := by
  have hlen : l.length ≤ 9223372036854775807 := by have := h.2.1; unfold maxLen at this; omega
  have H := Lib.hid h
  clear h
  go_enter Try.func28, Try.ntmps28
  go_wp2
  go_loop [5] (fun iv => ∃ i : Nat, i ≤ l.length ∧ iv = .int .i64 (i : Int) ∧ n ∉ l.take i) (fun iv => l.length - (intOf iv).toNat)
  case atStart => exact ⟨0, by omega, rfl, by simp⟩
  case round =>
    obtain ⟨i, hi, rfl, hni⟩ := hrel
    have HNI := Lib.hid hni
    clear hni
    by_cases hlt : i < l.length
    · obtain ⟨g, off, rfl, hg, hc⟩ := H.out.at (by omega)
      have cx : w.cell? ⟨g, off + i, none⟩ = some (.int .i64 l[i]) := by rw [hc i (by omega), ints_get, List.getElem?_eq_getElem hlt]; rfl
      obtain ⟨x, hx⟩ : ∃ x, x = l[i] := ⟨_, rfl⟩
      rw [← hx] at cx
      have HX := Lib.hid hx
      clear hc hx
      by_cases hxn : x = n
      · have hb : (x == n) = true := by simpa using hxn
        have HXN := Lib.hid hxn
        clear hxn
        go_wp2
        go_ret
        exact ⟨ret_bool (by have h : n ∈ l := by rw [← HXN.out, HX.out]; exact List.getElem_mem hlt
                            simp [h]), rfl⟩
      · have hb : (x == n) = false := by simpa using hxn
        have HXN := Lib.hid hxn
        clear hxn
        go_wp2
        go_round
        case rel =>
          refine ⟨i + 1, by omega, by go_num, ?_⟩
          rw [List.take_succ_eq_append_getElem hlt, List.mem_append, List.mem_singleton, ← HX.out]
          rintro (h | h)
          · exact HNI.out h
          · exact HXN.out h.symm
        case measure => simp [intOf]; omega
    · go_wp2
      go_ret
      exact ⟨ret_bool (by have h := HNI.out; rw [List.take_of_length_le (by omega)] at h; simp [h]), rfl⟩
end Go.Proofs.Ytoolojpjopodgaa
