/- arenanetref01.Ints; a slice of ints that came in. -/
import Derived.Test.YtoplpmkcfgadlaaMem2
import Derived.Test.YtoplpmkcfgadlaaRow
import Derived.Test.YtoplpmkcfgadlaaAround
import Derived.Test.YtoplpmkcfgadlaaMem3
namespace Go.Proofs.Ytoplpmkcfgadlaa
open Go.RowKit

theorem Rd.news {w : World} {size : Nat} {ad : Addr} {n : Nat} {xs : List Value} (h : Rd w size (some ad) n xs) (h0 : 0 < n) : ∀ j u, xs[j]? = some u → w.cell? (ad.add j) = some u := by
  intro j u hu
  obtain ⟨g, off, ha, _, hc⟩ := h.at h0
  cases ha
  have hj : j < n * size := by have := (List.getElem?_eq_some_iff.1 hu).1; rw [h.1] at this; exact this
  rw [Addr.add_mid, hc j hj, hu]

/-- a slice of ints that came in -/
structure Srci (w : World) (ao : Option Addr) (cap : Nat) (l : List Int) : Prop where
  rd : Rd w 1 ao l.length (ints l)
  bnd : ∀ x ∈ l, bounded x
  fit : l.length ≤ cap
  capm : cap ≤ maxLen
  nil : ao = none → cap = 0 ∧ l = []

theorem Srci.old {w w' : World} {ao : Option Addr} {cap : Nat} {l : List Int} (h : Srci w ao cap l) (hf : Fr [] w w') : Srci w' ao cap l := ⟨h.rd.fr hf (by simp), h.bnd, h.fit, h.capm, h.nil⟩

theorem srci_of_row {w : World} {a : Option Addr} {len cap : Nat} {zs : List Int}
    (h : (a = none ∧ len = 0 ∧ cap = 0 ∧ zs = []) ∨
      ∃ x, a = some x ∧ len ≤ cap ∧ cap ≤ maxLen ∧ zs.length = cap ∧ (∀ i, i < zs.length → w.cell? (x.add i) = some (.int .i64 (zs.getD i 0))) ∧ ∀ n ∈ zs, (Lit.int .i64 n).wf = true) :
    ∃ l : List Int, l.length = len ∧ Srci w a cap l := by
  obtain ⟨l, hl, h1, h2⟩ := rd_of_row h
  refine ⟨l, hl, h1, h2, ?_, ?_, fun hn => ?_⟩
  · rcases h with ⟨rfl, rfl, rfl, rfl⟩ | ⟨x, rfl, h3, h4, _⟩ <;> omega
  · rcases h with ⟨rfl, rfl, rfl, rfl⟩ | ⟨x, rfl, h3, h4, _⟩
    · simp
    · exact h4
  · rcases h with ⟨rfl, rfl, rfl, rfl⟩ | ⟨x, rfl, h3, h4, _⟩
    · exact ⟨rfl, List.eq_nil_of_length_eq_zero hl⟩
    · cases hn

def IntsTo (w : World) (l : List Int) (e : Ending) (w' : World) : Prop := ∃ oa oc, e = .returned (.slice oa l.length oc) ∧ Seg w' 3 1 oa l.length oc (ints l) ∧ Fr [] w w' ∧ ∀ k ∈ blk oa, w.heap.size ≤ k

set_option maxRecDepth 100000 in
set_option maxHeartbeats 1000000 in
theorem ints_any (w : World) (ao : Option Addr) (cap : Nat) (l : List Int) (most : Nat) (h : Srci w ao cap l) (hm : most ≤ 1000000) :
    Calls Try.prog 23 #[.slice ao l.length cap, .int .i64 most] w (IntsTo w (l.take most)) := by
  have hlen : l.length ≤ 9223372036854775807 := by have := h.rd.2.1; unfold maxLen at this; omega
  have hcl := h.fit
  obtain ⟨i0, hi0, hz0, hz1, hz2⟩ := info_parts infoInt
  cases ao with
  | none =>
    obtain ⟨rfl, rfl⟩ := h.nil rfl
    clear h
    have hmin : min (0 : Int) (most : Int) = 0 := by omega
    go_enter Try.func23, Try.ntmps23
    go_wp2
    go_ret
    exact ⟨none, 0, by simp, by simpa [ints] using Seg.nil _ _ _, Fr.refl _ _, by simp [blk]⟩
  | some ad =>
    obtain ⟨k, hk⟩ : ∃ k, k = min l.length most := ⟨_, rfl⟩
    have htk : l.take most = l.take k := by
      rw [hk]
      rcases Nat.le_total l.length most with h | h
      · rw [Nat.min_eq_left h, List.take_of_length_le h, List.take_of_length_le (Nat.le_refl _)]
      · rw [Nat.min_eq_right h]
    have hkl : k ≤ l.length := by omega
    have hkm : k ≤ 1000000 := by omega
    have htl : (l.take k).length = k := by rw [List.length_take]; omega
    have HTL := Lib.hid htl
    have HN := Lib.hid (fun j u hu => by
      have hj : j < (ints (l.take k)).length := (List.getElem?_eq_some_iff.1 hu).1
      rw [ints_length, htl] at hj
      have h1 := h.rd.news (by omega) j u (by
        rw [ints_get] at hu ⊢
        rwa [List.getElem?_take_of_lt hj] at hu)
      exact h1 : ∀ j u, (ints (l.take k))[j]? = some u → w.cell? (ad.add j) = some u)
    have hto := run_slice_to (P := Try.prog) 28 3 Try.underlying28 1 (by kernel_rfl) (some ad) l.length cap k (by omega)
    have HS := Lib.hid (Seg.nil w 3 1)
    rw [htk]
    have HK := Lib.hid hk
    have hmin : min (l.length : Int) (most : Int) = (k : Int) := by omega
    have hmin2 : (if most < l.length then (most : Int) else (l.length : Int)) = (k : Int) := by split <;> omega
    clear h htk htl hk
    go_enter Try.func23, Try.ntmps23
    go_wp2_with (at_builtin; refine wpList_append_seg rfl _ _ 28 rfl 3 i0 _ 1 8 Try.underlying28 hi0 hz0 hz1 hz2 rfl (by decide) none 0 0 [] rfl HS.out ad k cap (ints (l.take k)) rfl (by rw [ints_length, HTL.out]; omega) HN.out (ints_one _) (by unfold maxLen; omega) (by omega) ?_; intro ao' cap' w5 hs5 hf5 hx5; have HS5 := Lib.hid hs5; have HF5 := Lib.hid hf5; have HX5 := Lib.hid hx5; clear hs5 hf5 hx5)
    go_ret
    refine ⟨ao', cap', by rw [HTL.out]; simp, by have := HS5.out; rw [HTL.out]; simpa using this, HF5.out, fun k hk => ?_⟩
    rcases HX5.out k hk with h | h
    · simp [blk] at h
    · exact h

end Go.Proofs.Ytoplpmkcfgadlaa
