/- A slice of bytes that came in; arenanetref01.Few (turned from chapter 29's text). -/
import Derived.Test.YtcgndeggemceaaaSnRound
import Derived.OpenShut
namespace Go.Proofs.Ytcgndeggemceaaa
open Go.RowKit

/-- the slice '.slice ao l.length cap' reads as the bytes l -/
structure Src (w : World) (ao : Option Addr) (cap : Nat) (l : List Nat) : Prop where
  rd : Rd w 1 ao l.length (bts l)
  bytes : BytesB l
  fit : l.length ≤ cap
  capm : cap ≤ maxLen
  nil : ao = none → cap = 0 ∧ l = []

theorem Src.fr {w w' : World} {S : List Nat} {ao : Option Addr} {cap : Nat} {l : List Nat} (h : Src w ao cap l) (hf : Fr S w w') (hS : ∀ k ∈ blk ao, k ∉ S) : Src w' ao cap l := ⟨h.rd.fr hf hS, h.bytes, h.fit, h.capm, h.nil⟩
theorem Src.old {w w' : World} {ao : Option Addr} {cap : Nat} {l : List Nat} (h : Src w ao cap l) (hf : Fr [] w w') : Src w' ao cap l := h.fr hf (by simp)
theorem Seg.src {w : World} {ao : Option Addr} {cap : Nat} {l : List Nat} (h : Seg w 5 1 ao l.length cap (bts l)) (hb : BytesB l) : Src w ao cap l :=
  ⟨h.rd, hb, h.2.2.1, h.2.1, fun hn => by
    rcases h.2.2.2 with ⟨_, h1, h2⟩ | ⟨g, off, cur, ha, _⟩
    · exact ⟨h2, List.eq_nil_of_length_eq_zero h1⟩
    · rw [hn] at ha; cases ha⟩

theorem byte_bounds {n : Int} (h : (Lit.int .u8 n).wf = true) : 0 ≤ n ∧ n < 256 := by
  have h1 : IntKind.u8.min ≤ n ∧ n ≤ IntKind.u8.max := by simpa [Lit.wf] using h
  have e1 : IntKind.u8.min = 0 := rfl
  have e2 : IntKind.u8.max = 255 := rfl
  omega

theorem src_of_row {w : World} {a : Option Addr} {len cap : Nat} {zs : List Int}
    (h : (a = none ∧ len = 0 ∧ cap = 0 ∧ zs = []) ∨
      ∃ x, a = some x ∧ len ≤ cap ∧ cap ≤ maxLen ∧ zs.length = cap ∧ (∀ i, i < zs.length → w.cell? (x.add i) = some (.int .u8 (zs.getD i 0))) ∧ ∀ n ∈ zs, (Lit.int .u8 n).wf = true) :
    ∃ l : List Nat, l.length = len ∧ Src w a cap l := by
  rcases h with ⟨rfl, rfl, rfl, rfl⟩ | ⟨x, rfl, hl, hm, hz, hc, hw⟩
  · exact ⟨[], rfl, ⟨⟨rfl, by simp, .inl rfl⟩, by intro x hx; simp at hx, by simp, by simp, fun _ => ⟨rfl, rfl⟩⟩⟩
  · have hzn : ∀ n ∈ zs, 0 ≤ n ∧ n < 256 := fun n hn => byte_bounds (hw n hn)
    have hlen : ((zs.take len).map Int.toNat).length = len := by simp; omega
    refine ⟨(zs.take len).map Int.toNat, hlen, ⟨⟨by simp [bts_length], by rw [hlen]; omega, ?_⟩, fun y hy => ?_, by omega, hm, fun h => by cases h⟩⟩
    · rw [hlen]
      rcases Nat.eq_zero_or_pos len with h0 | h0
      · exact .inl h0
      · right
        have h1 := hc 0 (by omega)
        have hs : x.spot = none := by
          have := World.cell?_spot h1
          simpa [Addr.add] using this
        have hg : x.block < w.heap.size := by
          have h2 : w.cell? x = some (.int .u8 (zs.getD 0 0)) := by simpa [Addr.add] using h1
          unfold World.cell? at h2
          cases hb : w.heap[x.block]? with
          | none => rw [hb] at h2; cases h2
          | some o => exact lt_of_blk hb
        obtain ⟨g, off, sp⟩ := x
        simp only at hs
        subst hs
        refine ⟨g, off, rfl, hg, fun j hj => ?_⟩
        have h3 := hc j (by omega)
        rw [Addr.add_mid] at h3
        have hj2 : j < zs.length := by omega
        have hzj := hzn zs[j] (List.getElem_mem hj2)
        rw [h3, bts_get, List.getElem?_map, List.getElem?_take_of_lt (by omega), List.getElem?_eq_getElem hj2]
        simp only [Option.map_some, List.getD_eq_getElem?_getD, List.getElem?_eq_getElem hj2, Option.getD_some]
        rw [Int.toNat_of_nonneg hzj.1]
    · simp only [List.mem_map] at hy
      obtain ⟨n, hn, rfl⟩ := hy
      have := hzn n (List.mem_of_mem_take hn)
      omega

theorem DiffTo.src {w w' : World} {l : List Nat} {e : Ending} (h : DiffTo w l e w') (hb : BytesB l) : ∃ oa oc, e = .returned (.slice oa l.length oc) ∧ Seg w' 5 1 oa l.length oc (bts l) ∧ Src w' oa oc l ∧ Fr [] w w' ∧ ∀ k ∈ blk oa, w.heap.size ≤ k := by
  obtain ⟨oa, oc, h1, h2, h3, h4⟩ := h
  exact ⟨oa, oc, h1, h2, h2.src hb, h3, h4⟩

theorem BytesB.take {l : List Nat} (h : BytesB l) (k : Nat) : BytesB (l.take k) := fun x hx => h x (List.mem_of_mem_take hx)

theorem Rd.news {w : World} {size : Nat} {ad : Addr} {n : Nat} {xs : List Value} (h : Rd w size (some ad) n xs) (h0 : 0 < n) : ∀ j u, xs[j]? = some u → w.cell? (ad.add j) = some u := by
  intro j u hu
  obtain ⟨g, off, ha, _, hc⟩ := h.at h0
  cases ha
  have hj : j < n * size := by have := (List.getElem?_eq_some_iff.1 hu).1; rw [h.1] at this; exact this
  rw [Addr.add_mid, hc j hj, hu]

set_option maxRecDepth 100000 in
set_option maxHeartbeats 1000000 in
theorem few_any (w : World) (ao : Option Addr) (cap : Nat) (l : List Nat) (most : Nat) (h : Src w ao cap l) (hm : most ≤ 1000000) :
    Calls Try.prog 19 #[.slice ao l.length cap, .int .i64 most] w (DiffTo w (l.take most)) := by
  have hlen : l.length ≤ 9223372036854775807 := by have := h.rd.2.1; unfold maxLen at this; omega
  have hcl := h.fit
  obtain ⟨i0, hi0, hz0, hz1, hz2⟩ := info_parts infoByte
  cases ao with
  | none =>
    obtain ⟨rfl, rfl⟩ := h.nil rfl
    clear h
    have hmin : min (0 : Int) (most : Int) = 0 := by omega
    go_enter Try.func19, Try.ntmps19
    go_wp2
    go_ret
    exact ⟨none, 0, by simp, by simpa [bts] using Seg.nil _ _ _, Fr.refl _ _, by simp [blk]⟩
  | some ad =>
    obtain ⟨k, hk⟩ : ∃ k, k = min l.length most := ⟨_, rfl⟩
    have htk : l.take most = l.take k := by
      rw [hk]
      rcases Nat.le_total l.length most with h | h
      · rw [Nat.min_eq_left h, List.take_of_length_le h, List.take_of_length_le (Nat.le_refl _)]
      · rw [Nat.min_eq_right h]
    have hkl : k ≤ l.length := by omega
    have hkm : k ≤ 1000000 := by omega
    have htl : (l.take k).length = k := by rw [List.length_take]; omega
    have HTL := Lib.hid htl
    have HN := Lib.hid (fun j u hu => by
      have hj : j < (bts (l.take k)).length := (List.getElem?_eq_some_iff.1 hu).1
      rw [bts_length, htl] at hj
      have h1 := h.rd.news (by omega) j u (by
        rw [bts_get] at hu ⊢
        rwa [List.getElem?_take_of_lt hj] at hu)
      exact h1 : ∀ j u, (bts (l.take k))[j]? = some u → w.cell? (ad.add j) = some u)
    have hto := run_slice_to (P := Try.prog) 26 5 Try.underlying26 1 (by kernel_rfl) (some ad) l.length cap k (by omega)
    have HS := Lib.hid (Seg.nil w 5 1)
    rw [htk]
    have HK := Lib.hid hk
    have hmin : min (l.length : Int) (most : Int) = (k : Int) := by omega
    have hmin2 : (if most < l.length then (most : Int) else (l.length : Int)) = (k : Int) := by split <;> omega
    clear h htk htl hk
    go_enter Try.func19, Try.ntmps19
    go_wp2_with (at_builtin; refine wpList_append_seg rfl _ _ 26 rfl 5 i0 _ 1 1 Try.underlying26 hi0 hz0 hz1 hz2 rfl (by decide) none 0 0 [] rfl HS.out ad k cap (bts (l.take k)) rfl (by rw [bts_length, HTL.out]; omega) HN.out (bts_one _) (by unfold maxLen; omega) (by omega) ?_; intro ao' cap' w5 hs5 hf5 hx5; have HS5 := Lib.hid hs5; have HF5 := Lib.hid hf5; have HX5 := Lib.hid hx5; clear hs5 hf5 hx5)
    go_ret
    refine ⟨ao', cap', by rw [HTL.out]; simp, by have := HS5.out; rw [HTL.out]; simpa using this, HF5.out, fun k hk => ?_⟩
    rcases HX5.out k hk with h | h
    · simp [blk] at h
    · exact h
end Go.Proofs.Ytcgndeggemceaaa
