/- The statements' helpers of chapter 29: SameBytes, lives, Length. -/
import Derived.Test.YtjehkpfmndfjeaaLaw29a
namespace Go.Proofs.Ytjehkpfmndfjeaa
open Go.RowKit

set_option maxHeartbeats 1000000 in
theorem same_any (w : World) (ao bo : Option Addr) (ca cb : Nat) (a b : List Nat) (ha : Rd w 1 ao a.length (bts a)) (hb : Rd w 1 bo b.length (bts b)) :
    Calls Try.prog 13 #[.slice ao a.length ca, .slice bo b.length cb] w fun e w' => e = .returned (.bool (decide (a = b))) ∧ Fr [] w w' := by
  have hla : a.length ≤ 9223372036854775807 := by have := ha.2.1; unfold maxLen at this; omega
  have hlb : b.length ≤ 9223372036854775807 := by have := hb.2.1; unfold maxLen at this; omega
  have HA := Lib.hid ha
  have HB := Lib.hid hb
  clear ha hb
  by_cases hl : a.length = b.length
  · have hne : ((a.length : Int) != (b.length : Int)) = false := by rw [hl]; simp
    have HL := Lib.hid hl
    clear hl
    go_enter Try.func13, Try.ntmps13
    go_wp2_with fail
    go_loopw [5] (fun i wr => ∃ k : Nat, k ≤ a.length ∧ i = .int .i64 k ∧ a.take k = b.take k ∧ Fr [] w wr) (fun i _ => a.length - (intOf i).toNat)
    case atStart => exact ⟨0, Nat.zero_le _, rfl, rfl, Fr.refl _ _⟩
    case round =>
      obtain ⟨k, hk, rfl, ht, hf⟩ := hrel
      have HT := Lib.hid ht
      have HF := Lib.hid hf
      by_cases hkn : k < a.length
      · have hkb : k < b.length := by have := HL.out; omega
        have hcx : ∃ g off g2 off2, ao = some ⟨g, off, none⟩ ∧ bo = some ⟨g2, off2, none⟩ ∧ wr.cell? ⟨g, off + k, none⟩ = some (.int .u8 ((a[k] : Nat) : Int)) ∧ wr.cell? ⟨g2, off2 + k, none⟩ = some (.int .u8 ((b[k] : Nat) : Int)) := by
          obtain ⟨g, off, h1, g1, h2⟩ := HA.out.at (by omega)
          obtain ⟨g2, off2, h3, g3, h4⟩ := HB.out.at (by omega)
          refine ⟨g, off, g2, off2, h1, h3, ?_, ?_⟩
          · rw [World.cell?_of_block (a := ⟨g, off + k, none⟩) (hf.block g g1 (by simp)), h2 k (by omega), bts_get, List.getElem?_eq_getElem hkn]; rfl
          · rw [World.cell?_of_block (a := ⟨g2, off2 + k, none⟩) (hf.block g2 g3 (by simp)), h4 k (by omega), bts_get, List.getElem?_eq_getElem hkb]; rfl
        obtain ⟨g, off, g2, off2, rfl, rfl, c1, c2⟩ := hcx
        obtain ⟨x, hx⟩ : ∃ x, x = a[k] := ⟨_, rfl⟩
        obtain ⟨y, hy⟩ : ∃ y, y = b[k] := ⟨_, rfl⟩
        rw [← hx] at c1
        rw [← hy] at c2
        have HX := Lib.hid hx
        have HY := Lib.hid hy
        have hki : (k : Int) < (a.length : Int) := by omega
        have hkj : (k : Int) < (b.length : Int) := by omega
        clear ht hf hx hy
        by_cases hxy : x = y
        · have hb : ((x : Int) != (y : Int)) = false := by rw [hxy]; simp
          have HXY := Lib.hid hxy
          clear hxy
          go_wp2_with fail
          go_quiet (fail)
          go_wp2_with fail
          go_roundw
          case rel => exact ⟨k + 1, by omega, by go_num, by rw [List.take_succ_eq_append_getElem hkn, List.take_succ_eq_append_getElem hkb, HT.out, ← HX.out, ← HY.out, HXY.out], HF.out.trans ((Fr.refl [] _).drewN _) (by simp [Ext])⟩
          case measure => simp [intOf]; omega
        · have hb : ((x : Int) != (y : Int)) = true := bne_iff_ne.2 (by omega)
          have HXY := Lib.hid hxy
          clear hxy
          go_wp2_with fail
          go_quiet (fail)
          go_wp2_with fail
          go_ret
          exact ⟨ret_bool (by
            symm
            refine decide_eq_false fun h => HXY.out ?_
            rw [HX.out, HY.out]
            simp only [h]), HF.out.trans ((Fr.refl [] _).drewN _) (by simp [Ext])⟩
      · have hke : k = a.length := by omega
        have hab : a = b := by
          have := HT.out
          rw [hke, List.take_of_length_le (Nat.le_refl _), HL.out, List.take_of_length_le (Nat.le_refl _)] at this
          exact this
        have HAB := Lib.hid hab
        clear ht hf hke hab
        go_wp2_with fail
        go_ret
        exact ⟨ret_bool (decide_eq_true HAB.out).symm, HF.out⟩
  · have hne : ((a.length : Int) != (b.length : Int)) = true := bne_iff_ne.2 (by omega)
    have HL := Lib.hid hl
    clear hl
    go_enter Try.func13, Try.ntmps13
    go_wp2_with fail
    go_ret
    exact ⟨ret_bool (decide_eq_false fun h => HL.out (by rw [h])).symm, Fr.refl _ _⟩

theorem Seg.cell0 {w : World} {oa : Option Addr} {oc : Nat} {l : List Nat} {n : Nat} (h : Seg w 5 1 oa l.length oc (bts l)) (hn : n < l.length) : ∃ g off, oa = some ⟨g, off, none⟩ ∧ w.cell? ⟨g, off + n, none⟩ = some (.int .u8 ((l[n] : Nat) : Int)) := by
  obtain ⟨g, off, cur, ha, _, _, hc, _⟩ := h.at (by have := h.2.2.1; omega)
  refine ⟨g, off, ha, ?_⟩
  rw [hc n (by omega), bts_get, List.getElem?_eq_getElem hn]; rfl

theorem src_nil (w : World) : Src w none 0 [] := ⟨⟨rfl, by simp, .inl rfl⟩, by intro x hx; simp at hx, by simp, by simp, fun _ => ⟨rfl, rfl⟩⟩

theorem lives_any (w : World) : Calls Try.prog 16 #[] w fun e w' => e = .returned (.bool true) ∧ Fr [] w w' := by
  have hs7 : ∀ u : World, Seg (u.alloc (.cells #[.int .u8 7] 5)) 5 1 (some ⟨u.heap.size, 0, none⟩) 1 1 (bts [7]) := fun u => ⟨by simp [bts], by simp [maxLen], by simp, .inr ⟨u.heap.size, 0, _, rfl, alloc_new _ _, by simp, by simp [bts]⟩⟩
  have HS7 := Lib.hid fun u => Seg.src (l := [7]) (hs7 u) (by intro x hx; simp at hx; omega)
  obtain ⟨A, hA⟩ : ∃ A, A = enc [] := ⟨_, rfl⟩
  obtain ⟨B, hB⟩ : ∃ B, B = enc [7] := ⟨_, rfl⟩
  have hA0 : A = [0] := by rw [hA]; simp [enc, digits]
  have hB1 : ∃ r, B = 1 :: r ∧ 4 ≤ r.length := by
    rw [hB]
    refine ⟨emit md0 (([7] : List Nat).flatMap bitsOf), by simp [enc, digits], emit_len _ _⟩
  have hBd : dec B = ([7], 0) := by
    have := dec_enc (l := [7]) (Z := []) (by intro x hx; simp at hx; omega) (by intro x hx; simp at hx) (by simp)
    rw [List.append_nil] at this
    rw [hB, this]; simp
  have HBB := Lib.hid (by rw [hB]; exact enc_bytes _ : Bytes B)
  have HE1 := Lib.hid fun (u : World) => (hA ▸ encode_src (src_nil u) (by simp) : Calls Try.prog 14 #[.slice none 0 0] u (SliceTo u A))
  have HE2 := Lib.hid fun (u : World) => (hB ▸ encode_src (HS7.out u) (by simp) : Calls Try.prog 14 #[.slice (some ⟨u.heap.size, 0, none⟩) 1 1] (u.alloc (.cells #[.int .u8 7] 5)) (SliceTo (u.alloc (.cells #[.int .u8 7] 5)) B))
  have HA0 := Lib.hid hA0
  have HB1 := Lib.hid hB1
  have HBD := Lib.hid hBd
  have q1 : ((A.length : Int) != 1) = false := by rw [hA0]; rfl
  have q2 : ¬ B.length < 2 := by obtain ⟨r, h1, h2⟩ := hB1; rw [h1]; simp; omega
  clear hA0 hB1 hBd hA hB hs7
  go_enter Try.func16, Try.ntmps16
  go_wp2_with fail
  refine (HE1.out _).mono ?_
  rintro e w1 ⟨aa, ac, rfl, sA, fA, nA⟩
  have SA := Lib.hid sA
  have FA := Lib.hid fA
  clear sA fA nA
  go_wp2_with fail
  refine (HE2.out _).mono ?_
  rintro e w2 ⟨ba, bc, rfl, sB, fB, nB⟩
  have SB := Lib.hid sB
  have FB := Lib.hid (((Fr.refl [] w1).alloc _).trans fB (by simp [Ext]))
  clear sB fB nB
  have hd := decode_src (SB.out.src HBB.out) SB.out.lt
  rw [HBD.out] at hd
  have HDC := Lib.hid hd
  clear hd
  go_wp2_with fail
  refine HDC.out.mono ?_
  rintro e w3 ⟨da, dc, rfl, sD, fD, nD⟩
  have hA3 := ((SA.out.fr FB.out (by simp)).fr fD (by simp)).cell0 (n := 0) (by have := HA0.out; rw [this]; simp)
  have hB3 := (SB.out.fr fD (by simp)).cell0 (n := 0) (by omega)
  have hD3 := sD.cell0 (n := 0) (by simp)
  obtain ⟨ga, oa, rfl, cA⟩ := hA3
  obtain ⟨gb, ob, rfl, cB⟩ := hB3
  obtain ⟨gd, od, rfl, cD⟩ := hD3
  have eA : A[0]'(by have := HA0.out; rw [this]; simp) = 0 := by have := HA0.out; simp [this]
  have eB : B[0]'(by omega) = 1 := by obtain ⟨r, h1, _⟩ := HB1.out; simp [h1]
  rw [eA] at cA
  rw [eB] at cB
  simp only [List.getElem_cons_zero, Nat.add_zero] at cA cB cD
  have HF := Lib.hid ((FA.out.trans FB.out (by simp [Ext])).trans fD (by simp [Ext]))
  have p1 : 0 < A.length := by have := HA0.out; rw [this]; simp
  have p2 : 0 < B.length := by omega
  clear sD fD nD eA eB
  go_wp2
  go_ret
  exact ⟨rfl, HF.out⟩
end Go.Proofs.Ytjehkpfmndfjeaa
