/- RangecoderSize returns true. -/
import Derived.Laws.Closers25b
import Derived.Test.YtjehkpfmndfjeaaRefLen
namespace Go.Proofs.Ytjehkpfmndfjeaa
open Go.RowKit

theorem enc_size_300 {X : List Nat} (h : X.length ≤ 300) : (digits X.length).length ≤ (enc X).length ∧ (enc X).length ≤ 6 + 12 * X.length ∧ (enc X).take (digits X.length).length = digits X.length := by
  obtain ⟨h1, h2⟩ := enc_size X
  have h3 := digits_len X.length 1 (by omega)
  refine ⟨h1, by omega, ?_⟩
  unfold enc
  rw [List.take_left']
  rfl

theorem bts_take (l : List Nat) (k : Nat) : (bts l).take k = bts (l.take k) := by simp [bts, List.map_take]

set_option maxRecDepth 100000 in
set_option maxHeartbeats 4000000 in
theorem size_walk (w : World) (bo : Option Addr) (cb : Nat) (b : List Nat) (sb : Src w bo cb b) :
    Calls Try.prog 8 #[.slice bo b.length cb] w fun e w' => e = .returned (.bool true) ∧ Fr [] w w' := by
  have HSB := Lib.hid sb
  obtain ⟨X, hX⟩ : ∃ X, X = b.take 300 := ⟨_, rfl⟩
  have xl : X.length ≤ 300 := by rw [hX, List.length_take]; omega
  have XB := Lib.hid (by rw [hX]; exact sb.bytes.take 300 : Bytes X)
  have HFB := Lib.hid (hX ▸ few_any w bo cb b 300 sb (by omega) : Calls Try.prog 11 #[.slice bo b.length cb, .int .i64 300] w (SliceTo w X))
  obtain ⟨E, hE⟩ : ∃ E, E = enc X := ⟨_, rfl⟩
  obtain ⟨D, hD⟩ : ∃ D, D = digits X.length := ⟨_, rfl⟩
  have hq : D.length ≤ E.length ∧ E.length ≤ 6 + 12 * X.length ∧ E.take D.length = D := by rw [hE, hD]; exact enc_size_300 xl
  obtain ⟨h1, h2, h3⟩ := hq
  have H3 := Lib.hid h3
  have HEN := Lib.hid (fun (u : World) (ao : Option Addr) (c : Nat) (h : Src u ao c X) => (hE ▸ encode_src h (by omega) : Calls Try.prog 14 #[.slice ao X.length c] u (SliceTo u E)))
  have HLN := Lib.hid (fun (u : World) => (hD ▸ reflen_any u X.length (by omega) : Calls Try.prog 20 #[.int .i64 X.length] u (SliceTo u D)))
  clear sb hX hE hD h3
  go_enter Try.func8, Try.ntmps8
  go_wp2_with fail
  refine HFB.out.mono ?_
  rintro e w1 ⟨xa, xc, rfl, sx, f1, n1⟩
  have F1 := Lib.hid f1
  have SX1 := Lib.hid (sx.src XB.out)
  clear sx f1 n1
  go_wp2_with fail
  refine (HEN.out _ _ _ SX1.out).mono ?_
  rintro e w2 ⟨ya, yc, rfl, sy, f2, n2⟩
  have F2 := Lib.hid (F1.out.trans f2 (by simp [Ext]))
  have SY2 := Lib.hid sy
  have hyc : E.length ≤ yc := sy.2.2.1
  clear sy f2 n2
  go_wp2_with fail
  refine (HLN.out _).mono ?_
  rintro e w3 ⟨da, dc, rfl, sd, f3, n3⟩
  have SY3 := Lib.hid (SY2.out.fr f3 (by simp))
  have F3 := Lib.hid (F2.out.trans f3 (by simp [Ext]))
  have SD3 := Lib.hid sd
  clear sd f3 n3
  have hto := run_slice_to (P := Try.prog) 22 5 Try.underlying22 1 (by kernel_rfl) ya E.length yc D.length (by omega)
  have HS1 := Lib.hid (same_any w3 ya da yc dc D D (by
    have := (SY3.out.take (k := D.length) h1).rd
    rw [bts_take, Nat.mul_one, H3.out] at this
    exact this) SD3.out.rd)
  go_wp2_with fail
  refine HS1.out.mono ?_
  rintro e w4 ⟨rfl, f4⟩
  have hb : decide (D = D) = true := by simp
  have F4 := Lib.hid (F3.out.trans f4 (by simp [Ext]))
  clear f4
  go_wp2_with fail
  refine (lives_any _).mono ?_
  rintro e w5 ⟨rfl, f5⟩
  go_wp2_with fail
  go_ret
  exact ⟨rfl, F4.out.trans f5 (by simp [Ext])⟩
end Go.Proofs.Ytjehkpfmndfjeaa
