/- RangecoderDistinct returns true. -/
import Derived.Laws.Closers25b
import Derived.Deep.DeepCutAuto
import Derived.Test.YtjehkpfmndfjeaaLaw29b
namespace Go.Proofs.Ytjehkpfmndfjeaa
open Go.RowKit

theorem xor_byte (a b : Int) : ∃ v : Nat, v < 256 ∧ bits BinOp.xor IntKind.u8 a b = (v : Int) := by
  obtain ⟨h1, h2⟩ := bits_within .xor .u8 a b
  have e1 : IntKind.u8.min = 0 := rfl
  have e2 : IntKind.u8.max = 255 := rfl
  exact ⟨(bits BinOp.xor IntKind.u8 a b).toNat, by omega, by omega⟩

theorem Bytes.set {l : List Nat} (h : Bytes l) (k v : Nat) (hv : v < 256) : Bytes (l.set k v) := fun x hx => by
  rcases List.mem_or_eq_of_mem_set hx with hx | rfl
  · exact h x hx
  · exact hv

theorem enc_dec {X Y : List Nat} (hX : Bytes X) (hY : Bytes Y) (lX : X.length ≤ 4000) (lY : Y.length ≤ 4000) : decide (enc X = enc Y) = decide (X = Y) := by
  by_cases h : X = Y
  · rw [h]; simp
  · rw [decide_eq_false h, decide_eq_false (fun he => h (enc_inj hX hY lX lY he))]

/-- What holds behind the change of z. -/
def Turned (w wc : World) (xa ya za : Option Addr) (xc yc zc : Nat) (X Y : List Nat) : Prop := ∃ Z : List Nat, Z.length = X.length ∧ Src wc xa xc X ∧ Src wc ya yc Y ∧ Src wc za zc Z ∧ Fr [] w wc

set_option maxRecDepth 100000 in
set_option maxHeartbeats 4000000 in
theorem distinct_walk (w : World) (ao bo : Option Addr) (ca cb : Nat) (a b : List Nat) (at_ byv : Int) (sa : Src w ao ca a) (sb : Src w bo cb b) (hat : bounded at_) (hby : 0 ≤ byv ∧ byv < 256) :
    Calls Try.prog 10 #[.slice ao a.length ca, .slice bo b.length cb, .int .i64 at_, .int .u8 byv] w fun e w' => e = .returned (.bool true) ∧ Fr [] w w' := by
  have HSA := Lib.hid sa
  have HSB := Lib.hid sb
  have HAT := Lib.hid hat
  obtain ⟨X, hX⟩ : ∃ X, X = a.take 60 := ⟨_, rfl⟩
  obtain ⟨Y, hY⟩ : ∃ Y, Y = b.take 60 := ⟨_, rfl⟩
  have xl : X.length ≤ 60 := by rw [hX, List.length_take]; omega
  have yl : Y.length ≤ 60 := by rw [hY, List.length_take]; omega
  have XB := Lib.hid (by rw [hX]; exact sa.bytes.take 60 : Bytes X)
  have YB := Lib.hid (by rw [hY]; exact sb.bytes.take 60 : Bytes Y)
  have HFA := Lib.hid fun (u : World) (hf : Fr [] w u) => (hX ▸ few_any u ao ca a 60 (sa.old hf) (by omega) : Calls Try.prog 11 #[.slice ao a.length ca, .int .i64 60] u (SliceTo u X))
  have HFB := Lib.hid fun (u : World) (hf : Fr [] w u) => (hY ▸ few_any u bo cb b 60 (sb.old hf) (by omega) : Calls Try.prog 11 #[.slice bo b.length cb, .int .i64 60] u (SliceTo u Y))
  clear sa sb hat hX hY
  go_enter Try.func10, Try.ntmps10
  go_wp2_with fail
  refine (HFA.out w (Fr.refl _ _)).mono ?_
  rintro e w1 ⟨xa, xc, rfl, sx, f1, n1⟩
  have F1 := Lib.hid f1
  have SX1 := Lib.hid sx
  clear sx f1 n1
  go_wp2_with fail
  refine (HFB.out w1 F1.out).mono ?_
  rintro e w2 ⟨ya, yc, rfl, sy, f2, n2⟩
  have SX2 := Lib.hid (SX1.out.fr f2 (by simp))
  have F2 := Lib.hid (F1.out.trans f2 (by simp [Ext]))
  have SY2 := Lib.hid sy
  clear sy f2 n2 SX1 F1
  go_wp2_with fail
  refine (HFA.out w2 F2.out).mono ?_
  rintro e w3 ⟨za, zc, rfl, sz, f3, n3⟩
  have SX3 := Lib.hid (SX2.out.fr f3 (by simp))
  have SY3 := Lib.hid (SY2.out.fr f3 (by simp))
  have NX := Lib.hid (fun k hk hm => by have := SX2.out.lt k hk; have := n3 k hm; omega : ∀ k ∈ blk xa, k ∉ blk za)
  have NY := Lib.hid (fun k hk hm => by have := SY2.out.lt k hk; have := n3 k hm; omega : ∀ k ∈ blk ya, k ∉ blk za)
  have NZ := Lib.hid (fun k hk => by have := n3 k hk; have := F2.out.size; omega : ∀ k ∈ blk za, w.heap.size ≤ k)
  have F3 := Lib.hid (F2.out.trans f3 (by simp [Ext]))
  have SZ3 := Lib.hid sz
  clear sz f3 n3 SX2 SY2 F2
  go_upto_if 22 with fail
  go_cut [] (fun wc => Turned w wc xa ya za xc yc zc X Y)
  case first =>
    rcases Nat.eq_zero_or_pos X.length with h0 | h0
    · have hz : ¬ 0 < X.length := by omega
      go_wp2_with fail
      go_meet
      exact ⟨X, rfl, SX3.out.src XB.out, SY3.out.src YB.out, SZ3.out.src XB.out, F3.out⟩
    · obtain ⟨k, hk, hka, hAR⟩ := around_nat at_ X.length HAT.out (by omega) (by omega)
      have HAR := Lib.hid hAR
      obtain ⟨g, off, rfl, cz⟩ := SZ3.out.cell0 hk
      have fz : w3.frozen? ⟨g, off + k, none⟩ = false := by
        obtain ⟨g', off', cur, ha, hg, _, _, hf⟩ := SZ3.out.at (by have := SZ3.out.2.2.1; omega)
        cases ha; exact hf _
      obtain ⟨x, hx⟩ : ∃ x, x = X[k] := ⟨_, rfl⟩
      rw [← hx] at cz
      have hxb : x < 256 := by rw [hx]; exact XB.out _ (List.getElem_mem hk)
      obtain ⟨v, hv, hvb⟩ := xor_byte (x : Int) byv
      have hki : (k : Int) < (X.length : Int) := by omega
      have hz : 0 < X.length := h0
      have HSTO := Lib.hid (SZ3.out.store (i := k) (by omega) (.int .u8 (v : Int)))
      have HF4 := Lib.hid ((Fr.refl (blk (some ⟨g, off, none⟩)) w3).setCell (p := ⟨g, off + k, none⟩) (.inl (by simp [blk])) (.int .u8 (v : Int)))
      clear hAR hka hx
      go_wp2_with fail
      refine (HAR.out _).mono ?_
      rintro e w4 ⟨rfl, rfl⟩
      go_wp2_with fail
      go_meet
      refine ⟨X.set k v, by rw [List.length_set], (SX3.out.fr HF4.out NX.out).src XB.out, (SY3.out.fr HF4.out NY.out).src YB.out, ?_, F3.out.trans HF4.out (fun k hk => .inr (NZ.out k hk))⟩
      refine Seg.src ?_ (XB.out.set k v hv)
      rw [List.length_set, show bts (X.set k v) = (bts X).set k (.int .u8 (v : Int)) by simp [bts]]
      exact HSTO.out
  case rest =>
    obtain ⟨Z, hzl, sx5, sy5, sz5, fw5⟩ := hcut
    have HZL := Lib.hid hzl
    have SX := Lib.hid sx5
    have SY := Lib.hid sy5
    have SZ := Lib.hid sz5
    have FW := Lib.hid fw5
    clear hzl sx5 sy5 sz5 fw5
    clear SX3 SY3 SZ3 NX NY NZ F3
    have HEX := Lib.hid (encode_src SX.out (by omega))
    clear HFA HFB HSA HSB HAT
    go_wp2_with fail
    refine HEX.out.mono ?_
    rintro e w6 ⟨pa, pc, rfl, sp, f6, n6⟩
    have SX6 := Lib.hid (SX.out.old f6)
    have SY6 := Lib.hid (SY.out.old f6)
    have SZ6 := Lib.hid (SZ.out.old f6)
    have SP6 := Lib.hid sp
    have F6 := Lib.hid (FW.out.trans f6 (by simp [Ext]))
    clear sp f6 n6 SX SY SZ FW HEX
    have HEY := Lib.hid (encode_src SY6.out (by omega))
    go_wp2_with fail
    refine HEY.out.mono ?_
    rintro e w7 ⟨qa, qc, rfl, sq, f7, n7⟩
    have SX7 := Lib.hid (SX6.out.old f7)
    have SY7 := Lib.hid (SY6.out.old f7)
    have SZ7 := Lib.hid (SZ6.out.old f7)
    have SP7 := Lib.hid (SP6.out.fr f7 (by simp))
    have SQ7 := Lib.hid sq
    have F7 := Lib.hid (F6.out.trans f7 (by simp [Ext]))
    clear sq f7 n7 SX6 SY6 SZ6 SP6 F6 HEY
    have HS1 := Lib.hid (same_any w7 pa qa pc qc (enc X) (enc Y) SP7.out.rd SQ7.out.rd)
    have HED := Lib.hid (enc_dec XB.out YB.out (by omega) (by omega))
    rw [HED.out] at HS1
    go_wp2_with fail
    refine HS1.out.mono ?_
    rintro e w8 ⟨rfl, f8⟩
    have SX8 := Lib.hid (SX7.out.old f8)
    have SZ8 := Lib.hid (SZ7.out.old f8)
    have SP8 := Lib.hid (SP7.out.fr f8 (by simp))
    have HS2 := Lib.hid (same_any w8 xa ya xc yc X Y SX8.out.rd (SY7.out.old f8).rd)
    have F8 := Lib.hid (F7.out.trans f8 (by simp [Ext]))
    clear f8 SX7 SY7 SZ7 SP7 SQ7 F7 HS1 HED
    obtain ⟨d1, hd1⟩ : ∃ d1, d1 = decide (X = Y) := ⟨_, rfl⟩
    rw [← hd1] at HS2 ⊢
    clear hd1
    go_wp2_with fail
    refine HS2.out.mono ?_
    rintro e w9 ⟨rfl, f9⟩
    have hbb : (d1 == d1) = true := by simp
    have SX9 := Lib.hid (SX8.out.old f9)
    have SZ9 := Lib.hid (SZ8.out.old f9)
    have SP9 := Lib.hid (SP8.out.fr f9 (by simp))
    have F9 := Lib.hid (F8.out.trans f9 (by simp [Ext]))
    clear f9 SX8 SZ8 SP8 F8 HS2
    have HEZ := Lib.hid (by rw [← HZL.out]; exact encode_src SZ9.out (by have := HZL.out; omega) : Calls Try.prog 14 #[.slice za X.length zc] w9 (SliceTo w9 (enc Z)))
    go_wp2_with fail
    refine HEZ.out.mono ?_
    rintro e w10 ⟨ra, rc, rfl, sr, f10, n10⟩
    have SX10 := Lib.hid (SX9.out.old f10)
    have SZ10 := Lib.hid (SZ9.out.old f10)
    have HS3 := Lib.hid (same_any w10 pa ra pc rc (enc X) (enc Z) (SP9.out.fr f10 (by simp)).rd sr.rd)
    have HED := Lib.hid (enc_dec XB.out SZ10.out.bytes (by omega) (by have := HZL.out; omega))
    rw [HED.out] at HS3
    have F10 := Lib.hid (F9.out.trans f10 (by simp [Ext]))
    clear sr f10 n10 SX9 SZ9 SP9 F9 HEZ
    go_wp2_with fail
    refine HS3.out.mono ?_
    rintro e w11 ⟨rfl, f11⟩
    have HS4 := Lib.hid (by rw [show (Value.slice za X.length zc : Value) = .slice za Z.length zc by rw [HZL.out]]; exact same_any w11 xa za xc zc X Z (SX10.out.old f11).rd (SZ10.out.old f11).rd : Calls Try.prog 13 #[.slice xa X.length xc, .slice za X.length zc] w11 fun e w' => e = .returned (.bool (decide (X = Z))) ∧ Fr [] w11 w')
    have F11 := Lib.hid (F10.out.trans f11 (by simp [Ext]))
    clear f11 SX10 SZ10 F10 HS3 HED
    obtain ⟨d2, hd2⟩ : ∃ d2, d2 = decide (X = Z) := ⟨_, rfl⟩
    rw [← hd2] at HS4 ⊢
    clear hd2
    go_wp2_with fail
    refine HS4.out.mono ?_
    rintro e w12 ⟨rfl, f12⟩
    have hbb2 : (d2 == d2) = true := by simp
    have F12 := Lib.hid (F11.out.trans f12 (by simp [Ext]))
    clear f12 F11 HS4
    go_wp2_with fail
    refine (lives_any _).mono ?_
    rintro e w13 ⟨rfl, f13⟩
    go_wp2_with fail
    go_ret
    exact ⟨rfl, F12.out.trans f13 (by simp [Ext])⟩
end Go.Proofs.Ytjehkpfmndfjeaa
