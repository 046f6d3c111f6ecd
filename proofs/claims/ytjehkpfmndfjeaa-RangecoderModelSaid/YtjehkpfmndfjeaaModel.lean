/- RangecoderModel returns true. -/
import Derived.Laws.Closers25b
import Derived.Test.YtjehkpfmndfjeaaRefEnc2
import Derived.Test.YtjehkpfmndfjeaaMessage
namespace Go.Proofs.Ytjehkpfmndfjeaa
open Go.RowKit

theorem same_self (w : World) (ao bo : Option Addr) (ca cb : Nat) (a : List Nat) (ha : Rd w 1 ao a.length (bts a)) (hb : Rd w 1 bo a.length (bts a)) :
    Calls Try.prog 13 #[.slice ao a.length ca, .slice bo a.length cb] w fun e w' => e = .returned (.bool true) ∧ Fr [] w w' := by
  have h := same_any w ao bo ca cb a a ha hb
  simpa using h

set_option maxRecDepth 100000 in
set_option maxHeartbeats 4000000 in
theorem model_walk (w : World) (bo lo : Option Addr) (cb lc : Nat) (b : List Nat) (l : List Int) (sb : Src w bo cb b) (hrd : Rd w 1 lo l.length (ints l)) (hb : ∀ x ∈ l, bounded x) :
    Calls Try.prog 3 #[.slice bo b.length cb, .slice lo l.length lc] w fun e w' => e = .returned (.bool true) ∧ Fr [] w w' := by
  obtain ⟨X, hX⟩ : ∃ X, X = b.take 60 := ⟨_, rfl⟩
  have xl : X.length ≤ 60 := by rw [hX, List.length_take]; omega
  have XB := Lib.hid (by rw [hX]; exact sb.bytes.take 60 : Bytes X)
  have HFB := Lib.hid (hX ▸ few_any w bo cb b 60 sb (by omega) : Calls Try.prog 11 #[.slice bo b.length cb, .int .i64 60] w (SliceTo w X))
  have HMS := Lib.hid (fun (u : World) (hf : Fr [] w u) => message_any u lo lc l (hrd.fr hf (by simp)) hb)
  clear sb hX hrd hb
  go_enter Try.func3, Try.ntmps3
  go_wp2_with fail
  refine HFB.out.mono ?_
  rintro e w1 ⟨xa, xc, rfl, sx, f1, n1⟩
  have F1 := Lib.hid f1
  have SX1 := Lib.hid (sx.src XB.out)
  clear sx f1 n1 HFB
  go_wp2_with fail
  refine (HMS.out _ F1.out).mono ?_
  rintro e w2 ⟨M, hM, hMl, ma, mc, rfl, sm, f2, n2⟩
  have F2 := Lib.hid (F1.out.trans f2 (by simp [Ext]))
  have SX2 := Lib.hid (SX1.out.old f2)
  have SM2 := Lib.hid (sm.src hM)
  clear sm f2 n2 hM HMS F1 SX1
  obtain ⟨E, hE⟩ : ∃ E, E = enc X := ⟨_, rfl⟩
  obtain ⟨G, hG⟩ : ∃ G, G = enc M := ⟨_, rfl⟩
  have EB := Lib.hid (by rw [hE]; exact enc_bytes X : Bytes E)
  have GB := Lib.hid (by rw [hG]; exact enc_bytes M : Bytes G)
  have HEX := Lib.hid (fun (u : World) (h : Src u xa xc X) => (hE ▸ encode_src h (by omega) : Calls Try.prog 14 #[.slice xa X.length xc] u (SliceTo u E)))
  have HRX := Lib.hid (fun (u : World) (h : Src u xa xc X) => (hE ▸ refenc_any u xa xc X h (by omega) : Calls Try.prog 15 #[.slice xa X.length xc] u (SliceTo u E)))
  have HEM := Lib.hid (fun (u : World) (h : Src u ma mc M) => (hG ▸ encode_src h (by omega) : Calls Try.prog 14 #[.slice ma M.length mc] u (SliceTo u G)))
  have HRM := Lib.hid (fun (u : World) (h : Src u ma mc M) => (hG ▸ refenc_any u ma mc M h (by omega) : Calls Try.prog 15 #[.slice ma M.length mc] u (SliceTo u G)))
  clear hE hG
  go_wp2_with fail
  refine (HEX.out _ SX2.out).mono ?_
  rintro e w3 ⟨ea, ec, rfl, se, f3, n3⟩
  have F3 := Lib.hid (F2.out.trans f3 (by simp [Ext]))
  have SX3 := Lib.hid (SX2.out.old f3)
  have SM3 := Lib.hid (SM2.out.old f3)
  have SE3 := Lib.hid se
  clear se f3 n3 F2 SX2 SM2
  go_wp2_with fail
  refine (HRX.out _ SX3.out).mono ?_
  rintro e w4 ⟨ra, rc, rfl, sr, f4, n4⟩
  have F4 := Lib.hid (F3.out.trans f4 (by simp [Ext]))
  have SM4 := Lib.hid (SM3.out.old f4)
  have HS := Lib.hid (same_self w4 ea ra ec rc E (SE3.out.fr f4 (by simp)).rd sr.rd)
  clear sr f4 n4 F3 SX3 SM3 SE3
  go_wp2_with fail
  refine HS.out.mono ?_
  rintro e w5 ⟨rfl, f5⟩
  have F5 := Lib.hid (F4.out.trans f5 (by simp [Ext]))
  have SM5 := Lib.hid (SM4.out.old f5)
  clear f5 F4 SM4 HS
  go_wp2_with fail
  refine (HEM.out _ SM5.out).mono ?_
  rintro e w6 ⟨ga, gc, rfl, sg, f6, n6⟩
  have F6 := Lib.hid (F5.out.trans f6 (by simp [Ext]))
  have SM6 := Lib.hid (SM5.out.old f6)
  have SG6 := Lib.hid sg
  clear sg f6 n6 F5 SM5
  go_wp2_with fail
  refine (HRM.out _ SM6.out).mono ?_
  rintro e w7 ⟨ha, hc, rfl, sh, f7, n7⟩
  have F7 := Lib.hid (F6.out.trans f7 (by simp [Ext]))
  have HS := Lib.hid (same_self w7 ga ha gc hc G (SG6.out.fr f7 (by simp)).rd sh.rd)
  clear sh f7 n7 F6 SM6 SG6
  go_wp2_with fail
  refine HS.out.mono ?_
  rintro e w8 ⟨rfl, f8⟩
  have F8 := Lib.hid (F7.out.trans f8 (by simp [Ext]))
  clear f8 F7 HS
  go_wp2_with fail
  refine (lives_any _).mono ?_
  rintro e w9 ⟨rfl, f9⟩
  go_wp2_with fail
  go_ret
  exact ⟨rfl, F8.out.trans f9 (by simp [Ext])⟩
end Go.Proofs.Ytjehkpfmndfjeaa
