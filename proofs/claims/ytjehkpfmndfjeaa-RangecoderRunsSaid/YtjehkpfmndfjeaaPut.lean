/- Package rangecoder: put. -/
import Derived.Test.YtjehkpfmndfjeaaEnc
namespace Go.Proofs.Ytjehkpfmndfjeaa
open Go.RowKit

section
variable {w : World} {p : Nat} {F : List Nat} {m : Md} {out : List Nat}

set_option maxHeartbeats 2000000 in
theorem put_any (h : IsEnc w p F m out) (hm : m.Rdy) (c : Nat) (hc : c < 256) (b : Bool) {x : Int} (hx : x = if b then 1 else 0) (hl : out.length ≤ 1099511627776) :
    Calls Try.prog 25 #[.pointer (some ⟨p, 0, none⟩), .int .i64 c, .int .i64 x] w fun e w' => e = .returned (.tuple #[]) ∧ EncTo w p F (m.step c b) (out ++ m.outs c b) w' := by
  obtain ⟨i0, hi0, hz0, hz1, hz2⟩ := info_parts infoByte
  have HN := Lib.hid (step_nm hm hc b)
  have HOK := Lib.hid (hm.ok.nar hm.lt hc b)
  obtain ⟨M, hM⟩ : ∃ M, M = m.step c b := ⟨_, rfl⟩
  obtain ⟨O, hO⟩ : ∃ O, O = m.outs c b := ⟨_, rfl⟩
  have hOl : O.length ≤ 5 := by rw [hO]; exact outs_len _ _ _
  rw [← hM, ← hO] at HN ⊢
  clear hM hO
  have HNAR := Lib.hid (enc_narrow h hm c hc b hx)
  have HX := Lib.hid hx
  clear h hm hx
  go_enter Try.func25, Try.ntmps25
  go_wp2_with fail
  refine (HNAR.out).mono ?_
  rintro e w1 ⟨rfl, F1, h1, hf1, hx1⟩
  go_wp2_with fail
  refine (enc_shift h1 HOK.out HN.out).mono ?_
  intro e w2 ht
  have hst : ∃ k cv ov, e = .returned (.tuple #[cv, ov]) ∧ k ≤ 6 ∧ PutInv w p F M O out k cv ov w2 := by
    rcases ht with ⟨h0, he, h2⟩ | ⟨x, mc, r, h0, he, h3, h4, h5, h2⟩
    · exact ⟨0, _, _, he, by omega, .inl ⟨rfl, rfl, rfl, by rw [h0, List.append_nil]; exact EncTo.trans hf1 hx1 h2⟩⟩
    · exact ⟨r.length + 1, _, _, he, by rw [h0] at hOl; simp at hOl; omega, .inr ⟨x, mc, [], r, rfl, rfl, rfl, h3, h0, h4, h5, by rw [List.append_nil]; exact EncTo.trans hf1 hx1 h2⟩⟩
  obtain ⟨k, cv, ov, rfl, hk6, hpi⟩ := hst
  have HP := Lib.hid hpi
  clear hpi ht h1 hf1 hx1 HNAR
  go_wp2_with fail
  go_loopg [6, 7] k (fun k cv ov wr => PutInv w p F M O out k cv ov wr)
  case atStart => exact HP.out
  case round =>
    clear HP hk6
    rcases hrel with ⟨rfl, rfl, rfl, h2⟩ | ⟨x, mc, dn, rest, rfl, rfl, rfl, hx, hO, hn, hok, F2, h2, hf2, hx2⟩
    · have H2 := Lib.hid h2
      clear h2
      go_wp2_with fail
      go_end0
      exact ⟨rfl, H2.out⟩
    · obtain ⟨oa, oc, h3⟩ := h2
      have cx := h3.head.cx 0
      have fx := h3.head.fz 258
      simp only [Nat.add_zero, List.getElem?_cons_zero] at cx
      have hxi : (x : Int) < 256 := by omega
      have hdl : (out ++ dn).length ≤ 1099511627786 := by rw [hO] at hOl; simp at hOl ⊢; omega
      have HS := Lib.hid fun (o : Obj) => h3.out.alloc o
      have HNE := Lib.hid (fun j u hu => by
        rw [Addr.add_mid, Nat.zero_add, World.cell?_alloc_new]; simpa using hu : ∀ j u, [Value.int .u8 (x : Int)][j]? = some u → (wr.alloc (.cells #[.int .u8 (x : Int)] 5)).cell? ((⟨wr.heap.size, 0, none⟩ : Addr).add j) = some u)
      have H3 := Lib.hid h3
      have HN2 := Lib.hid hn
      have HOK2 := Lib.hid hok
      have HO := Lib.hid hO
      have HF2 := Lib.hid hf2
      have HX2 := Lib.hid hx2
      obtain ⟨D, hD⟩ : ∃ D, D = out ++ dn := ⟨_, rfl⟩
      rw [← hD] at cx hdl HS H3
      have HD := Lib.hid hD
      clear h3 hn hok hO hf2 hx2 hD
      go_wp2_with (at_builtin; refine wpList_append_seg rfl _ _ 22 rfl 5 i0 _ 1 1 Try.underlying22 hi0 hz0 hz1 hz2 rfl (by decide) oa D.length oc (bts D) rfl (HS.out _) ⟨wr.heap.size, 0, none⟩ 1 1 [_] rfl rfl HNE.out (by simp [Value.oneCell']) (by unfold maxLen; omega) (by omega) ?_; intro ao' cap' w5 hs5 hf5 hx5; have cy := put_cy H3.out hf5; have fy := put_fy H3.out hf5; have HS5 := Lib.hid hs5; have HF5 := Lib.hid hf5; have HX5 := Lib.hid hx5; clear hs5 hf5 hx5)
      have hp := put_app H3.out HS5.out HF5.out HX5.out
      have HP := Lib.hid hp
      obtain ⟨F6, h6, hf6, hx6⟩ := hp
      refine (enc_shift h6 HOK2.out HN2.out).mono ?_
      intro e w7 ht
      have hst : ∃ k' cv ov, e = .returned (.tuple #[cv, ov]) ∧ k' < rest.length + 1 ∧ PutInv w p F M O out k' cv ov w7 := by
        have hDx : D ++ [x] = out ++ (dn ++ [x]) := by rw [HD.out, List.append_assoc]
        rw [hDx] at h6 ht
        rcases ht with ⟨h0, he, h2⟩ | ⟨y, mc2, r, h0, he, h3, h4, h5, h2⟩
        · exact ⟨0, _, _, he, by omega, .inl ⟨rfl, rfl, rfl, by rw [HO.out, h0]; exact EncTo.trans HF2.out HX2.out (EncTo.trans hf6 hx6 h2)⟩⟩
        · exact ⟨r.length + 1, _, _, he, by rw [h0]; simp, .inr ⟨y, mc2, dn ++ [x], r, rfl, rfl, rfl, h3, by rw [HO.out, h0]; simp, h4, h5, EncTo.trans HF2.out HX2.out (EncTo.trans hf6 hx6 h2)⟩⟩
      obtain ⟨k', cv, ov, rfl, hk', hpi⟩ := hst
      have HP7 := Lib.hid hpi
      clear hpi ht h6 hf6 hx6 HP
      go_wp2_with fail
      go_roundg k'
      case measure => omega
      case rel => exact HP7.out
end
end Go.Proofs.Ytjehkpfmndfjeaa
