/- Package rangecoder: finish. -/
import Derived.Test.YtjehkpfmndfjeaaPut
import Derived.Deep.RegionHeld3
namespace Go.Proofs.Ytjehkpfmndfjeaa
open Go.RowKit

section
variable {w : World} {p : Nat} {F : List Nat} {m : Md} {out : List Nat}

theorem tail4_get (n : Nat) (k : Nat) (hk : k < 4) : (tail4 n).take (k + 1) = (tail4 n).take k ++ [n / 2 ^ (24 - 8 * k) % 256] := by
  rcases (show k = 0 ∨ k = 1 ∨ k = 2 ∨ k = 3 by omega) with rfl | rfl | rfl | rfl <;> simp [tail4]

theorem EncTo.ofDrew {w' : World} (h : EncTo w.drew p F m out w') : EncTo w p F m out w' := by
  obtain ⟨F', h1, h2, h3⟩ := h
  exact ⟨F', h1, ((Fr.refl F w).drew).trans h2 (Ext.refl _ _), h3⟩

theorem fin_ly {oa : Option Addr} {oc : Nat} {w1 : World} {o : Obj} (h : IsEncAt w p F m out oa oc) (hf : Fr (blk oa) (w.alloc o) w1) : w1.cell? ⟨p, 256, none⟩ = some (.int .u32 (m.lo : Int)) :=
  (h.head.fr (((Fr.refl (blk oa) w).alloc o).trans hf (Ext.refl _ _)) h.po).clo

set_option maxHeartbeats 4000000 in
theorem finish_any (h : IsEnc w p F m out) (hm : m.lo < 4294967296) (hl : out.length ≤ 1099511627776) :
    Calls Try.prog 26 #[.pointer (some ⟨p, 0, none⟩)] w fun e w' => e = .returned (.tuple #[]) ∧ EncTo w p F m (out ++ tail4 m.lo) w' := by
  obtain ⟨i0, hi0, hz0, hz1, hz2⟩ := info_parts infoByte
  have H := Lib.hid h
  clear h
  go_enter Try.func26, Try.ntmps26
  go_wp2_with fail
  go_loopw [3] (fun i wr => ∃ k : Nat, k ≤ 4 ∧ i = .int .i64 k ∧ EncTo w p F m (out ++ (tail4 m.lo).take k) wr) (fun i _ => 4 - (intOf i).toNat)
  case atStart => exact ⟨0, by omega, rfl, by rw [List.take_zero, List.append_nil]; exact H.out.to⟩
  case round =>
    obtain ⟨k, hk, rfl, F2, h2, hf2, hx2⟩ := hrel
    by_cases hk4 : k < 4
    · obtain ⟨oa, oc, h3⟩ := h2
      obtain ⟨D, hD⟩ : ∃ D, D = out ++ (tail4 m.lo).take k := ⟨_, rfl⟩
      rw [← hD] at h3
      have hdl : D.length ≤ 1099511627786 := by rw [hD]; simp [tail4]; omega
      have cx := h3.head.cx 0
      have cl := h3.head.clo
      have fx := h3.head.fz 258
      simp only [Nat.add_zero, List.getElem?_cons_zero] at cx
      obtain ⟨y, hy⟩ : ∃ y, y = m.lo / 2 ^ (24 - 8 * k) % 256 := ⟨_, rfl⟩
      have HTK := Lib.hid (by rw [hD, tail4_get _ _ hk4, ← hy, ← List.append_assoc] : out ++ (tail4 m.lo).take (k + 1) = D ++ [y])
      have HCA := Lib.hid fun (o : Obj) => (by
        have h4 := h3.head.fr ((Fr.refl [] wr).drew.alloc o) (by simp)
        have c4 := h4.cx 0
        simp only [Nat.add_zero, List.getElem?_cons_zero] at c4
        exact ⟨c4, h4.clo⟩ : (wr.drew.alloc o).cell? ⟨p, 258, none⟩ = some (.slice oa D.length oc) ∧ (wr.drew.alloc o).cell? ⟨p, 256, none⟩ = some (.int .u32 (m.lo : Int)))
      have HS := Lib.hid fun (o : Obj) => h3.out.drew.alloc o
      have hd3 : IsEncAt wr.drew p F2 m D oa oc := ⟨h3.blocks, h3.po, h3.head, h3.out.drew⟩
      have H3 := Lib.hid hd3
      have HF2 := Lib.hid hf2
      have HX2 := Lib.hid hx2
      have HV := Lib.hid (by
        rw [show (24 - 8 * (k : Int)).toNat = 24 - 8 * k by omega, show ((2 : Int) ^ (24 - 8 * k)) = ((2 ^ (24 - 8 * k) : Nat) : Int) by rw [Int.natCast_pow]; rfl, ← Int.natCast_ediv, IntKind.wrap_u8, hy]
        omega : IntKind.u8.wrap ((m.lo : Int) / 2 ^ (24 - 8 * (k : Int)).toNat) = (y : Int))
      have HM := Lib.hid hm
      have HNE := Lib.hid (fun (v : Value) j u hu => by
        rw [Addr.add_mid, Nat.zero_add, World.cell?_alloc_new]; simpa using hu : ∀ v j u, [v][j]? = some u → (wr.drew.alloc (.cells #[v] 5)).cell? ((⟨wr.drew.heap.size, 0, none⟩ : Addr).add j) = some u)
      clear h3 hd3 hf2 hx2 hD hy H
      have w1 : IntKind.i64.wrap (8 * (k : Int)) = 8 * (k : Int) := IntWalk.i64_in _ (by omega)
      have w2 : IntKind.i64.wrap (24 - 8 * (k : Int)) = 24 - 8 * (k : Int) := IntWalk.i64_in _ (by omega)
      have ca : ∀ o : Obj, (wr.alloc o).cell? ⟨p, 258, none⟩ = some (.slice oa D.length oc) := fun o => (HCA.out o).1
      have cb : ∀ o : Obj, (wr.alloc o).cell? ⟨p, 256, none⟩ = some (.int .u32 (m.lo : Int)) := fun o => (HCA.out o).2
      go_wp2_with fail
      go_region_law (refine step_append_seg rfl _ _ 22 rfl 5 i0 _ 1 1 Try.underlying22 hi0 hz0 hz1 hz2 rfl (by decide) oa D.length oc (bts D) rfl (HS.out _) ⟨wr.drew.heap.size, 0, none⟩ 1 1 [_] rfl rfl (HNE.out _) (by simp [Value.oneCell']) (by unfold maxLen; omega) (by omega) ?_; intro ao' cap' w5 hs5 hf5 hx5; have cy := put_cy H3.out hf5; have fy := put_fy H3.out hf5; have ly := fin_ly H3.out hf5; have HS5 := Lib.hid hs5; have HF5 := Lib.hid hf5; have HX5 := Lib.hid hx5; clear hs5 hf5 hx5)
      all_goals
        rw [HV.out] at HS5
        go_wp2
        go_roundw
        case rel => exact ⟨k + 1, by omega, by go_num, by rw [HTK.out]; exact EncTo.trans HF2.out HX2.out (put_app H3.out HS5.out HF5.out HX5.out).ofDrew⟩
        case measure => simp [intOf]; omega
    · have hk5 : k = 4 := by omega
      have H2 := Lib.hid (by rw [hk5] at h2; exact EncTo.trans hf2 hx2 (IsEnc.to h2) : EncTo w p F m (out ++ (tail4 m.lo).take 4) wr)
      clear h2 hf2 hx2
      go_wp2_with fail
      go_end0
      exact ⟨rfl, H2.out⟩
end
end Go.Proofs.Ytjehkpfmndfjeaa
