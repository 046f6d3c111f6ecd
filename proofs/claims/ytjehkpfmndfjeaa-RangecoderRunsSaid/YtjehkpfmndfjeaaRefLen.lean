/- arenanetref29.Length writes the digits of a length. -/
import Derived.Test.YtjehkpfmndfjeaaLaw29b
namespace Go.Proofs.Ytjehkpfmndfjeaa
open Go.RowKit

set_option maxRecDepth 100000 in
set_option maxHeartbeats 1000000 in
theorem reflen_raw (w : World) (n : Nat) (hn : n ≤ 1099511627776) : Calls Try.prog 20 #[.int .i64 n] w (LenTo w n) := by
  obtain ⟨i0, hi0, hz0, hz1, hz2⟩ := info_parts infoByte
  have hdl := digits_len n 8 (by omega)
  go_enter Try.func20, Try.ntmps20
  go_wp2_with fail
  go_loopw [0, 3] (fun xv sv wr => LenInv w n sv xv wr) (fun xv _ _ => (intOf xv).toNat)
  case atStart => exact ⟨[], n, none, 0, rfl, rfl, Nat.le_refl _, by simp, by simpa [bts] using Seg.nil _ _ _, Fr.refl _ _, by simp [blk]⟩
  case round =>
    obtain ⟨dn, x, oa, oc, rfl, rfl, hx, hd, hs, hf, hne⟩ := hrel
    have hdn : dn.length ≤ 9 := by have := congrArg List.length hd; rw [List.length_append] at this; omega
    have HD := Lib.hid hd
    have HF := Lib.hid hf
    have HNE := Lib.hid hne
    have HS := Lib.hid fun (o : Obj) => hs.alloc o
    have HN := Lib.hid (fun (v : Value) j u hu => by
      rw [Addr.add_mid, Nat.zero_add, World.cell?_alloc_new]; simpa using hu : ∀ v j u, [v][j]? = some u → (wr.alloc (.cells #[v] 5)).cell? ((⟨wr.heap.size, 0, none⟩ : Addr).add j) = some u)
    clear hd hs hf hne
    by_cases hx2 : 128 ≤ x
    · have ho : ((x : Int) % 128 + 128) % 256 = (x : Int) % 128 + 128 := by omega
      have HDG := Lib.hid (by rw [digits, dif_neg (by omega)] : digits x = (x % 128 + 128) :: digits (x / 128))
      go_wp2_with (at_builtin; refine wpList_append_seg rfl _ _ 22 rfl 5 i0 _ 1 1 Try.underlying22 hi0 hz0 hz1 hz2 rfl (by decide) oa dn.length oc (bts dn) rfl (HS.out _) ⟨wr.heap.size, 0, none⟩ 1 1 [_] rfl rfl (HN.out _) (by simp [Value.oneCell']) (by unfold maxLen; omega) (by omega) ?_; intro ao' cap' w5 hs5 hf5 hx5; have HS5 := Lib.hid hs5; have HF5 := Lib.hid hf5; have HX5 := Lib.hid hx5; clear hs5 hf5 hx5)
      go_roundw
      case rel =>
        have := LenInv.add (n := n) (x' := x / 128) (b := x % 128 + 128) (by omega) (by rw [← HDG.out]; exact HD.out) HF.out HNE.out (by have := HS5.out; rw [show (x : Int) % 128 + 128 = ((x % 128 + 128 : Nat) : Int) by omega] at this; exact this) HF5.out HX5.out
        rw [show ((x / 128 : Nat) : Int) = (x : Int) / 128 by omega] at this
        exact this
      case measure => simp [intOf]; omega
    · have ho : (x : Int) % 256 = (x : Int) := by omega
      have HDG := Lib.hid (by rw [digits, dif_pos (by omega)] : digits x = [x])
      go_wp2_with (at_builtin; refine wpList_append_seg rfl _ _ 22 rfl 5 i0 _ 1 1 Try.underlying22 hi0 hz0 hz1 hz2 rfl (by decide) oa dn.length oc (bts dn) rfl (HS.out _) ⟨wr.heap.size, 0, none⟩ 1 1 [_] rfl rfl (HN.out _) (by simp [Value.oneCell']) (by unfold maxLen; omega) (by omega) ?_; intro ao' cap' w5 hs5 hf5 hx5; have HS5 := Lib.hid hs5; have HF5 := Lib.hid hf5; have HX5 := Lib.hid hx5; clear hs5 hf5 hx5)
      go_ret
      exact LenTo.of (x := x) (by rw [← HDG.out]; exact HD.out) HF.out HNE.out HS5.out HF5.out HX5.out

theorem reflen_any (w : World) (n : Nat) (hn : n ≤ 1099511627776) : Calls Try.prog 20 #[.int .i64 n] w (SliceTo w (digits n)) :=
  (reflen_raw w n hn).mono fun e w' h => h
end Go.Proofs.Ytjehkpfmndfjeaa
