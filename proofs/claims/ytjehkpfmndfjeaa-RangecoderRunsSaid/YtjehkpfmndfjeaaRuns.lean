/- RangecoderRuns returns true. -/
import Derived.Laws.Closers25b
import Derived.Test.YtjehkpfmndfjeaaRunsP
namespace Go.Proofs.Ytjehkpfmndfjeaa
open Go.RowKit

theorem make_bytes (n : Nat) (hn : n ≤ 4000) (u : World) :
    (Instr.makeSlice 22 (.int .i64 n) (.int .i64 n)).run Try.prog u = .ok (.slice (some ⟨u.heap.size, 0, none⟩) n n) (u.alloc (.cells (bts (List.replicate n 0)).toArray 5)) := by
  obtain ⟨i0, hi, hz0, hz1, hz2⟩ := info_parts infoByte
  have h := run_make (P := Try.prog) u 22 5 i0 (.int .u8 0) Try.underlying22 hi hz0 .i64 .i64 n n (by omega) (Int.le_refl _) (by rw [hz2]; omega) (by omega)
  rw [h]
  have e : madeCells (Value.int .u8 0).cells (Int.toNat n * i0.size) = (bts (List.replicate n 0)).toArray := by
    have := toList_madeCells_one (.int .u8 0) n
    rw [hz1, Int.toNat_natCast, Nat.mul_one, bts, List.map_replicate]
    have e0 : Value.int IntKind.u8 ((0 : Nat) : Int) = Value.int .u8 0 := rfl
    rw [e0, ← this]
    rfl
  rw [e]
  simp

/-- the slice filled so far -/
def FillInv (w : World) (g n c : Nat) (iv : Value) (wr : World) : Prop := ∃ (i : Nat), i ≤ n ∧ iv = .int .i64 (i : Int) ∧
  Seg wr 5 1 (some ⟨g, 0, none⟩) n n (bts (List.replicate i c ++ List.replicate (n - i) 0)) ∧ Fr [] w wr

set_option maxRecDepth 100000 in
set_option maxHeartbeats 4000000 in
theorem runs_walk (w : World) (cv n : Int) (hc : 0 ≤ cv ∧ cv < 256) (hn : bounded n) :
    Calls Try.prog 9 #[.int .u8 cv, .int .i64 n] w fun e w' => e = .returned (.bool true) ∧ Fr [] w w' := by
  obtain ⟨c, rfl⟩ : ∃ c : Nat, cv = (c : Int) := ⟨cv.toNat, by omega⟩
  have hcb : c < 256 := by omega
  obtain ⟨k, hk, -, hA⟩ := around_nat n 1001 hn (by omega) (by omega)
  have HA := Lib.hid hA
  have hmk := make_bytes k (by omega)
  have HS0 := Lib.hid (fun (u : World) => ⟨by simp [bts], by unfold maxLen; omega, by omega, .inr ⟨u.heap.size, 0, _, rfl, alloc_new u _, by simp [bts], by simp [bts]⟩⟩ :
    ∀ u : World, Seg (u.alloc (.cells (bts (List.replicate k 0)).toArray 5)) 5 1 (some ⟨u.heap.size, 0, none⟩) k k (bts (List.replicate k 0)))
  clear hA hn hc
  go_enter Try.func9, Try.ntmps9
  go_wp2_with fail
  refine (HA.out _).mono ?_
  rintro e w1 ⟨rfl, rfl⟩
  have HI := Lib.hid (⟨0, by omega, rfl, by rw [show List.replicate 0 c ++ List.replicate (k - 0) 0 = List.replicate k 0 by simp]; exact HS0.out w, (Fr.refl [] w).alloc _⟩ : FillInv w w.heap.size k c (.int .i64 0) (w.alloc (.cells (bts (List.replicate k 0)).toArray 5)))
  obtain ⟨g, hg⟩ : ∃ g, g = w.heap.size := ⟨_, rfl⟩
  have HG := Lib.hid hg
  go_wp2_with fail
  rw [← hg] at HI ⊢
  clear HS0 hg
  go_loopw [7] (fun iv wr => FillInv w g k c iv wr) (fun iv _ => k - (intOf iv).toNat)
  case atStart => exact HI.out
  case round =>
    clear HI
    obtain ⟨i, hi, rfl, hs, hf⟩ := hrel
    have HF := Lib.hid hf
    have HSG := Lib.hid hs
    by_cases hik : i < k
    · obtain ⟨cur, hcur, hfz⟩ : ∃ cur, wr.cell? ⟨g, i, none⟩ = some cur ∧ wr.frozen? ⟨g, i, none⟩ = false := by
        obtain ⟨g', off, cur, ha, _, _, hcc, hff⟩ := hs.at (by omega)
        cases ha
        have h1 := hcc i (by omega)
        rw [Nat.zero_add] at h1
        have hl : i < (bts (List.replicate i c ++ List.replicate (k - i) 0)).length := by simp [bts]; omega
        rw [List.getElem?_eq_getElem hl] at h1
        exact ⟨_, h1, hff _⟩
      have hii : (i : Int) < (k : Int) := by omega
      have HN := Lib.hid (by
        have h1 := hs.store (i := i) (by omega) (.int .u8 (c : Int))
        rw [Nat.zero_add] at h1
        have e : (bts (List.replicate i c ++ List.replicate (k - i) 0)).set i (.int .u8 (c : Int)) = bts (List.replicate (i + 1) c ++ List.replicate (k - (i + 1)) 0) := by
          rw [show k - i = (k - (i + 1)) + 1 by omega, List.replicate_succ, List.replicate_succ' (n := i)]
          simp only [bts, List.map_append, List.map_cons, List.map_replicate, List.append_assoc]
          rw [List.set_append_right _ _ (by simp)]
          simp
        rw [e] at h1
        exact h1 : Seg (wr.setCell ⟨g, i, none⟩ (.int .u8 (c : Int))) 5 1 (some ⟨g, 0, none⟩) k k (bts (List.replicate (i + 1) c ++ List.replicate (k - (i + 1)) 0)))
      clear hs hf
      go_wp2_with fail
      go_roundw
      case rel => exact ⟨i + 1, by omega, by go_num, HN.out, HF.out.setCell (p := ⟨g, i, none⟩) (.inr (by rw [HG.out]; exact Nat.le_refl _)) _⟩
      case measure => simp [intOf]; omega
    · have hke : i = k := by omega
      obtain ⟨X, hX⟩ : ∃ X, X = List.replicate k c := ⟨_, rfl⟩
      have hXl : X.length = k := by rw [hX, List.length_replicate]
      have XB := Lib.hid (by rw [hX]; intro x hx; have := List.eq_of_mem_replicate hx; omega : Bytes X)
      have SX := Lib.hid (by
        rw [hke, Nat.sub_self, List.replicate_zero, List.append_nil, ← hX, ← hXl] at hs
        exact hs.src XB.out)
      obtain ⟨E, hE⟩ : ∃ E, E = enc X := ⟨_, rfl⟩
      have EB := Lib.hid (by rw [hE]; exact enc_bytes X : Bytes E)
      have hEl : E.length ≤ 64 + k / 8 := by rw [hE, hX]; exact enc_runs c k (by omega)
      have hEi : (E.length : Int) ≤ 64 + (k : Int) / 8 := by omega
      have HDE := Lib.hid (by
        have := dec_enc (l := X) (Z := []) XB.out (by intro x hx; simp at hx) (by omega)
        rw [List.append_nil, if_pos rfl, ← hE] at this
        exact this : dec E = (X, 0))
      have HEN := Lib.hid (by have h := encode_src SX.out (by omega); rw [← hE, hXl] at h; exact h : Calls Try.prog 14 #[.slice (some ⟨g, 0, none⟩) k k] wr (SliceTo wr E))
      have HXL := Lib.hid hXl
      clear hs hf hX hE hke hXl hEl
      go_wp2_with fail
      refine HEN.out.mono ?_
      rintro e w2 ⟨ya, yc, rfl, sy, f2, n2⟩
      have F2 := Lib.hid (HF.out.trans f2 (by simp [Ext]))
      have SX2 := Lib.hid (SX.out.old f2)
      have HDC := Lib.hid (by have h := decode_src (sy.src EB.out) sy.lt; rw [HDE.out] at h; exact h)
      clear sy f2 n2 HF SX HEN
      go_wp2_with fail
      refine HDC.out.mono ?_
      rintro e w3 ⟨za, zc, rfl, sz, f3, n3⟩
      have F3 := Lib.hid (F2.out.trans f3 (by simp [Ext]))
      have HSM := Lib.hid (by
        have h := same_any w3 (some ⟨g, 0, none⟩) za k zc X X (SX2.out.old f3).rd sz.rd
        rw [decide_eq_true rfl, HXL.out] at h
        exact h)
      have hzl : X.length = k := HXL.out
      clear sz f3 n3 F2 SX2 HDC
      simp only [hzl]
      clear hzl
      go_wp2_with fail
      refine HSM.out.mono ?_
      rintro e w4 ⟨rfl, f4⟩
      have F4 := Lib.hid (F3.out.trans f4 (by simp [Ext]))
      clear f4
      go_wp2_with fail
      refine (lives_any _).mono ?_
      rintro e w5 ⟨rfl, f5⟩
      go_wp2_with fail
      go_ret
      exact ⟨rfl, F4.out.trans f5 (by simp [Ext])⟩
end Go.Proofs.Ytjehkpfmndfjeaa
