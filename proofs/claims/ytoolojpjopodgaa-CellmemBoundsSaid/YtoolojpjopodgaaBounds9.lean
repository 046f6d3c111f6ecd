/- CellmemBounds returns true. -/
import Derived.Test.YtoolojpjopodgaaHelp9
namespace Go.Proofs.Ytoolojpjopodgaa
open Go.RowKit

theorem Seg.kept {w w' : World} {e : TypeId} {size n cap : Nat} {ao : Option Addr} {xs : List Value} (h : Seg w e size ao n cap xs) {G : List Nat} (hk : Kept G w w') (hG : ∀ k ∈ blk ao, k ∈ G) : Seg w' e size ao n cap xs := h.same fun k hm => hk k (hG k hm)

theorem MemS.get_in {s : MemS} {k : Nat} (hk : k < s.cells.length) : s.get k = s.cells[k] := by simp [MemS.get, MemS.has, hk]
theorem MemS.get_out {s : MemS} {i : Int} (h : ¬ (0 ≤ i ∧ i < s.cells.length)) : s.get i = 0 := by simp [MemS.get, MemS.has, h]

set_option maxRecDepth 100000 in
set_option maxHeartbeats 4000000 in
theorem bounds_walk (w : World) (ao : Option Addr) (cap : Nat) (l : List Int) (hs : Srci w ao cap l) (i v : Int) :
    Calls Try.prog 3 #[.slice ao l.length cap, .int .i64 i, .int .i64 v] w fun e w' => e = .returned (.bool true) ∧ Fr [] w w' := by
  obtain ⟨X, hX⟩ : ∃ X, X = l.take 8 := ⟨_, rfl⟩
  have hX8 : X.length ≤ 8 := by rw [hX]; simp; omega
  have HI := Lib.hid (hX ▸ ints_any w ao cap l 8 hs (by omega) : Calls Try.prog 12 #[.slice ao l.length cap, .int .i64 8] w (IntsTo w X))
  clear hs hX
  by_cases hin : 0 ≤ i ∧ i < X.length
  · obtain ⟨h0, h1⟩ := hin
    obtain ⟨k, rfl⟩ := Int.eq_ofNat_of_zero_le h0
    have hk : k < X.length := by omega
    have HS1 := Lib.hid (MemS.set_in ⟨X, [], 0⟩ k v hk)
    have HG0 := Lib.hid (MemS.get_in (s := ⟨X, [], 0⟩) hk)
    have HG1 := Lib.hid (by rw [MemS.get_in (by simpa using hk)]; simp : MemS.get ⟨X.set k v, [((k : Int), X[k])], 0⟩ k = v)
    go_enter Try.func3, Try.ntmps3
    go_wp2_with fail
    refine HI.out.mono ?_
    rintro e w1 ⟨fo, fc, rfl, hfs, hf1, hfn⟩
    have HF := Lib.hid hfs
    have HNW := Lib.hid (m_new' (W := w) hf1 fo fc X hfs.rd (by omega) (G := blk fo) (fun k hk => ⟨hfn k hk, hfs.lt k hk⟩))
    clear hfs hf1 hfn HI
    go_wp2_with fail
    refine HNW.out.mono ?_
    rintro e w2 ⟨p, rfl, h2, k2⟩
    have H2 := Lib.hid h2
    obtain ⟨g, off, cur, hfo, -, -, hc, -⟩ := (HF.out.kept k2 (fun k hk => hk)).at (by have := HF.out.2.2.1; omega)
    subst hfo
    have cx : w2.cell? ⟨g, off + k, none⟩ = some (.int .i64 X[k]) := by rw [hc k (by omega), ints_get, List.getElem?_eq_getElem hk]; rfl
    clear h2 k2 hc HNW
    go_wp2_with fail
    refine (m_get H2.out k HG0.out).mono ?_
    rintro e w3 ⟨rfl, rfl⟩
    go_wp2_with fail
    refine (m_set H2.out k v (by omega) HS1.out).mono ?_
    rintro e w3 ⟨rfl, h3, -⟩
    have H3 := Lib.hid h3
    clear h3 H2 cx
    go_wp2_with fail
    refine (m_len H3.out (x := (X.length : Int)) (by simp)).mono ?_
    rintro e w4 ⟨rfl, rfl⟩
    go_wp2_with fail
    refine (m_mark H3.out (by omega) (x := 1) (by simp [MemS.mark])).mono ?_
    rintro e w4 ⟨rfl, k4, rfl⟩
    have H4 := Lib.hid (H3.out.drewN k4)
    go_wp2_with fail
    refine (m_mark H4.out (by omega) (x := 1) (by simp [MemS.mark])).mono ?_
    rintro e w5 ⟨rfl, k5, rfl⟩
    have H5 := Lib.hid (H3.out.drewN (k4 + k5))
    clear H4 H3
    go_wp2_with fail
    refine (m_get H5.out k HG1.out).mono ?_
    rintro e w6 ⟨rfl, rfl⟩
    go_wp2_with fail
    refine (lives_any _).mono ?_
    rintro e w7 ⟨rfl, f7⟩
    have F7 := Lib.hid (H5.out.frame.trans f7 (by simp [Ext]))
    clear f7
    go_wp2_with fail
    go_ret
    exact ⟨rfl, F7.out⟩
  · have HS1 := Lib.hid (MemS.set_out ⟨X, [], 0⟩ i v hin)
    have HG0 := Lib.hid (MemS.get_out (s := ⟨X, [], 0⟩) hin)
    have hcs : i < 0 ∨ (0 ≤ i ∧ (X.length : Int) ≤ i) := by omega
    clear hin
    rcases hcs with hneg | ⟨hpos, hbig⟩
    case' inr => have hd : decide (i < (X.length : Int)) = false := decide_eq_false (by omega)
    all_goals
      go_enter Try.func3, Try.ntmps3
      go_wp2_with fail
      refine HI.out.mono ?_
      rintro e w1 ⟨fo, fc, rfl, hfs, hf1, hfn⟩
      have HF := Lib.hid hfs
      have HNW := Lib.hid (m_new' (W := w) hf1 fo fc X hfs.rd (by omega) (G := blk fo) (fun k hk => ⟨hfn k hk, hfs.lt k hk⟩))
      clear hfs hf1 hfn HI
      go_wp2_with fail
      refine HNW.out.mono ?_
      rintro e w2 ⟨p, rfl, h2, k2⟩
      have H2 := Lib.hid h2
      have HF2 := Lib.hid (HF.out.kept k2 (fun k hk => hk))
      clear h2 k2 HNW HF
      go_wp2_with fail
      refine (m_get H2.out i HG0.out).mono ?_
      rintro e w3 ⟨rfl, rfl⟩
      go_wp2_with fail
      refine (m_set H2.out i v (by omega) HS1.out).mono ?_
      rintro e w3 ⟨rfl, h3, k3⟩
      have H3 := Lib.hid h3
      have HF3 := Lib.hid (HF2.out.kept k3 (fun k hk => hk))
      clear h3 k3 H2 HF2
      go_wp2_with fail
      refine (m_len H3.out (x := (X.length : Int)) rfl).mono ?_
      rintro e w4 ⟨rfl, rfl⟩
      go_wp2_with fail
      refine (m_mark H3.out (by omega) (x := 0) (by simp [MemS.mark])).mono ?_
      rintro e w4 ⟨rfl, k4, rfl⟩
      have H4 := Lib.hid (H3.out.drewN k4)
      go_wp2_with fail
      refine (m_mark H4.out (by omega) (x := 0) (by simp [MemS.mark])).mono ?_
      rintro e w5 ⟨rfl, k5, rfl⟩
      have H5 := Lib.hid (H3.out.drewN (k4 + k5))
      have HF5 := Lib.hid (HF3.out.drewN (k4 + k5))
      clear H4 H3 HF3
      go_wp2_with fail
      refine (m_cells H5.out (l := X) rfl).mono ?_
      rintro e w6 ⟨b, rfl, hb, h6, k6⟩
      have HRB := Lib.hid (row_seg hb (by unfold maxLen; omega)).rd
      have HF6 := Lib.hid (HF5.out.kept k6 (fun k hk => hk)).rd
      have H6 := Lib.hid h6
      clear hb h6 k6 H5 HF5
      go_wp2_with fail
      refine (same_yes _ (some ⟨b, 0, none⟩) fo X.length fc X HRB.out HF6.out).mono ?_
      rintro e w7 ⟨rfl, k7, rfl⟩
      have H7 := Lib.hid (H6.out.drewN k7)
      go_wp2_with fail
      refine (m_get H7.out i HG0.out).mono ?_
      rintro e w8 ⟨rfl, rfl⟩
      go_wp2_with fail
      refine (lives_any _).mono ?_
      rintro e w8 ⟨rfl, f8⟩
      have F8 := Lib.hid (H7.out.frame.trans f8 (by simp [Ext]))
      clear f8
      go_wp2_with fail
      go_ret
      exact ⟨rfl, F8.out⟩
end Go.Proofs.Ytoolojpjopodgaa
