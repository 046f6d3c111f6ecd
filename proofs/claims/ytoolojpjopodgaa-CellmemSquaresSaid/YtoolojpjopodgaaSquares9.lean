/- CellmemSquares returns true. -/
import Derived.Deep.DeepCutAuto
import Derived.Test.YtoolojpjopodgaaBuilt9
namespace Go.Proofs.Ytoolojpjopodgaa
open Go.RowKit

set_option maxRecDepth 100000 in
set_option maxHeartbeats 2000000 in
theorem fdiv_any (w : World) (a : Int) (h0 : 0 ≤ a) (h1 : a ≤ 1000000000000000000) : Calls Try.prog 48 #[.int .i64 a, .int .i64 1024] w fun e w' => e = .returned (.int .i64 (a / 1024)) ∧ ∃ k, w' = w.drewN k := by
  have e1 : a.tmod 1024 = a % 1024 := Int.tmod_eq_emod_of_nonneg h0
  have e2 : a.tdiv 1024 = a / 1024 := Int.tdiv_eq_ediv_of_nonneg h0
  have hd : 0 ≤ a / 1024 := by omega
  have hd2 : a / 1024 ≤ 1000000000000000 := by omega
  have hm : 0 ≤ a % 1024 := by omega
  have hm2 : a % 1024 < 1024 := by omega
  have hw : IntKind.i64.wrap (a / 1024) = a / 1024 := IntWalk.i64_in _ (by omega)
  have hw2 : IntKind.i64.wrap (a % 1024) = a % 1024 := IntWalk.i64_in _ (by omega)
  have hlt : decide (a % 1024 < 0) = false := decide_eq_false (by omega)
  go_enter Try.func48, Try.ntmps48
  go_wp2_with fail
  go_quiet (fail)
  go_wp2_with fail
  all_goals
    go_ret
    exact ⟨rfl, _, rfl⟩

set_option maxRecDepth 100000 in
set_option maxHeartbeats 2000000 in
theorem fmul_any (w : World) (x : Int) (h0 : 0 ≤ x) (h1 : x < 16777216) : Calls Try.prog 38 #[.int .i64 x, .int .i64 x] w fun e w' => e = .returned (.int .i64 (x * x / 1024)) ∧ ∃ k, w' = w.drewN k := by
  have hx0 : 0 ≤ x * x := Int.mul_nonneg h0 h0
  have hx1 : x * x ≤ 281474976710656 := by
    have := Int.mul_le_mul (show x ≤ 16777216 by omega) (show x ≤ 16777216 by omega) h0 (by omega)
    omega
  have hw : IntKind.i64.wrap (x * x) = x * x := IntWalk.i64_in _ (by omega)
  have HD := Lib.hid (fun u => fdiv_any u (x * x) hx0 (by omega))
  go_enter Try.func38, Try.ntmps38
  go_wp2_with fail
  refine (HD.out _).mono ?_
  rintro e w1 ⟨rfl, k, rfl⟩
  go_wp2_with fail
  go_ret
  exact ⟨rfl, k, rfl⟩

def fewF (l : List Int) (i : Nat) : List Int := (l.take i).map fun n => around n 16777216
theorem fewF_succ (l : List Int) (i : Nat) (hi : i < l.length) : fewF l (i + 1) = fewF l i ++ [around l[i] 16777216] := by
  unfold fewF
  rw [List.take_succ_eq_append_getElem hi, List.map_append]
  rfl
theorem fewF_bnd (l : List Int) (i : Nat) : ∀ x ∈ fewF l i, 0 ≤ x ∧ x < 16777216 := by
  intro x hx
  obtain ⟨n, _, rfl⟩ := List.mem_map.1 hx
  exact around_lt n (by omega)

def sq (x : Int) : Int := x * x / 1024
def sqS (X : List Int) : Nat → MemS
  | 0 => ⟨X, [], 0⟩
  | i + 1 => (sqS X i).set i (sq (X.getD i 0))
theorem sqS_cells (X : List Int) (i : Nat) (hi : i ≤ X.length) : (sqS X i).cells.length = X.length ∧ ∀ j, (sqS X i).cells[j]? = if j < i then X[j]?.map sq else X[j]? := by
  induction i with
  | zero => exact ⟨rfl, fun j => by simp [sqS]⟩
  | succ i ih =>
    obtain ⟨h1, h2⟩ := ih (by omega)
    have h3 : (sqS X i).set i (sq (X.getD i 0)) = { cells := (sqS X i).cells.set i (sq (X.getD i 0)), log := (sqS X i).log ++ [((i : Int), (sqS X i).cells[i]'(by omega))], base := (sqS X i).base } := (sqS X i).set_in i _ (by omega)
    refine ⟨by show ((sqS X i).set i (sq (X.getD i 0))).cells.length = _; rw [h3]; simpa using h1, fun j => ?_⟩
    show ((sqS X i).set i (sq (X.getD i 0))).cells[j]? = _
    rw [h3]
    simp only [List.getElem?_set]
    by_cases hj : i = j
    · subst hj
      rw [if_pos rfl, if_pos (by omega), if_pos (by omega), List.getD_eq_getElem?_getD, List.getElem?_eq_getElem (by omega)]
      rfl
    · rw [if_neg hj, h2]
      by_cases hji : j < i
      · rw [if_pos hji, if_pos (by omega)]
      · rw [if_neg hji, if_neg (by omega)]
theorem sqS_get (X : List Int) (i : Nat) (hi : i ≤ X.length) (j : Nat) (hj : j < X.length) : (sqS X i).get j = if j < i then sq X[j] else X[j] := by
  obtain ⟨h1, h2⟩ := sqS_cells X i hi
  have h3 := h2 j
  rw [MemS.get, show (sqS X i).has j = true by simp [MemS.has, h1, hj], if_pos rfl, List.getD_eq_getElem?_getD, Int.toNat_natCast, h3]
  split <;> simp [hj]
theorem sqS_grew (X : List Int) (i : Nat) : Grew ⟨X, [], 0⟩ (sqS X i) := by
  induction i with
  | zero => exact Grew.refl _
  | succ i ih => exact ih.set _ _

def FewInv (w : World) (l : List Int) (sv iv : Value) (wr : World) : Prop :=
  ∃ (i : Nat) (oa : Option Addr) (oc : Nat), i ≤ l.length ∧ i ≤ 8 ∧ iv = .int .i64 (i : Int) ∧ sv = .slice oa (fewF l i).length oc ∧
    Seg wr 3 1 oa (fewF l i).length oc (ints (fewF l i)) ∧ Fr [] w wr ∧ ∀ k ∈ blk oa, w.heap.size ≤ k

set_option maxRecDepth 100000 in
set_option maxHeartbeats 8000000 in
theorem squares_walk (w : World) (ao : Option Addr) (ac : Nat) (l : List Int) (hl : Rd w 1 ao l.length (ints l)) (hb : ∀ x ∈ l, bounded x) :
    Calls Try.prog 11 #[.slice ao l.length ac] w fun e w' => e = .returned (.bool true) ∧ Fr [] w w' := by
  obtain ⟨ii, hii, hii0, hii1, hii2⟩ := info_parts infoIntC
  have hlen : l.length ≤ 9223372036854775807 := by have := hl.2.1; unfold maxLen at this; omega
  have H := Lib.hid hl
  have HB := Lib.hid hb
  have HST := Lib.hid (⟨0, none, 0, by omega, by omega, rfl, rfl, by simpa [fewF, ints] using Seg.nil w _ 1, Fr.refl _ _, by simp [blk]⟩ : FewInv w l (.slice none 0 0) (.int .i64 0) w)
  clear hl hb
  go_enter Try.func11, Try.ntmps11
  go_wp2_with fail
  go_loopw [3, 4] (fun sv iv wr => FewInv w l sv iv wr) (fun _ iv _ => 8 - (intOf iv).toNat)
  case atStart => exact HST.out
  case round =>
    clear HST
    obtain ⟨i, oa, oc, hil, hi8, rfl, rfl, hseg, hf, hn⟩ := hrel
    obtain ⟨X, hX⟩ : ∃ X, X = fewF l i := ⟨_, rfl⟩
    have hXl : X.length = i := by rw [hX]; unfold fewF; simp; omega
    have hX8 : X.length ≤ 8 := by omega
    rw [← hX] at hseg ⊢
    have HX := Lib.hid hX
    have HXL := Lib.hid hXl
    have HS := Lib.hid hseg
    have HF := Lib.hid hf
    have HN := Lib.hid hn
    clear hX hXl hseg hf hn
    by_cases hlt : i < l.length ∧ i < 8
    · obtain ⟨h1, h2⟩ := hlt
      obtain ⟨g, off, rfl, hg, hc⟩ := (H.out.fr HF.out (by simp)).at (by omega)
      have cx : wr.cell? ⟨g, off + i, none⟩ = some (.int .i64 l[i]) := by rw [hc i (by omega), ints_get, List.getElem?_eq_getElem h1]; rfl
      obtain ⟨n, hn6, hne, hA⟩ := around_nat l[i] 16777216 (HB.out _ (List.getElem_mem h1)) (by omega) (by omega)
      have HA := Lib.hid hA
      have HNE := Lib.hid (show around l[i] 16777216 = (n : Int) from hne.symm)
      obtain ⟨x, hx⟩ : ∃ x, x = l[i] := ⟨_, rfl⟩
      rw [← hx] at cx HA
      clear hA hc hx hne
      go_wp2_with fail
      refine (HA.out _).mono ?_
      rintro e w1 ⟨rfl, rfl⟩
      have HSA := Lib.hid fun (o : Obj) => HS.out.alloc o
      have HNW := Lib.hid (fun (v : Value) j u hu => by
        rw [Addr.add_mid, Nat.zero_add, World.cell?_alloc_new]; simpa using hu : ∀ v j u, [v][j]? = some u → (wr.alloc (.cells #[v] 3)).cell? ((⟨wr.heap.size, 0, none⟩ : Addr).add j) = some u)
      go_wp2_with (at_builtin; refine wpList_append_seg rfl _ _ 22 rfl 3 ii _ 1 8 Try.underlying22 hii hii0 hii1 hii2 rfl (by decide) oa X.length oc (ints X) rfl (HSA.out _) ⟨_, 0, none⟩ 1 1 [_] rfl rfl (HNW.out _) (by simp [Value.oneCell']) (by unfold maxLen; omega) (by omega) ?_; intro ao' cap' w5 hs5 hf5 hx5; have HF5 := Lib.hid (((Fr.refl (blk oa) wr).alloc _).trans hf5 (Ext.refl _ _)); have HX5 := Lib.hid hx5; have HS5 := Lib.hid hs5; clear hs5 hf5 hx5)
      go_roundw
      case rel =>
        have e1 : fewF l (i + 1) = X ++ [(n : Int)] := by rw [fewF_succ l i h1, ← HX.out, HNE.out]
        refine ⟨i + 1, ao', cap', by omega, by omega, by go_num, by rw [e1]; simp, ?_, HF.out.trans HF5.out (fun k hk => .inr (HN.out k hk)), fun k hk => ?_⟩
        · rw [e1, ints_append]
          have h := HS5.out
          simpa [ints] using h
        · rcases HX5.out k hk with h | h
          · exact HN.out k h
          · have := HF.out.size; simp at h; omega
      case measure => simp [intOf]; omega
    · have HXB := Lib.hid (by rw [HX.out]; exact fewF_bnd l i : ∀ x ∈ X, 0 ≤ x ∧ x < 16777216)
      have HNW := Lib.hid (m_new' (W := w) (G := blk oa) HF.out oa oc X HS.out.rd (by omega) (fun k hk => ⟨HN.out k hk, HS.out.lt k hk⟩))
      have hcs : (i < l.length ∧ ¬ i < 8) ∨ ¬ i < l.length := by omega
      clear hlt
      rcases hcs with ⟨h1, h2⟩ | h1
      all_goals
        go_wp2_with fail
        refine HNW.out.mono ?_
        rintro e w2 ⟨p, rfl, h2, k2⟩
        have H2 := Lib.hid h2
        have S2 := Lib.hid (HS.out.kept k2 (fun k hk => hk))
        clear h2 k2 HNW HS HF HN HX HXL
        go_wp2_with fail
        refine (m_mark H2.out (by omega) (x := 0) (by simp [MemS.mark])).mono ?_
        rintro e w3 ⟨rfl, k3, rfl⟩
        have H3 := Lib.hid (H2.out.drewN k3)
        have S3 := Lib.hid (S2.out.drewN k3)
        clear H2 S2
        go_wp2_with fail
        go_loopw [7] (fun iv wr => ∃ i : Nat, i ≤ X.length ∧ iv = .int .i64 (i : Int) ∧ OwnG (memX p (sqS X i) i) w (blk oa) wr ∧ Seg wr 3 1 oa X.length oc (ints X)) (fun iv _ => X.length - (intOf iv).toNat)
        case atStart => exact ⟨0, by omega, rfl, H3.out, S3.out⟩
        case round =>
          obtain ⟨j, hj, rfl, hown, hseg⟩ := hrel
          have HO := Lib.hid hown
          have HG := Lib.hid hseg
          clear hown hseg
          by_cases hlt : j < X.length
          · obtain ⟨x, hx⟩ : ∃ x, x = X[j] := ⟨_, rfl⟩
            have hxb := HXB.out x (by rw [hx]; exact List.getElem_mem hlt)
            have HGX := Lib.hid (by rw [sqS_get X j hj j hlt, if_neg (by omega), hx] : (sqS X j).get j = x)
            have HSX := Lib.hid (by rw [hx]; show (sqS X j).set j (sq (X.getD j 0)) = _; rw [List.getD_eq_getElem?_getD, List.getElem?_eq_getElem hlt]; rfl : sqS X (j + 1) = (sqS X j).set j (x * x / 1024))
            have hj8 : (j : Int) ≤ 1000000 := by omega
            clear hx
            go_wp2_with fail
            refine (m_get HO.out j HGX.out).mono ?_
            rintro e w5 ⟨rfl, rfl⟩
            go_wp2_with fail
            refine (m_get HO.out j HGX.out).mono ?_
            rintro e w5 ⟨rfl, rfl⟩
            go_wp2_with fail
            refine (fmul_any _ x hxb.1 hxb.2).mono ?_
            rintro e w5 ⟨rfl, k5, rfl⟩
            go_wp2_with fail
            refine (m_set (HO.out.drewN k5) j (x * x / 1024) hj8 HSX.out.symm).mono ?_
            rintro e w6 ⟨rfl, h6, k6⟩
            have H6 := Lib.hid h6
            have G6 := Lib.hid ((HG.out.drewN k5).kept k6 (fun k hk => hk))
            clear h6 k6
            go_wp2_with fail
            go_roundw
            case rel => exact ⟨j + 1, by omega, by go_num, by have h := H6.out; simpa using h, G6.out⟩
            case measure => simp [intOf]; omega
          · have hjE : j = X.length := by omega
            have HO2 := Lib.hid (by rw [← hjE]; exact HO.out : OwnG (memX p (sqS X X.length) X.length) w (blk oa) wr)
            clear hjE HO
            go_wp2_with fail
            go_loopw [8] (fun iv wr2 => ∃ i : Nat, i ≤ X.length ∧ iv = .int .i64 (i : Int) ∧ ∃ k, wr2 = wr.drewN k) (fun iv _ => X.length - (intOf iv).toNat)
            case atStart => exact ⟨0, by omega, rfl, 0, rfl⟩
            case round =>
              obtain ⟨i3, hi3, rfl, k3, rfl⟩ := hrel
              by_cases hlt3 : i3 < X.length
              · obtain ⟨x, hx⟩ : ∃ x, x = X[i3] := ⟨_, rfl⟩
                have hxb := HXB.out x (by rw [hx]; exact List.getElem_mem hlt3)
                obtain ⟨g, off, cur, rfl, -, -, hcq, -⟩ := HG.out.at (by have := HG.out.2.2.1; omega)
                have cx : wr.cell? ⟨g, off + i3, none⟩ = some (.int .i64 x) := by rw [hcq i3 (by omega), ints_get, List.getElem?_eq_getElem hlt3, hx]; rfl
                have HGX := Lib.hid (by rw [sqS_get X X.length (Nat.le_refl _) i3 hlt3, if_pos hlt3, hx] : (sqS X X.length).get i3 = sq x)
                have hx0 : 0 ≤ x * x := Int.mul_nonneg hxb.1 hxb.1
                have hx1 : x * x ≤ 281474976710656 := by
                  have := Int.mul_le_mul (show x ≤ 16777216 by omega) (show x ≤ 16777216 by omega) hxb.1 (by omega)
                  omega
                have hw1 : IntKind.i64.wrap (x * x) = x * x := IntWalk.i64_in _ (by omega)
                have hw2 : (x * x).tdiv 1024 = x * x / 1024 := Int.tdiv_eq_ediv_of_nonneg hx0
                have hw3 : IntKind.i64.wrap (x * x / 1024) = x * x / 1024 := IntWalk.i64_in _ (by omega)
                have hsq : sq x = x * x / 1024 := rfl
                have HQ := Lib.hid (fun k => m_get (HO2.out.drewN k) i3 (hsq ▸ HGX.out))
                clear hx hcq hsq
                go_wp2_with fail
                go_quiet ((go_at_call 14; exact quiet2 (HQ.out _)))
                go_wp2_with fail
                go_roundw
                case rel => exact ⟨i3 + 1, by omega, by go_num, _, rfl⟩
                case measure => simp [intOf]; omega
              · have HU := Lib.hid (sqS_grew X X.length)
                have HOK := Lib.hid (HO2.out.drewN k3)
                have HGK := Lib.hid (HG.out.drewN k3)
                have HU1 := Lib.hid (by have h := HU.out.in; simpa [MemS.mark] using h : (sqS X X.length).base ≤ 0 ∧ 0 ≤ (sqS X X.length).base + (sqS X X.length).log.length)
                have HU2 := Lib.hid (by have h := HU.out.undo; simpa [MemS.mark] using h : (sqS X X.length).undo 0 = ⟨X, [], 0⟩)
                go_wp2_with fail
                refine (m_undo HOK.out 0 (by omega) HU1.out.1 HU1.out.2 HU2.out).mono ?_
                rintro e w7 ⟨rfl, h7, k7⟩
                have H7 := Lib.hid h7
                have G7 := Lib.hid (HGK.out.kept k7 (fun k hk => hk))
                clear h7 k7 HOK HGK HU1 HU2
                go_wp2_with fail
                refine (m_cells H7.out (l := X) rfl).mono ?_
                rintro e w8 ⟨b8, rfl, hr8, h8, k8, -⟩
                have RA := Lib.hid (row_seg hr8 (by unfold maxLen; omega)).rd
                have RB := Lib.hid (G7.out.kept k8 (fun k hk => hk)).rd
                have H8 := Lib.hid h8
                clear hr8 h8 k8 H7 G7
                go_wp2_with fail
                refine (same_yes w8 _ _ _ _ X RA.out RB.out).mono ?_
                rintro e w9 ⟨rfl, k9, rfl⟩
                have H9 := Lib.hid (H8.out.drewN k9)
                clear RA RB H8
                go_wp2_with fail
                refine (lives_any _).mono ?_
                rintro e w10 ⟨rfl, f10⟩
                have F10 := Lib.hid (H9.out.frame.trans f10 (by simp [Ext]))
                clear f10
                go_wp2_with fail
                go_ret
                exact ⟨rfl, F10.out⟩
end Go.Proofs.Ytoolojpjopodgaa
