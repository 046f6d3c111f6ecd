/- RinglogLog returns true: the walk. -/
import Derived.Test.YtchigfofcdildaaLog
namespace Go.Proofs.Ytchigfofcdildaa
open Go.RowKit

theorem sum_take (l : List Int) (j : Nat) (x : Int) (h : l[j]? = some x) : sumI (l.take (j + 1)) = sumI (l.take j) + x := by
  rw [List.take_add_one, h, sumI_append]; simp [sumI]
theorem sum_le (l : List Int) (h1 : ∀ x ∈ l, 0 ≤ x) (h2 : ∀ x ∈ l, x ≤ 40) : 0 ≤ sumI l ∧ sumI l ≤ 40 * l.length := by
  induction l with
  | nil => simp [sumI]
  | cons a l ih =>
    obtain ⟨i1, i2⟩ := ih (fun x hx => h1 x (by simp [hx])) (fun x hx => h2 x (by simp [hx]))
    have e : sumI (a :: l) = a + sumI l := by rw [show a :: l = [a] ++ l by rfl, sumI_append, sumI_one]
    have a1 := h1 a (by simp)
    have a2 := h2 a (by simp)
    rw [e, List.length_cons]
    omega

theorem log_logged {W w : World} {p r : Nat} {m : MemS} {R : RingS} {G : List Nat} {ws : List Int} {k : Nat} (h : OwnG (bothX p r m R) W G w) (hl : LogInv m R ws) (hR : R.keep = k) (hk : k < ws.length) {sum : Int} (hs : sum = sumI (ws.drop (ws.length - k))) :
    Calls Try.prog 21 #[.pointer (some ⟨p, 0, none⟩)] w fun e w' => e = .returned (.int .i64 sum) ∧ Fr [] W w' := by
  have hf := h.frame
  obtain ⟨F, a, b⟩ := h
  have := hl.logged (by omega)
  rw [hR, Int.toNat_natCast] at this
  rw [hs, ← this]
  exact (both_logged a).mono fun e w' ⟨h1, h2⟩ => ⟨h1, h2 ▸ hf⟩

/-- the summing of the last counts -/
def sumUp (ws : List Int) (k j : Nat) : Int := sumI ((ws.drop (ws.length - k)).take j)
theorem sumUp_step (ws : List Int) (k j : Nat) (x : Int) (h : ws[ws.length - k + j]? = some x) : sumUp ws k (j + 1) = sumUp ws k j + x := sum_take _ _ _ (by rw [List.getElem?_drop]; exact h)
theorem sumUp_le (ws : List Int) (k j : Nat) (h1 : ∀ x ∈ ws, 0 ≤ x) (h2 : ∀ x ∈ ws, x ≤ 40) (hj : ws.length ≤ 40) : 0 ≤ sumUp ws k j ∧ sumUp ws k j ≤ 1600 := by
  obtain ⟨a, b⟩ := sum_le ((ws.drop (ws.length - k)).take j) (fun x hx => h1 x (List.mem_of_mem_drop (List.mem_of_mem_take hx))) (fun x hx => h2 x (List.mem_of_mem_drop (List.mem_of_mem_take hx)))
  unfold sumUp
  simp only [List.length_take, List.length_drop] at b
  omega

set_option maxRecDepth 100000 in
set_option maxHeartbeats 4000000 in
theorem log_walk (keep : Int) (ao : Option Addr) (cap : Nat) (l : List Int) (w : World) (h1 : bounded keep) (hrd : Rd w 1 ao l.length (ints l)) (hb : ∀ x ∈ l, bounded x) :
    Calls Try.prog 5 #[.int .i64 keep, .slice ao l.length cap] w fun e w' => e = .returned (.bool true) ∧ Below w.heap.size w w' := by
  obtain ⟨k, hk⟩ := Int.eq_ofNat_of_zero_le (show 0 ≤ 1 + around keep 13 by have := around_lt keep (m := 13) (by omega); omega)
  have bk := around_lt keep (m := 13) (by omega)
  have k1 : 1 ≤ k := by omega
  have k2 : k ≤ 13 := by omega
  have HK := Lib.hid fun w => (hk ▸ keeps_any keep w h1.1 h1.2 : Calls Try.prog 9 #[.int .i64 keep] w fun e w' => e = .returned (.int .i64 k) ∧ w = w')
  have HRD := Lib.hid hrd
  have HB := Lib.hid hb
  obtain ⟨i0, hi0, hz0, hz1, hz2⟩ := info_parts infoInt
  clear hk bk h1 hrd hb
  go_enter Try.func5, Try.ntmps5
  go_wp2_with fail
  refine (HK.out _).mono ?_
  rintro e w1 ⟨rfl, rfl⟩
  go_wp2_with fail
  refine (made_any w k (by omega) (by omega)).mono ?_
  rintro e w2 ⟨p, r, rfl, o2⟩
  go_wp2_with fail
  refine (acts_any w2 ao cap l (HRD.out.fr o2.frame (by simp)) HB.out).mono ?_
  rintro e w3 ⟨aa, ca, acts, rfl, hal, hok, hsa, hfa, hna⟩
  have o3 : LogSt w p r k aa ca acts 0 (.slice none 0 0) w3 := by
    obtain ⟨F, ho, hf, he⟩ := o2
    obtain ⟨m, R, hb, hi, hS, hn, hT, hk13⟩ := ho
    obtain ⟨m, lg, bs⟩ := m
    obtain ⟨kp, en⟩ := R
    simp only [seen, Sp.mk.injEq] at hS
    obtain ⟨rfl, rfl, hS3⟩ := hS
    have hen : en = [] := by simpa using hS3.symm
    subst hen
    have hbase := hi.base
    simp only at hbase hn
    have hsz := hf.size
    refine ⟨none, 0, [], _, _, rfl, ⟨hi, by have := hi.keep1; simp at this ⊢; omega, by simp [RingS.newest], by intro i hi; simp at hi, by intro _ h; simp at h, by simp⟩, rfl, by simp, by simpa using hn, by simp, rfl, ⟨F, Both.fr hb hfa (by simp), hf.trans hfa (by simp [Ext]), he, fun x hx hg => ?_, fun x hx => ?_⟩, by simpa [ints] using Seg.nil _ _ _, hsa, by simp [blk]⟩
    · simp [blk] at hg
      have a := hb.lt x hx
      have b := hna x (by simpa [blk] using hg)
      omega
    · have hx' : x ∈ blk aa := by simpa [blk] using hx
      have a := hna x hx'
      have b := hsa.lt x hx'
      exact ⟨by omega, b⟩
  have OK := Lib.hid hok
  have O3 := Lib.hid o3
  clear hok hsa hfa hna o2 o3
  go_wp2_with fail
  go_loopw [8, 10] (fun v i wr => ∃ i' : Nat, i' ≤ acts.length ∧ i = .int .i64 i' ∧ LogSt w p r k aa ca acts i' v wr) (fun _ i _ => acts.length - (intOf i).toNat)
  case atStart => exact ⟨0, Nat.zero_le _, rfl, O3.out⟩
  case round =>
    clear O3
    obtain ⟨i, hi, rfl, b, c, ws, m, R, rfl, h1, h2, h3, h4, h5, h6, h7, h8, h9, h10⟩ := hrel
    have H1 := Lib.hid h1
    have H2 := Lib.hid h2
    have H4 := Lib.hid h4
    have H5 := Lib.hid h5
    have H6 := Lib.hid h6
    have H7 := Lib.hid h7
    have H8 := Lib.hid h8
    have H9 := Lib.hid h9
    have H10 := Lib.hid h10
    clear h1 h2 h4 h5 h6 h7 h8 h9 h10
    have i40 : i ≤ 40 := by omega
    by_cases hin : i < acts.length
    · have hcx : ∃ g off d a v, aa = some ⟨g, off, none⟩ ∧ actOk (d, a, v) ∧ wr.cell? ⟨g, off + i * 3, none⟩ = some (.int .i64 d) ∧ wr.cell? ⟨g, off + i * 3 + 1, none⟩ = some (.int .i64 a) ∧ wr.cell? ⟨g, off + i * 3 + 2, none⟩ = some (.int .i64 v) := by
        have hh := H9.out
        obtain ⟨g, off, cur, ha, _⟩ := hh.at (by have := hh.2.2.1; omega)
        subst ha
        obtain ⟨c0, c1, c2⟩ := hh.trip hin
        exact ⟨g, off, _, _, _, rfl, OK.out _ (List.getElem_mem hin), c0, c1, c2⟩
      obtain ⟨g, off, d, a, v, rfl, hx, c0, c1, c2⟩ := hcx
      obtain ⟨x1, x2, x3, x4, x5, x6, x7⟩ := hx
      simp only at x1 x2 x3 x4 x5 x6 x7
      by_cases hd : 2 ≤ d
      · clear x5 c1 c2
        go_wp2_with fail
        refine (log_push H1.out H2.out h3 H4.out H5.out H6.out H7.out H8.out H9.out H10.out k2 i40).mono ?_
        rintro e w5 ⟨rfl, hm⟩
        have HM := Lib.hid hm
        have hs5 : Seg w5 3 1 b ws.length c (ints ws) := by obtain ⟨_, _, _, _, _, _, _, _, _, h, _⟩ := hm; exact h
        have HS := Lib.hid fun (o : Obj) => hs5.alloc o
        have HF := Lib.hid fun (o : Obj) => (Fr.refl [] w5).alloc o
        have HN := Lib.hid (fun j u hu => by
          rw [Addr.add_mid, Nat.zero_add, World.cell?_alloc_new]; simpa using hu : ∀ j u, [Value.int .i64 0][j]? = some u → (w5.alloc (.cells #[.int .i64 0] 3)).cell? ((⟨w5.heap.size, 0, none⟩ : Addr).add j) = some u)
        clear hm hs5 c0
        go_wp2_with (at_builtin; refine wpList_append_seg rfl _ _ 36 rfl 3 i0 _ 1 8 Try.underlying36 hi0 hz0 hz1 hz2 rfl (by decide) b ws.length c (ints ws) rfl (HS.out _) ⟨w5.heap.size, 0, none⟩ 1 1 [_] rfl rfl (HN.out) (by simp [Value.oneCell']) (by unfold maxLen; omega) (by omega) ?_; intro ao' cap' w6 hs6 hfr6 hext6)
        go_roundw
        case rel => exact ⟨i + 1, by omega, by go_num, HM.out.add (HF.out _) hs6 hfr6 hext6⟩
        case measure => simp [intOf]; omega
      · have x5' := x5 (by omega)
        clear x5
        by_cases ha : a < 6
        · go_wp2_with fail
          refine wp_still_tail 11 (by kernel_rfl) (by kernel_rfl) ?_
          simp only [List.take_succ_cons, List.take_zero, List.drop_succ_cons, List.drop_zero]
          repeat still_step
          refine wpStill_nil ?_
          have H7' := Lib.hid ((H7.out.fr (bothX_frm _ _ _ _) (Fr.refl [] wr).drew).1)
          go_wp2_with fail
          refine (log_set H1.out H2.out h3 H4.out H5.out H6.out H7'.out H8.out.drew H9.out.drew H10.out i40 a v x5' ha).mono ?_
          rintro e w5 ⟨rfl, hm⟩
          have HM := Lib.hid hm
          clear hm c0 c1 c2 H7'
          rcases Nat.eq_zero_or_pos ws.length with hz | hz
          · have hzi : ¬ (0 : Int) < (ws.length : Int) := by omega
            have HZ := Lib.hid hz
            clear hz
            go_wp2_with fail
            go_roundw
            case rel => exact ⟨i + 1, by omega, by go_num, HM.out.zero HZ.out⟩
            case measure => simp [intOf]; omega
          · obtain ⟨j, hj⟩ : ∃ j, ws.length = j + 1 := ⟨ws.length - 1, by omega⟩
            have hq : ∃ g off x, b = some ⟨g, off, none⟩ ∧ ws[j]? = some x ∧ w5.cell? ⟨g, off + j, none⟩ = some (.int .i64 x) ∧ w5.frozen? ⟨g, off + j, none⟩ = false ∧ 0 ≤ x ∧ x ≤ 40 := by
              obtain ⟨m', R', q1, q2, q3, q4, q5, q6, q7, q8, q9, q10⟩ := HM.out
              obtain ⟨g, off, cur, ha, _, _, hc, hf⟩ := q8.at (by have := q8.2.2.1; omega)
              have hjl : j < ws.length := by omega
              refine ⟨g, off, ws[j], ha, List.getElem?_eq_getElem hjl, ?_, hf _, H1.out.small _ (List.getElem_mem hjl), by have := H5.out _ (List.getElem_mem hjl); omega⟩
              rw [hc j (by omega), ints_get, List.getElem?_eq_getElem hjl]; rfl
            obtain ⟨g2, off2, x, rfl, hx, cx, fx, y1, y2⟩ := hq
            have HJ := Lib.hid hj
            have HX := Lib.hid hx
            have hj' : (ws.length : Int) - 1 = (j : Int) := by omega
            have hjl : j < ws.length := by omega
            clear hj hx
            go_wp2_with fail
            go_roundw
            case rel => exact ⟨i + 1, by omega, by go_num, HM.out.up HJ.out HX.out⟩
            case measure => simp [intOf]; omega
        · go_wp2_with fail
          go_roundw
          case rel => exact ⟨i + 1, by omega, by go_num, b, c, ws, m, R, rfl, H1.out, H2.out, by omega, by have := H4.out; omega, fun y hy => by have := H5.out y hy; omega, H6.out, H7.out, H8.out, H9.out, H10.out⟩
          case measure => simp [intOf]; omega
    · have hle : i = acts.length := by omega
      by_cases hwk : ws.length ≤ k
      · go_wp2_with fail
        refine (lives_any _).mono ?_
        rintro e w9 ⟨rfl, f9⟩
        go_wp2_with fail
        go_ret
        exact ⟨rfl, (H7.out.frame.trans f9 (by simp [Ext])).nil⟩
      · have hwl : ws.length ≤ 40 := by omega
        have HS := Lib.hid (fun j => sumUp_le ws k j H1.out.small (fun x hx => by have := H5.out x hx; omega) hwl)
        have HQ := Lib.hid (fun j (hj : j < ws.length) => (by
          have hh := H8.out
          obtain ⟨g, off, cur, ha, _, _, hc, hf⟩ := hh.at (by have := hh.2.2.1; omega)
          exact ⟨g, off, ws[j], ha, List.getElem?_eq_getElem hj, by rw [hc j (by omega), ints_get, List.getElem?_eq_getElem hj]; rfl, H1.out.small _ (List.getElem_mem hj), by have := H5.out _ (List.getElem_mem hj); omega⟩ :
            ∃ g off x, b = some ⟨g, off, none⟩ ∧ ws[j]? = some x ∧ wr.cell? ⟨g, off + j, none⟩ = some (.int .i64 x) ∧ 0 ≤ x ∧ x ≤ 40))
        go_wp2_with fail
        go_loopw [11, 12] (fun s i w2 => ∃ j : Nat, j ≤ k ∧ i = .int .i64 ((ws.length : Int) - (k : Int) + (j : Int)) ∧ s = .int .i64 (sumUp ws k j) ∧ w2 = wr) (fun _ i _ => ws.length - (intOf i).toNat)
        case atStart => exact ⟨0, Nat.zero_le _, by go_num, by simp [sumUp, sumI], rfl⟩
        case round =>
          obtain ⟨j, hj, rfl, rfl, rfl⟩ := hrel
          have hs := HS.out j
          obtain ⟨s1, s2⟩ := hs
          obtain ⟨S, hS⟩ : ∃ S, S = sumUp ws k j := ⟨_, rfl⟩
          by_cases hjk : j < k
          · obtain ⟨g, off, x, rfl, hx, cx, y1, y2⟩ := HQ.out (ws.length - k + j) (by omega)
            have HX := Lib.hid hx
            have hst := sumUp_step ws k j x hx
            have HST := Lib.hid hst
            clear hx hst
            rw [← hS] at s1 s2 ⊢
            have HSS := Lib.hid hS
            clear hS
            go_wp2_with fail
            go_roundw
            case rel => exact ⟨j + 1, by omega, by go_num, by rw [HST.out, HSS.out], trivial⟩
            case measure => simp [intOf]; omega
          · rw [← hS] at s1 s2 ⊢
            have hfin : S = sumI (ws.drop (ws.length - k)) := by
              rw [hS, sumUp, List.take_of_length_le (by simp; omega)]
            have HFN := Lib.hid hfin
            clear hfin hS
            go_wp2_with fail
            refine (log_logged H7.out H1.out H2.out (by omega) HFN.out).mono ?_
            rintro e w8 ⟨rfl, f8⟩
            go_wp2_with fail
            refine (lives_any _).mono ?_
            rintro e w9 ⟨rfl, f9⟩
            go_wp2_with fail
            go_ret
            exact ⟨rfl, (f8.trans f9 (by simp [Ext])).nil⟩
end Go.Proofs.Ytchigfofcdildaa
