/- RinglogAgain returns true. -/
import Derived.Test.YtchigfofcdildaaRest2
namespace Go.Proofs.Ytchigfofcdildaa
open Go.RowKit

/-- the cells, and the states at the pushes so far -/
abbrev Pl : Type := List Int × List (List Int)
def plStep (s : Pl) (x : Int × Int × Int) : Pl :=
  if x.1 < 2 then ((Sp.set { keep := 13, cells := s.1, L := [] } x.2.1 x.2.2).cells, s.2) else if s.2.length < 12 then (s.1, s.2 ++ [s.1]) else s
def play (s : Pl) (l : List (Int × Int × Int)) : Pl := l.foldl plStep s
theorem play_snoc (s : Pl) (l : List (Int × Int × Int)) (i : Nat) (h : i < l.length) : play s (l.take (i + 1)) = plStep (play s (l.take i)) l[i] := by
  rw [List.take_succ_eq_append_getElem h, play, List.foldl_append]; rfl

theorem set_cells (k : Int) (c : List Int) (L L' : List (Int × List Int)) (i v : Int) : (Sp.set { keep := k, cells := c, L := L } i v) = { keep := k, cells := (Sp.set { keep := 13, cells := c, L := L' } i v).cells, L := L } := by
  unfold Sp.set; split <;> rfl

structure PlOk (s : Pl) (c0 c1 : List Int) : Prop where
  len : s.1.length = 6
  two : 2 ≤ s.2.length
  le : s.2.length ≤ 12
  head : s.2.take 2 = [c0, c1]

theorem PlOk.step {s : Pl} {c0 c1 : List Int} (h : PlOk s c0 c1) (x : Int × Int × Int) : PlOk (plStep s x) c0 c1 := by
  obtain ⟨h1, h2, h3, h4⟩ := h
  unfold plStep
  split
  · exact ⟨by simp only; rw [(set6 _ _ _).2.2]; exact h1, h2, h3, h4⟩
  · split
    · exact ⟨h1, by simp only [List.length_append, List.length_singleton]; omega, by simp only [List.length_append, List.length_singleton]; omega, by simp only; rw [List.take_append_of_le_length h2]; exact h4⟩
    · exact ⟨h1, h2, h3, h4⟩

theorem PlOk.play {s : Pl} {c0 c1 : List Int} (h : PlOk s c0 c1) (l : List (Int × Int × Int)) : PlOk (play s l) c0 c1 := by
  induction l generalizing s with
  | nil => exact h
  | cons x l ih => exact ih (h.step x)

theorem push13 (ts : List (List Int)) (cur : List Int) : Sp.push { keep := 13, cells := cur, L := Lk 13 ts } ts.length = (0, { keep := 13, cells := cur, L := Lk 13 (ts ++ [cur]) }) := Lk_push 13 ts cur (by omega)

theorem newest13 (ts : List (List Int)) (cur : List Int) (h : 1 ≤ ts.length) : Sp.newest { keep := 13, cells := cur, L := Lk 13 ts } = ts.length - 1 := by
  have hl := Lk_len 13 ts
  rw [(Lk_row 13 ts).newest (by omega), hl]; omega

theorem back13 (ts : List (List Int)) (cur c0 c1 : List Int) (h1 : 2 ≤ ts.length) (h2 : ts.length ≤ 12) (h3 : ts.take 2 = [c0, c1]) :
    Sp.rewind { keep := 13, cells := cur, L := Lk 13 ts } 1 = (0, { keep := 13, cells := c1, L := Lk 13 [c0, c1] }) := by
  have hl := Lk_len 13 ts
  have hr := Lk_row 13 ts
  have hz : ts.length - 13 = 0 := by omega
  rw [hz] at hr
  have := hr.rewind (keep := 13) (cur := cur) 1 (by omega)
  have e : (((0 : Nat) : Int) + ((1 : Nat) : Int)) = 1 := rfl
  rw [e] at this
  rw [this]
  have hc : ((Lk 13 ts)[1]'(by omega)).2 = c1 := by
    rw [Lk_get, hz]
    have : (ts.take 2).getD 1 [] = c1 := by rw [h3]; rfl
    rw [← this]
    simp [List.getD_eq_getElem?_getD, List.getElem?_take]
  rw [hc]
  congr 2
  unfold Lk
  rw [hz]
  have hd : ts.drop 0 = ts := rfl
  simp only [List.length_cons, List.length_nil, List.drop_zero]
  obtain ⟨a, b, rest, rfl⟩ : ∃ a b rest, ts = a :: b :: rest := by
    match ts, h1 with
    | a :: b :: rest, _ => exact ⟨a, b, rest, rfl⟩
  simp at h3
  obtain ⟨rfl, rfl⟩ := h3
  simp [List.range_succ_eq_map]

def twoZ (aa : Option Addr) (ca : Nat) (acts : List (Int × Int × Int)) (bb : Option Addr) (cb : Nat) (later : List (Int × Int × Int)) : World → Prop := fun w => actsZ aa ca acts w ∧ actsZ bb cb later w
theorem twoZ_still (aa : Option Addr) (ca : Nat) (acts : List (Int × Int × Int)) (bb : Option Addr) (cb : Nat) (later : List (Int × Int × Int)) : Still (twoZ aa ca acts bb cb later) (blk aa ++ blk bb) :=
  fun w w' h hk => ⟨actsZ_still _ _ _ w w' h.1 (hk.sub fun k hm => by simp [hm]), actsZ_still _ _ _ w w' h.2 (hk.sub fun k hm => by simp [hm])⟩

theorem acts_cell {w : World} {aa : Option Addr} {ca : Nat} {acts : List (Int × Int × Int)} (h : actsZ aa ca acts w) (hok : ∀ x ∈ acts, actOk x) {i : Nat} (hin : i < acts.length) :
    ∃ g off d a v, aa = some ⟨g, off, none⟩ ∧ acts[i] = (d, a, v) ∧ actOk (d, a, v) ∧ w.cell? ⟨g, off + i * 3, none⟩ = some (.int .i64 d) ∧ w.cell? ⟨g, off + i * 3 + 1, none⟩ = some (.int .i64 a) ∧ w.cell? ⟨g, off + i * 3 + 2, none⟩ = some (.int .i64 v) := by
  have hh2 : Seg w 40 3 aa acts.length ca (trips acts) := h
  obtain ⟨g, off, cur, ha, _⟩ := hh2.at (by have := hh2.2.2.1; omega)
  subst ha
  obtain ⟨c0, c1, c2⟩ := hh2.trip hin
  exact ⟨g, off, _, _, _, rfl, rfl, hok _ (List.getElem_mem hin), c0, c1, c2⟩

theorem drewFr {w w' : World} (h : ∃ k, w' = w.drewN k) : Fr [] w w' := by obtain ⟨k, rfl⟩ := h; exact (Fr.refl [] _).drewN k

abbrev Sa (s : Pl) : Sp := { keep := 13, cells := s.1, L := Lk 13 s.2 }

def AgOut (Z : World → Prop) (G0 : List Nat) (W : World) (p r : Nat) (s0 : Pl) (fin : List Int) (k : Nat) (v : Value) (w : World) : Prop :=
  ∃ sb c tabs s, v = .slice sb tabs.length c ∧ tabs.length = k ∧ (∀ x ∈ tabs, x.2 = fin) ∧ (k < 2 → s = s0) ∧ TabSt Z G0 W p r (Sa s) (50 + 50 * k) (50 + 50 * k) sb c tabs w

set_option maxRecDepth 100000 in
set_option maxHeartbeats 8000000 in
theorem again_walk (ao bo : Option Addr) (cap capb : Nat) (l m : List Int) (w : World) (hrd : Rd w 1 ao l.length (ints l)) (hb : ∀ x ∈ l, bounded x) (hrm : Rd w 1 bo m.length (ints m)) (hbm : ∀ x ∈ m, bounded x) :
    Calls Try.prog 8 #[.slice ao l.length cap, .slice bo m.length capb] w fun e w' => e = .returned (.bool true) ∧ Below w.heap.size w w' := by
  have HRD := Lib.hid hrd
  have HB := Lib.hid hb
  have HRM := Lib.hid hrm
  have HBM := Lib.hid hbm
  obtain ⟨i0, hi0, hz0, hz1, hz2⟩ := info_parts infoRow
  clear hrd hb hrm hbm
  go_enter Try.func8, Try.ntmps8
  go_wp2_with fail
  refine (made_any w 13 (by omega) (by omega)).mono ?_
  rintro e w2 ⟨p, r, rfl, o2⟩
  go_wp2_with fail
  refine (acts_any w2 ao cap l (HRD.out.fr o2.frame (by simp)) HB.out).mono ?_
  rintro e w3 ⟨aa, ca, acts, rfl, hal, hok, hsa, hfa, hna⟩
  have ho2 := Lib.hid o2
  clear o2
  go_wp2_with fail
  refine (acts_any w3 bo capb m (HRM.out.fr (ho2.out.frame.trans hfa (by simp [Ext])) (by simp)) HBM.out).mono ?_
  rintro e w4 ⟨bb, cb, later, rfl, hbl, hbok, hsb, hfb, hnb⟩
  have o3 : TabSt (twoZ aa ca acts bb cb later) (blk aa ++ blk bb) w p r { keep := 13, cells := cells6, L := [] } 0 0 none 0 [] w4 := by
    obtain ⟨F, ho, hf, he⟩ := ho2.out
    have hsz := hf.size
    have hsz2 := hfa.size
    have hf3 := hfa.trans hfb (by simp [Ext])
    have ho4 := IsObj.mono (ho.fr hf3 (by simp)) (n' := 0) (T' := 0) (by omega) (by omega)
    refine ⟨⟨F, ho4, hf.trans hf3 (by simp [Ext]), he, fun x hx hg => ?_, fun x hx => ?_⟩, by simpa [tabVals] using Seg.nil _ _ _, by simp [Tabs], ⟨hsa.fr hfb (by simp), hsb⟩, by simp [blk]⟩
    · have a := ho.lt x hx
      have hg' : x ∈ blk aa ∨ x ∈ blk bb := by simpa [blk, heads] using hg
      rcases hg' with hg' | hg'
      · have b := hna x hg'; omega
      · have b := hnb x hg'; omega
    · have hx' : x ∈ blk aa ∨ x ∈ blk bb := by simpa [blk, heads] using hx
      rcases hx' with hx' | hx'
      · have a := hna x hx'
        have b := hsa.lt x hx'
        exact ⟨by omega, Nat.lt_of_lt_of_le b hfb.size⟩
      · have a := hnb x hx'
        have b := hsb.lt x hx'
        exact ⟨by omega, b⟩
  have OK := Lib.hid hok
  have BOK := Lib.hid hbok
  have O3 := Lib.hid o3
  have HZ := Lib.hid (twoZ_still aa ca acts bb cb later)
  have HP0 := Lib.hid (push13 [] cells6 : Sp.push { keep := 13, cells := cells6, L := [] } (0 : Int) = (0, { keep := 13, cells := cells6, L := Lk 13 [cells6] }))
  clear hok hbok hsa hfa hna hsb hfb hnb ho2 o3 HRD HB HRM HBM
  go_wp2_with fail
  refine (tab_push HZ.out O3.out 0 (by omega) (by omega) (fun _ => by omega) HP0.out).mono ?_
  rintro e w5 ⟨rfl, hm⟩
  have O4 := Lib.hid (hm.mono (n2 := ((0 : Nat) : Int) + 1) (T2 := ((0 : Nat) : Int) + 1) (by omega) (by omega))
  clear hm O3 HP0
  go_wp2_with fail
  go_loopw [9] (fun i wr => ∃ (i' : Nat) (cur : List Int), i' ≤ acts.length ∧ i = .int .i64 i' ∧ cur.length = 6 ∧ TabSt (twoZ aa ca acts bb cb later) (blk aa ++ blk bb) w p r { keep := 13, cells := cur, L := Lk 13 [cells6] } ((i' : Int) + 1) ((i' : Int) + 1) none 0 [] wr) (fun i _ => acts.length - (intOf i).toNat)
  case atStart => exact ⟨0, cells6, Nat.zero_le _, rfl, rfl, O4.out⟩
  case round =>
    clear O4
    obtain ⟨i, cur, hi, rfl, h4, h6⟩ := hrel
    have H4 := Lib.hid h4
    have H6 := Lib.hid h6
    clear h4 h6
    by_cases hin : i < acts.length
    · obtain ⟨g, off, d, a, v, rfl, hxe, hx, c0, c1, c2⟩ := acts_cell H6.out.2.2.2.1.1 OK.out hin
      obtain ⟨x1, x2, x3, x4, x5, x6, x7⟩ := hx
      simp only at x1 x2 x3 x4 x5 x6 x7
      clear hxe
      by_cases hd : d < 2
      · clear x5
        go_wp2_with fail
        refine wp_still_tail 11 (by kernel_rfl) (by kernel_rfl) ?_
        simp only [List.take_succ_cons, List.take_zero, List.drop_succ_cons, List.drop_zero]
        repeat still_step
        refine wpStill_nil ?_
        have H6' := Lib.hid (H6.out.fr HZ.out (Fr.refl [] wr).drew)
        go_wp2_with fail
        refine (tab_set HZ.out H6'.out a v (by omega) (set_cells 13 cur _ [] a v)).mono ?_
        rintro e w5 ⟨rfl, hm⟩
        have HM := Lib.hid hm
        clear hm c0 c1 c2 H6'
        go_wp2_with fail
        go_roundw
        case rel => exact ⟨i + 1, _, by omega, by go_num, by rw [(set6 _ _ _).2.2]; exact H4.out, HM.out.mono (by omega) (by omega)⟩
        case measure => simp [intOf]; omega
      · clear x5 c1 c2
        go_wp2_with fail
        go_roundw
        case rel => exact ⟨i + 1, cur, by omega, by go_num, H4.out, H6.out.mono (by omega) (by omega)⟩
        case measure => simp [intOf]; omega
    · have HP1 := Lib.hid (push13 [cells6] cur : Sp.push { keep := 13, cells := cur, L := Lk 13 [cells6] } (1 : Int) = (0, { keep := 13, cells := cur, L := Lk 13 [cells6, cur] }))
      go_wp2_with fail
      refine (tab_push HZ.out H6.out 1 (by omega) (by omega) (fun _ => by omega) HP1.out).mono ?_
      rintro e w6 ⟨rfl, hm⟩
      have HOK : PlOk (cur, [cells6, cur]) cells6 cur := ⟨H4.out, by simp, by simp, rfl⟩
      have O5 := Lib.hid (⟨none, 0, [], _, rfl, rfl, by simp, fun _ => rfl, hm.mono (by omega) (by omega)⟩ : AgOut (twoZ aa ca acts bb cb later) (blk aa ++ blk bb) w p r (cur, [cells6, cur]) (play (cur, [cells6, cur]) later).1 0 (.slice none 0 0) w6)
      clear hm HP1 H6
      have HPL := Lib.hid HOK
      clear HOK
      go_wp2_with fail
      go_loopw [10, 11] (fun v n wr => ∃ k : Nat, k ≤ 2 ∧ n = .int .i64 k ∧ AgOut (twoZ aa ca acts bb cb later) (blk aa ++ blk bb) w p r (cur, [cells6, cur]) (play (cur, [cells6, cur]) later).1 k v wr) (fun _ n _ => 2 - (intOf n).toNat)
      case atStart => exact ⟨0, by omega, rfl, O5.out⟩
      case round =>
        clear O5
        obtain ⟨k, hk2, rfl, sb, c, tabs, s, rfl, ht, hfin, hs0, h6⟩ := hrel
        have hte : tabs.length ≤ 2 := by omega
        have HT := Lib.hid ht
        have HFIN := Lib.hid hfin
        have hXl : (play (cur, [cells6, cur]) later).1.length = 6 := (HPL.out.play later).len
        by_cases hk : k < 2
        · obtain rfl := hs0 hk
          have H6 := Lib.hid h6
          have HXL := Lib.hid hXl
          clear ht hfin hs0 h6 hXl
          obtain ⟨wo, rfl⟩ : ∃ wo : World, wo = wr := ⟨_, rfl⟩
          have hkd : decide ((k : Int) < 2) = true := decide_eq_true (by omega)
          go_wp2_with fail
          go_loopw [12, 13] (fun pv iv wi => ∃ (i pu : Nat), i ≤ later.length ∧ iv = .int .i64 i ∧ pv = .int .i64 pu ∧ (play (cur, [cells6, cur]) (later.take i)).2.length = pu + 2 ∧ TabSt (twoZ aa ca acts bb cb later) (blk aa ++ blk bb) w p r (Sa (play (cur, [cells6, cur]) (later.take i))) (50 + 50 * k + i) (50 + 50 * k + i) sb c tabs wi) (fun _ i _ => later.length - (intOf i).toNat)
          case atStart => exact ⟨0, 0, Nat.zero_le _, rfl, rfl, rfl, H6.out.mono (by omega) (by omega)⟩
          case round =>
            clear H6
            obtain ⟨i, pu, hi, rfl, rfl, hpu, hm⟩ := hrel
            obtain ⟨s, hs⟩ : ∃ s, s = play (cur, [cells6, cur]) (later.take i) := ⟨_, rfl⟩
            rw [← hs] at hpu hm
            have hok : PlOk s cells6 cur := by rw [hs]; exact HPL.out.play _
            have hpu10 : pu ≤ 10 := by have := hok.le; omega
            have HPU := Lib.hid hpu
            have HS0 := Lib.hid hs
            have HM := Lib.hid hm
            have HOK := Lib.hid hok
            clear hpu hs hm hok
            by_cases hin : i < later.length
            · obtain ⟨g, off, d, a, v, rfl, hxe, hx, c0, c1, c2⟩ := acts_cell HM.out.2.2.2.1.2 BOK.out hin
              obtain ⟨x1, x2, x3, x4, x5, x6, x7⟩ := hx
              simp only at x1 x2 x3 x4 x5 x6 x7
              have HXE := Lib.hid hxe
              have HSN := Lib.hid ((play_snoc (cur, [cells6, cur]) later i hin).trans (by rw [HXE.out, ← HS0.out]) : play (cur, [cells6, cur]) (later.take (i + 1)) = plStep s (d, a, v))
              clear hxe
              by_cases hd : d < 2
              · clear x5
                have HST := Lib.hid (by rw [set_cells 13 s.1 (Lk 13 s.2) [] a v, plStep, if_pos hd] : Sp.set (Sa s) a v = Sa (plStep s (d, a, v)))
                have HL2 := Lib.hid (by rw [plStep, if_pos hd]; exact HPU.out : (plStep s (d, a, v)).2.length = pu + 2)
                go_wp2_with fail
                refine wp_still_tail 11 (by kernel_rfl) (by kernel_rfl) ?_
                simp only [List.take_succ_cons, List.take_zero, List.drop_succ_cons, List.drop_zero]
                repeat still_step
                refine wpStill_nil ?_
                have H6' := Lib.hid (HM.out.fr HZ.out (Fr.refl [] wr).drew)
                go_wp2_with fail
                refine (tab_set HZ.out H6'.out a v (by omega) HST.out).mono ?_
                rintro e w5 ⟨rfl, hm⟩
                have HM2 := Lib.hid hm
                clear hm c0 c1 c2 H6'
                go_wp2_with fail
                go_roundw
                case rel => exact ⟨i + 1, pu, by omega, by go_num, rfl, by rw [HSN.out]; exact HL2.out, by rw [HSN.out]; exact HM2.out.mono (by omega) (by omega)⟩
                case measure => simp [intOf]; omega
              · clear x5 c1 c2
                by_cases hp : pu < 10
                · have HST := Lib.hid (by
                    have := push13 s.2 s.1
                    rw [HPU.out] at this
                    rw [plStep, if_neg hd, if_pos (by rw [HPU.out]; omega), ← this]
                    congr 1; omega : Sp.push (Sa s) (1 + ((pu : Int) + 1)) = (0, Sa (plStep s (d, a, v))))
                  have HL2 := Lib.hid (by rw [plStep, if_neg hd, if_pos (by rw [HPU.out]; omega), List.length_append, HPU.out, List.length_singleton] : (plStep s (d, a, v)).2.length = pu + 1 + 2)
                  go_wp2_with fail
                  refine (tab_push HZ.out HM.out (1 + ((pu : Int) + 1)) (by omega) (by omega) (fun _ => by omega) HST.out).mono ?_
                  rintro e w5 ⟨rfl, hm⟩
                  have HM2 := Lib.hid hm
                  clear hm
                  go_wp2_with fail
                  go_roundw
                  case rel => exact ⟨i + 1, pu + 1, by omega, by go_num, by go_num, by rw [HSN.out]; exact HL2.out, by rw [HSN.out]; exact HM2.out.mono (by omega) (by omega)⟩
                  case measure => simp [intOf]; omega
                · have HST := Lib.hid (by rw [plStep, if_neg hd, if_neg (by rw [HPU.out]; omega)] : plStep s (d, a, v) = s)
                  go_wp2_with fail
                  go_roundw
                  case rel => exact ⟨i + 1, pu, by omega, by go_num, rfl, by rw [HSN.out, HST.out]; exact HPU.out, by rw [HSN.out, HST.out]; exact HM.out.mono (by omega) (by omega)⟩
                  case measure => simp [intOf]; omega
            · have HFE := Lib.hid (by rw [HS0.out, List.take_of_length_le (by omega)] : s = play (cur, [cells6, cur]) later)
              have HNW := Lib.hid (by rw [newest13 _ _ (by rw [HPU.out]; omega), HPU.out]; omega : Sp.newest (Sa s) = 1 + (pu : Int))
              go_wp2_with fail
              refine (tab_newest HZ.out HM.out HNW.out).mono ?_
              rintro e w6 ⟨rfl, hm⟩
              have HM2 := Lib.hid hm
              clear hm
              obtain ⟨X, hX⟩ : ∃ X, X = s.1 := ⟨_, rfl⟩
              have x6 : X.length ≤ 1099511627776 := by rw [hX, HOK.out.len]; omega
              have HX := Lib.hid hX
              have HXF := Lib.hid (hX.trans (by rw [HFE.out]) : X = (play (cur, [cells6, cur]) later).1)
              clear hX
              go_wp2_with fail
              refine (tab_cells HZ.out HM2.out (l := X) HX.out.symm x6).mono ?_
              rintro e w7 ⟨rfl, hm⟩
              have HM3 := Lib.hid hm
              have hs5 := hm.2.1
              have HS := Lib.hid fun (o : Obj) => hs5.alloc o
              have HF := Lib.hid fun (o : Obj) => (Fr.refl [] w7).alloc o
              have HN := Lib.hid (fun (x : Value) j u hu => by
                rw [Addr.add_mid, Nat.zero_add, World.cell?_alloc_new]; simpa using hu : ∀ x j u, [x][j]? = some u → (w7.alloc (.cells #[x] 36)).cell? ((⟨w7.heap.size, 0, none⟩ : Addr).add j) = some u)
              clear hm hs5
              have hb0 : ((k : Int) == 0) = decide (k = 0) := by rw [Bool.eq_iff_iff]; simp
              by_cases hk0 : k = 0
              · have hkb : ((k : Int) == 0) = true := by rw [hb0]; simp [hk0]
                have hkn : k ≤ 0 := by omega
                clear hb0 hk0
                go_wp2_with (at_builtin; refine wpList_append_seg rfl _ _ 52 rfl 36 i0 _ 1 24 Try.underlying52 hi0 hz0 hz1 hz2 rfl (by decide) sb tabs.length c (tabVals tabs) rfl (HS.out _) ⟨w7.heap.size, 0, none⟩ 1 1 [_] rfl rfl (HN.out _) (by simp [Value.oneCell']) (by unfold maxLen; omega) (by omega) ?_; intro ao' cap' w8 hs8 hfr8 hext8)
                have H7 := Lib.hid (HM3.out.add HZ.out (HF.out _) hs8 hfr8 hext8)
                have HBK := Lib.hid (back13 s.2 s.1 cells6 cur HOK.out.two HOK.out.le HOK.out.head)
                clear hs8 hfr8 hext8
                refine (tab_rewind HZ.out H7.out 1 (by omega) HBK.out).mono ?_
                rintro e w9 ⟨rfl, hm⟩
                have H8 := Lib.hid hm
                clear hm
                go_wp2_with fail
                go_roundw
                case rel =>
                  exact ⟨k + 1, by omega, by go_num, ao', cap', _, (cur, [cells6, cur]), by simp, by simp [HT.out], fun x hx => by
                    rcases List.mem_append.1 hx with hx | hx
                    · exact HFIN.out x hx
                    · simp only [List.mem_singleton] at hx; subst hx; exact HXF.out, fun _ => rfl, H8.out.mono (by omega) (by omega)⟩
                case measure => simp [intOf]; omega
              · have hkb : ((k : Int) == 0) = false := by rw [hb0]; simp [hk0]
                have hkn : 1 ≤ k := by omega
                clear hb0 hk0
                go_wp2_with (at_builtin; refine wpList_append_seg rfl _ _ 52 rfl 36 i0 _ 1 24 Try.underlying52 hi0 hz0 hz1 hz2 rfl (by decide) sb tabs.length c (tabVals tabs) rfl (HS.out _) ⟨w7.heap.size, 0, none⟩ 1 1 [_] rfl rfl (HN.out _) (by simp [Value.oneCell']) (by unfold maxLen; omega) (by omega) ?_; intro ao' cap' w8 hs8 hfr8 hext8)
                have H7 := Lib.hid (HM3.out.add HZ.out (HF.out _) hs8 hfr8 hext8)
                clear hs8 hfr8 hext8
                go_roundw
                case rel =>
                  exact ⟨k + 1, by omega, by go_num, ao', cap', _, s, by simp, by simp [HT.out], fun x hx => by
                    rcases List.mem_append.1 hx with hx | hx
                    · exact HFIN.out x hx
                    · simp only [List.mem_singleton] at hx; subst hx; exact HXF.out, fun h => by omega, H7.out.mono (by omega) (by omega)⟩
                case measure => simp [intOf]; omega
        · obtain ⟨X, hX⟩ : ∃ X, X = (play (cur, [cells6, cur]) later).1 := ⟨_, rfl⟩
          rw [← hX] at hXl hfin
          obtain ⟨b0, b1, rfl⟩ : ∃ b0 b1, tabs = [(b0, X), (b1, X)] := by
            match tabs, ht, hfin with
            | [x, y], _, hf =>
              have e1 := hf x (by simp)
              have e2 := hf y (by simp)
              obtain ⟨x1, x2⟩ := x
              obtain ⟨y1, y2⟩ := y
              simp only at e1 e2
              subst e1; subst e2
              exact ⟨x1, y1, rfl⟩
            | [], h, _ => simp at h; omega
            | [_], h, _ => simp at h; omega
            | _ :: _ :: _ :: _, h, _ => simp at h; omega
          have x2 : X.length ≤ maxLen := by rw [hXl]; unfold maxLen; omega
          obtain ⟨sg, so, rfl⟩ := h6.some (by simp)
          have H6 := Lib.hid (h6.fr HZ.out (Fr.refl [] wr).drew)
          clear ht hfin hs0 h6 hXl hX HT HFIN
          have c0 := H6.out.cell rfl (k := 0) (by simp)
          have c1 := H6.out.cell rfl (k := 1) (by simp)
          simp only [List.getElem_cons_zero, List.getElem_cons_succ, Nat.add_zero] at c0 c1
          have HR0 := Lib.hid (H6.out.rowRd (k := 0) (by simp) x2)
          have HR1 := Lib.hid (H6.out.rowRd (k := 1) (by simp) x2)
          go_wp2_with fail
          go_region_held3 (fun w' => w'.cell? ⟨sg, so, none⟩ = some (.slice (some ⟨b0, 0, none⟩) X.length X.length) ∧ w'.cell? ⟨sg, so + 1, none⟩ = some (.slice (some ⟨b1, 0, none⟩) X.length X.length)) (first | exact ⟨c0, c1⟩ | exact ⟨d0, d1⟩ | exact ⟨f0, f1⟩)
            (first
            | (go_at_call 26; refine (same_yes _ _ _ X.length X.length X HR0.out HR1.out).mono ?_; rintro e wA ⟨rfl, hkA⟩; have hA := H6.out.fr HZ.out (drewFr hkA); clear hkA; have d0 := hA.cell rfl (k := 0) (by simp); have d1 := hA.cell rfl (k := 1) (by simp); simp only [List.getElem_cons_zero, List.getElem_cons_succ, Nat.add_zero] at d0 d1; have HA := Lib.hid hA; clear hA)
            | (go_at_call 19; refine (lives_any _).mono ?_; rintro e wB ⟨rfl, hB⟩; have HBf := HA.out.fr HZ.out hB; have f0 := HBf.cell rfl (k := 0) (by simp); have f1 := HBf.cell rfl (k := 1) (by simp); simp only [List.getElem_cons_zero, List.getElem_cons_succ, Nat.add_zero] at f0 f1; have HB2 := Lib.hid HBf; clear hB HBf))
          all_goals
            go_wp2_with fail
            go_ret
            exact ⟨rfl, HB2.out.frame.nil⟩
end Go.Proofs.Ytchigfofcdildaa
