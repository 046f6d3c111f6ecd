/- Package broadphase: Pairs. -/
import Derived.Test.YtoplpmkcfgadlaaBroadS
import Derived.Test.YtoplpmkcfgadlaaMapV
namespace Go.Proofs.Ytoplpmkcfgadlaa
open Go.RowKit

def bxV (b : BX) : Value := .agg #[.int .i64 b.x0, .int .i64 b.y0, .int .i64 b.x1, .int .i64 b.y1]
def kvB (bs : List BX) (j : Nat) : Int × Value := ((j : Int), bxV (bs[j]!))
theorem kv_filter (bs : List BX) (i : Nat) (l : List Nat) : (l.map (kvB bs)).filter (fun e => e.1 != (i : Int)) = (l.filter fun j => j != i).map (kvB bs) := by
  rw [List.filter_map]
  congr 1
  apply List.filter_congr
  intro j _
  show (((j : Int) != (i : Int)) : Bool) = (j != i)
  rw [Bool.eq_iff_iff, bne_iff_ne, bne_iff_ne]; omega
theorem perm_take {l : List Nat} (hn : l.Nodup) {j : Nat} (hj : j ∈ l) : l.Perm (j :: l.filter fun x => x != j) := by
  rw [← hn.erase_eq_filter j]
  exact List.perm_cons_erase hj
/-- what the outer loop keeps -/
def PInv (w : World) (bs : List BX) (es : List Nat) (mb eb ec : Nat) (pv iv : Value) (wr : World) : Prop := ∃ (k : Nat) (act : List Nat) (prs : List (Nat × Nat)) (po : Option Addr) (pc : Nat),
  (pv = .slice po prs.length pc ∧ iv = .int .i64 (k : Int)) ∧ k ≤ es.length ∧ Sweep bs (es.take k) act prs ∧ IsV wr mb (act.map (kvB bs)) ∧ Seg wr 39 2 po prs.length pc (prs.flatMap encP) ∧ Seg wr 3 1 (some ⟨eb, 0, none⟩) es.length ec (ints (es.map nI)) ∧ (∀ q ∈ blk po, w.heap.size ≤ q) ∧ Fr [] w wr
/-- what the inner loop keeps -/
def QInv (w : World) (bs : List BX) (es act : List Nat) (prs : List (Nat × Nat)) (i mb eb ec bx r : Nat) (pv : Value) (wr : World) : Prop := ∃ (V M : List Nat) (po : Option Addr) (pc : Nat),
  pv = .slice po (prs ++ newP bs i V).length pc ∧ (V ++ M).Perm act ∧ IsR wr mb r (act.map (kvB bs)) (M.map (kvB bs)) ∧ wr.heap[bx]? = some (.cells (BX.cl (bs[i]!)).toArray 23 (0, 0)) ∧ Seg wr 39 2 po (prs ++ newP bs i V).length pc ((prs ++ newP bs i V).flatMap encP) ∧ Seg wr 3 1 (some ⟨eb, 0, none⟩) es.length ec (ints (es.map nI)) ∧ (∀ q ∈ blk po, w.heap.size ≤ q) ∧ Fr [] w wr ∧ r ∉ blk po
theorem Seg.ne_type {W : World} {e T : TypeId} {size : Nat} {ao : Option Addr} {n cap : Nat} {xs : List Value} {k : Nat} {c : Array Value} {f : Nat × Nat} (h : Seg W e size ao n cap xs) (hk : W.heap[k]? = some (.cells c T f)) (hne : e ≠ T) : k ∉ blk ao := by
  intro hm
  rcases h.2.2.2 with ⟨rfl, _⟩ | ⟨g, off, cur, rfl, hg, _⟩
  · simp [blk] at hm
  · simp [blk] at hm; subst hm; rw [hk] at hg; cases hg; exact hne rfl
theorem Seg.disj {w : World} {e e' : TypeId} {s s' : Nat} {ao bo : Option Addr} {n c n' c' : Nat} {xs ys : List Value} (h : Seg w e s ao n c xs) (k : Seg w e' s' bo n' c' ys) (hne : e ≠ e') : ∀ q ∈ blk ao, q ∉ blk bo := by
  intro q hq hb
  rcases k.2.2.2 with ⟨rfl, _⟩ | ⟨g, off, cur, rfl, hg, _⟩
  · simp [blk] at hb
  · simp [blk] at hb; subst hb
    exact h.ne_type hg hne hq
theorem new_arr (w : World) (c : Array Value) (t : TypeId) : ∀ j u, c.toList[j]? = some u → (w.alloc (.cells c t)).cell? ((⟨w.heap.size, 0, none⟩ : Addr).add j) = some u := by
  intro j u hj
  rw [Addr.add_mid, Nat.zero_add, cell_blk (alloc_new _ _)]
  simpa using hj
theorem new_arr1 (w : World) (o : Obj) (c : Array Value) (t : TypeId) : ∀ j u, c.toList[j]? = some u → ((w.alloc o).alloc (.cells c t)).cell? ((⟨w.heap.size + 1, 0, none⟩ : Addr).add j) = some u := by
  have h := new_arr (w.alloc o) c t
  rwa [show (w.alloc o).heap.size = w.heap.size + 1 by simp] at h
def PairsTo (w : World) (bs : List BX) (e : Ending) (w' : World) : Prop := ∃ po pc, e = .returned (.slice po (pairsB bs).length pc) ∧ Seg w' 39 2 po (pairsB bs).length pc ((pairsB bs).flatMap encP) ∧ (∀ q ∈ blk po, w.heap.size ≤ q) ∧ Fr [] w w'
theorem map_ne_seg {w : World} {mb : Nat} {L : List (Int × Value)} {e : TypeId} {sz n c : Nat} {ao : Option Addr} {xs : List Value} (h : IsV w mb L) (hs : Seg w e sz ao n c xs) : mb ∉ blk ao := by
  intro hb
  obtain ⟨es, clock, hm⟩ := h.isMap
  rcases hs.2.2.2 with ⟨hn, _⟩ | ⟨g, off, cur, ha, hg, _⟩
  · rw [hn] at hb; simp [blk] at hb
  · rw [ha] at hb; simp [blk] at hb; rw [hb, hg] at hm; cases hm

set_option maxRecDepth 100000 in
set_option maxHeartbeats 8000000 in
theorem pairs_any (w : World) (bo : Option Addr) (bc : Nat) (bs : List BX) (hrd : Rd w 4 bo bs.length (bs.flatMap BX.cl)) (hlt : ∀ k ∈ blk bo, k < w.heap.size) (hl : bs.length ≤ 100) (hok : ∀ b ∈ bs, b.ok) :
    Calls Try.prog 16 #[.slice bo bs.length bc] w (PairsTo w bs) := by
  obtain ⟨ip, hip, hp0, hp1, hp2⟩ := info_parts infoPair
  have hmm := @run_makeMap Try.prog
  have HRD := Lib.hid hrd
  have HLT := Lib.hid hlt
  have HOK := Lib.hid hok
  obtain ⟨mb, hmb⟩ : ∃ b, b = w.heap.size := ⟨_, rfl⟩
  obtain ⟨w1, hw1⟩ : ∃ u, u = w.alloc (.map #[] 0) := ⟨_, rfl⟩
  have HV1 := Lib.hid (by rw [hw1, hmb]; exact isV_made w : IsV w1 mb [])
  have HF1 := Lib.hid (by rw [hw1]; exact (Fr.refl [] w).alloc _ : Fr [] w w1)
  have HMB := Lib.hid hmb
  have HW1 := Lib.hid hw1
  clear hrd hlt hok hmb hw1
  go_enter Try.func16, Try.ntmps16
  go_upto_region 3 with fail
  rw [← HMB.out, ← HW1.out]
  clear hmm
  have HEN := Lib.hid (ends_any w1 bo bc bs (HRD.out.fr HF1.out (by simp)) (fun k hk => Nat.lt_of_lt_of_le (HLT.out k hk) HF1.out.size) (by omega))
  go_wp2_with fail
  refine HEN.out.mono ?_
  rintro e w2 ⟨eb, ec, es, rfl, hse, hes, hf2, heb⟩
  have HSE := Lib.hid hse
  have HES := Lib.hid hes
  have HV2 := Lib.hid (HV1.out.fr hf2 (by simp))
  have HF2 := Lib.hid (HF1.out.trans hf2 (by simp [Ext]))
  have HNE := Lib.hid (by have := HV1.out.lt; omega : mb ≠ eb)
  have HEB := Lib.hid (by have := HF1.out.size; omega : w.heap.size ≤ eb)
  have hel : es.length ≤ 200 := by have := hse.perm.length_eq; rw [List.length_range] at this; omega
  clear hse hes hf2 heb HEN HV1 HF1
  go_wp2_with fail
  go_loopw [3, 15] (fun pv iv wr => PInv w bs es mb eb ec pv iv wr) (fun _ iv _ => es.length - (intOf iv).toNat)
  case atStart => exact ⟨0, [], [], none, 0, ⟨rfl, rfl⟩, by omega, sweep_nil bs, HV2.out, Seg.nil _ _ _, HES.out, by simp [blk], HF2.out⟩
  case round =>
    clear HV2 HES HF2
    obtain ⟨k, act, prs, po, pc, ⟨rfl, rfl⟩, hk, hsw, hv, hps, hes, hpo, hf⟩ := hrel
    have HSW := Lib.hid hsw
    have HV := Lib.hid hv
    have HPS := Lib.hid hps
    have HES := Lib.hid hes
    have HPO := Lib.hid hpo
    have HF := Lib.hid hf
    have hpl := hsw.plen
    have hpl2 : prs.length ≤ 40000 := by
      have h1 : (es.take k).length ≤ 200 := by rw [List.length_take]; omega
      have := Nat.mul_le_mul h1 h1
      omega
    have HPL := Lib.hid hpl2
    clear hsw hv hps hes hpo hf hpl hpl2
    by_cases hkl : k < es.length
    · have hlt : (k : Int) < (es.length : Int) := by omega
      have wk : IntKind.i64.wrap ((k : Int) + 1) = (k : Int) + 1 := IntWalk.i64_in _ (by omega)
      obtain ⟨e, he⟩ : ∃ e, e = es[k] := ⟨_, rfl⟩
      have hspl : es.take k ++ e :: es.drop (k + 1) = es := by rw [he, ← List.drop_eq_getElem_cons hkl]; exact List.take_append_drop k es
      have htk : es.take (k + 1) = es.take k ++ [e] := by rw [he]; exact List.take_succ_eq_append_getElem hkl
      have hel2 : e < 2 * bs.length := HSE.out.lt (by rw [he]; exact List.getElem_mem hkl)
      have c0 : wr.cell? ⟨eb, k, none⟩ = some (.int .i64 (e : Int)) := by
        obtain ⟨g, off, cur, ha, -, -, hc, -⟩ := HES.out.at (by have := HES.out.2.2.1; omega)
        cases ha
        have := hc k (by omega)
        rw [Nat.zero_add] at this
        rw [this, ints_get, List.getElem?_map, List.getElem?_eq_getElem hkl, he]; rfl
      have HSP := Lib.hid (by have h := HSE.out; rw [← hspl] at h; exact h : SrtB bs (es.take k ++ e :: es.drop (k + 1)))
      have HTK := Lib.hid htk
      obtain ⟨i, hi⟩ : ∃ i, i = e / 2 := ⟨_, rfl⟩
      have hq : (e : Int) / 2 = (i : Int) := by omega
      have hib : i < bs.length := by omega
      have wi : IntKind.i64.wrap (i : Int) = (i : Int) := IntWalk.i64_in _ (by omega)
      have HUP := Lib.hid (isup_any wr e (by omega))
      clear he hspl htk
      by_cases hu : e % 2 = 1
      · rw [decide_eq_true hu] at HUP
        have hei : e = 2 * i + 1 := by omega
        rw [hei] at HSP
        have HEI := Lib.hid hei
        have hfi : MV.fits (i : Int) := by unfold MV.fits; omega
        clear hu hei hi
        go_wp2_with (first | (go_at_call 27; refine HUP.out.mono ?_; rintro r w' ⟨rfl, rfl⟩) | (at_delete; refine wpList_delete_V rfl _ _ 47 rfl 23 undM (i : Int) hfi rfl rfl HV.out ?_; intro w4 hv4 hf4; have HV4 := Lib.hid hv4; have HF4 := Lib.hid hf4; clear hv4 hf4))
        go_roundw
        case rel =>
          refine ⟨k + 1, act.filter (fun j => j != i), prs, po, pc, ⟨rfl, by go_num⟩, by omega, ?_, ?_, HPS.out.fr HF4.out (fun q hq h => ?_), HES.out.fr HF4.out (fun q hq h => ?_), HPO.out, HF.out.trans HF4.out (fun q hq => ?_)⟩
          · rw [HTK.out, HEI.out]; exact HSW.out.upper HSP.out
          · have h := HV4.out
            rw [kv_filter] at h; exact h
          · simp at h; subst h; exact map_ne_seg HV.out HPS.out hq
          · simp at h; subst h; exact map_ne_seg HV.out HES.out hq
          · simp at hq; rw [hq, HMB.out]; exact .inr (Nat.le_refl _)
        case measure => simp [intOf]; omega
      · rw [decide_eq_false hu] at HUP
        have hei : e = 2 * i := by omega
        rw [hei] at HSP
        have HEI := Lib.hid hei
        have hfi : MV.fits (i : Int) := by unfold MV.fits; omega
        clear hu hei hi
        obtain ⟨g, off, hbo, b0, b1, b2, b3⟩ := (HRD.out.fr HF.out (by simp)).box hib
        obtain ⟨X, hX⟩ : ∃ X, X = bs[i]! := ⟨_, rfl⟩
        rw [← hX] at b0 b1 b2 b3
        have HX := Lib.hid hX
        have HBO := Lib.hid hbo
        clear hX
        subst hbo
        go_upto_region 10 with (go_at_call 27; refine HUP.out.mono ?_; rintro r w' ⟨rfl, rfl⟩)
        obtain ⟨bx, hbx⟩ : ∃ x, x = wr.heap.size := ⟨_, rfl⟩
        obtain ⟨w4, hw4⟩ : ∃ u, u = wr.alloc (.cells #[.int .i64 X.x0, .int .i64 X.y0, .int .i64 X.x1, .int .i64 X.y1] 23) := ⟨_, rfl⟩
        rw [← hbx, ← hw4]
        have HB4 := Lib.hid (by rw [hw4, hbx]; exact alloc_new _ _ : w4.heap[bx]? = some (.cells #[.int .i64 X.x0, .int .i64 X.y0, .int .i64 X.x1, .int .i64 X.y1] 23 (0, 0)))
        have hf4 : Fr [] wr w4 := by rw [hw4]; exact (Fr.refl [] wr).alloc _
        have HV4 := Lib.hid (HV.out.fr hf4 (by simp))
        have HPS4 := Lib.hid (HPS.out.fr hf4 (by simp))
        have HES4 := Lib.hid (HES.out.fr hf4 (by simp))
        have HF4 := Lib.hid (HF.out.trans hf4 (by simp [Ext]))
        have HBX := Lib.hid hbx
        obtain ⟨r, hr⟩ : ∃ r, r = w4.heap.size := ⟨_, rfl⟩
        have HR := Lib.hid hr
        have HMP := Lib.hid (by have := map_ne_seg HV4.out HPS4.out; exact this)
        have HMX := Lib.hid (by have := HV.out.lt; omega : mb ≠ bx)
        have HMR := Lib.hid (by have := HV4.out.lt; omega : mb ≠ r)
        have HER := Lib.hid (by have := HES4.out.lt eb (by simp [blk]); omega : eb ≠ r)
        have HXR := Lib.hid (by have := lt_of_blk HB4.out; omega : bx ≠ r)
        have HRW := Lib.hid (by have := HF4.out.size; omega : w.heap.size ≤ r)
        have HMK := Lib.hid (fun e (he : e ∈ act.map (kvB bs)) => (by
          obtain ⟨j, -, rfl⟩ := List.mem_map.1 he
          exact ⟨bs[j]!, rfl⟩ : ∃ y, e.2 = bxV y))
        clear b0 b1 b2 b3 hbx hw4 hf4 hr c0 hlt
        go_wp2_with (first | (at_range; refine wpList_range_V rfl _ 47 rfl 23 undM rfl HV4.out ?_; rw [← HR.out]; intro w5 hrg5 hf5; have HRG := Lib.hid hrg5; have HF5 := Lib.hid hf5; clear hrg5 hf5))
        try go_frame
        go_loopw [3] (fun pv u => QInv w bs es act prs i mb eb ec bx r pv u) (fun _ u => u.rangeLeft mb r)
        case atStart => exact ⟨[], act, po, pc, by simp [newP], by simp, HRG.out, by rw [← HX.out]; exact HF5.out.blk HB4.out (by simp), by simpa [newP] using HPS4.out.fr HF5.out (by simp), HES4.out.fr HF5.out (by simp), HPO.out, HF4.out.trans HF5.out (by simp [Ext]), fun h => by have := HPS4.out.lt r h; have := HR.out; omega⟩
        case round =>
          obtain ⟨V, M, po2, pc2, rfl, hvm, hir, hxb, hps, hes, hpo, hf, hrp⟩ := hrel
          have HRP := Lib.hid hrp
          clear hrp
          obtain ⟨P2, hP2⟩ : ∃ P, P = prs ++ newP bs i V := ⟨_, rfl⟩
          rw [← HX.out] at hxb
          rw [← hP2] at hps ⊢
          have HP2 := Lib.hid hP2
          have HVM := Lib.hid hvm
          have HIR := Lib.hid hir
          have HXB := Lib.hid hxb
          have HPS6 := Lib.hid hps
          have HES6 := Lib.hid hes
          have HPO6 := Lib.hid hpo
          have HF6 := Lib.hid hf
          have hal : act.length ≤ 200 := by
            have h1 := HSW.out.alen
            rw [List.length_take] at h1; omega
          have hln : P2.length ≤ 41000 := by
            have h1 := newP_len bs i V
            have h2 := hvm.length_eq
            have h3 := HPL.out
            rw [hP2]
            rw [List.length_append] at h2 ⊢
            omega
          clear hP2
          have HAL := Lib.hid hal
          have HLN := Lib.hid hln
          have c0 : wr.cell? ⟨bx, 0, none⟩ = some (.int .i64 X.x0) := cell_blk hxb 0
          have c1 : wr.cell? ⟨bx, 1, none⟩ = some (.int .i64 X.y0) := cell_blk hxb 1
          have c2 : wr.cell? ⟨bx, 2, none⟩ = some (.int .i64 X.x1) := cell_blk hxb 2
          have c3 : wr.cell? ⟨bx, 3, none⟩ = some (.int .i64 X.y1) := cell_blk hxb 3
          clear hvm hir hxb hps hes hpo hf hal hln HRG HF5 HV4 HPS4 HES4
          go_wp2_with (at_next; refine wpList_next_Vm bxV HMK.out rfl _ rfl rfl HIR.out ?_ ?_)
          · intro hM
            have hM0 : M = [] := by simpa using hM
            have HVA := Lib.hid (by have h := HVM.out; rw [hM0, List.append_nil] at h; exact h : V.Perm act)
            obtain ⟨wB, hrB, hvB, fB, -⟩ := HIR.out.isV.store_new undM (by rw [List.length_map]; have := HAL.out; unfold maxLen; omega) hfi (fun e he => by
              obtain ⟨j, hj, rfl⟩ := List.mem_map.1 he
              intro h
              have h : (j : Int) = (i : Int) := h
              exact HSW.out.fresh HSP.out ((show j = i by omega) ▸ hj)) (.agg #[.int .i64 X.x0, .int .i64 X.y0, .int .i64 X.x1, .int .i64 X.y1])
            have HVB := Lib.hid hvB
            have HFB := Lib.hid fB
            clear hM hM0 hvB fB
            go_wp2_with fail
            go_roundw
            case rel =>
              refine ⟨k + 1, i :: act, P2, po2, pc2, ⟨rfl, by go_num⟩, by omega, ?_, ?_, HPS6.out.fr HFB.out (fun q hq h => ?_), HES6.out.fr HFB.out (fun q hq h => ?_), HPO6.out, HF6.out.trans HFB.out (fun q hq => ?_)⟩
              · rw [HTK.out, HEI.out, HP2.out]; exact HSW.out.lower HSP.out HOK.out HVA.out
              · refine HVB.out.perm ?_
                have e1 : (((i : Int), (.agg #[.int .i64 X.x0, .int .i64 X.y0, .int .i64 X.x1, .int .i64 X.y1] : Value)) : Int × Value) = kvB bs i := by rw [HX.out]; rfl
                rw [e1, List.map_cons]
                exact List.perm_append_singleton _ _
              · simp at h; subst h; exact map_ne_seg HIR.out.isV HPS6.out hq
              · simp at h; subst h; exact map_ne_seg HIR.out.isV HES6.out hq
              · simp at hq; rw [hq, HMB.out]; exact .inr (Nat.le_refl _)
            case measure => simp [intOf]; omega
          · intro x Y w6 j hjM hjk hfx hir6 hlt6 hf6 hen6
            have hjx : x = (j : Int) := (congrArg Prod.fst hjk).symm
            subst hjx
            have hjY : Y = bs[j]! := by
              have h1 : bxV (bs[j]!) = bxV Y := congrArg Prod.snd hjk
              obtain ⟨a, b, c, d⟩ := Y
              generalize bs[j]! = Z at h1 ⊢
              obtain ⟨a', b', c', d'⟩ := Z
              unfold bxV at h1
              simp at h1
              obtain ⟨h1, h2, h3, h4⟩ := h1
              rw [← h1, ← h2, ← h3, ← h4]
            have hact : act.Nodup := HSW.out.and
            have hnd : (V ++ M).Nodup := HVM.out.nodup_iff.2 hact
            have hja : j ∈ act := HVM.out.mem_iff.1 (List.mem_append_right _ hjM)
            have hji : j ≠ i := fun h => HSW.out.fresh HSP.out (h ▸ hja)
            have hjn := ((HSW.out.amem j).1 hja).1
            rw [kv_filter] at hir6
            have HIR6 := Lib.hid (fun (o : Obj) => (hir6.fr ((Fr.refl [] w6).alloc o) (by simp) (by simp)))
            have HIR6' := Lib.hid hir6
            have HLT6 := Lib.hid hlt6
            have HVM6 := Lib.hid (by
              have h1 := perm_take (List.nodup_append.1 hnd).2.1 hjM
              have h2 : (V ++ M).Perm (V ++ (j :: M.filter fun x => x != j)) := h1.append_left V
              rw [List.append_assoc]
              exact h2.symm.trans HVM.out : (V ++ [j] ++ M.filter fun x => x != j).Perm act)
            have hr7 : ∀ q ∈ ([r] : List Nat), w.heap.size ≤ q := by intro q hq; simp at hq; rw [hq]; exact HRW.out
            have HF7 := Lib.hid (HF6.out.trans hf6 (fun q hq => .inr (hr7 q hq)))
            have HXB7 := Lib.hid (hf6.blk HXB.out (by simpa using HXR.out))
            have HPS7 := Lib.hid (HPS6.out.fr hf6 (fun q hq h => by
              have h1 : q = r := by simpa using h
              exact HRP.out (h1 ▸ hq)))
            have HES7 := Lib.hid (HES6.out.fr hf6 (fun q hq => by simp [blk] at hq ⊢; rw [hq]; exact HER.out))
            have hen : (Instr.entry (.pointer (some ⟨r, 0, none⟩))).run Try.prog w6 = .ok (.tuple #[.int .i64 (j : Int), .agg #[.int .i64 Y.x0, .int .i64 Y.y0, .int .i64 Y.x1, .int .i64 Y.y1]]) w6 := hen6
            have hsz := lt_of_blk HXB7.out
            have d1 : w6.cell? ⟨bx, 1, none⟩ = some (.int .i64 X.y0) := cell_blk HXB7.out 1
            have d3 : w6.cell? ⟨bx, 3, none⟩ = some (.int .i64 X.y1) := cell_blk HXB7.out 3
            have HSN := Lib.hid (by rw [newP_snoc, ← List.append_assoc, ← HP2.out] : prs ++ newP bs i (V ++ [j]) = P2 ++ _)
            rw [← HX.out, ← hjY] at HSN
            obtain ⟨mt, hmt⟩ : ∃ b, b = meetB X.y0 X.y1 Y.y0 Y.y1 := ⟨_, rfl⟩
            have HME := Lib.hid (by have h := fun u => meet_any u X.y0 X.y1 Y.y0 Y.y1; rw [← hmt] at h; exact h)
            rw [← hmt] at HSN
            have HJI := Lib.hid hji
            have HJN := Lib.hid hjn
            clear hfx hir6 hlt6 hf6 hen6 hjk hjM hjY hact hnd hja hr7 hmt hjn c0 c1 c2 c3
            have g1 : min (i : Int) (j : Int) = ((min i j : Nat) : Int) := by omega
            have g2 : max (i : Int) (j : Int) = ((max i j : Nat) : Int) := by omega
            obtain ⟨A, hA⟩ : ∃ A, A = min i j := ⟨_, rfl⟩
            obtain ⟨B, hB⟩ : ∃ B, B = max i j := ⟨_, rfl⟩
            rw [← hA] at g1 HSN
            rw [← hB] at g2 HSN
            have hsz6 := HF7.out.size
            have H41 := HLN.out
            have HD := Lib.hid (fun (o : Obj) => (HPS7.out.alloc o))
            cases mt with
            | false =>
              clear hA hB
              go_wp2_with (go_at_call 25; refine (HME.out _).mono ?_; rintro r w' ⟨rfl, rfl⟩)
              go_roundw
              case rel =>
                have hs := HSN.out
                simp only [Bool.false_eq_true, if_false, List.append_nil] at hs
                refine ⟨V ++ [j], _, po2, pc2, by rw [hs], HVM6.out, (HIR6.out _).1, by rw [← HX.out]; exact alloc_old HXB7.out, by rw [hs]; exact HPS7.out.alloc _, HES7.out.alloc _, HPO6.out, HF7.out.alloc _, HRP.out⟩
              case measure => rw [(HIR6.out _).2]; exact HLT6.out
            | true =>
              clear hA hB
              go_wp2_with (first | (go_at_call 25; refine (HME.out _).mono ?_; rintro r w' ⟨rfl, rfl⟩) | (at_builtin; refine wpList_append_seg rfl _ _ 31 rfl 39 ip _ 2 16 Try.underlying31 hip hp0 hp1 hp2 rfl (by decide) po2 P2.length pc2 (P2.flatMap encP) rfl ((HPS7.out.alloc _).alloc _) ⟨w6.heap.size + 1, 0, none⟩ 1 1 [.int .i64 (A : Int), .int .i64 (B : Int)] rfl rfl (new_arr1 w6 _ #[.int .i64 (A : Int), .int .i64 (B : Int)] _) (by simp [Value.oneCell']) (by unfold maxLen; omega) (by omega) ?_; intro o9 c9 w9 hs9 hf9 hx9; have HS9 := Lib.hid hs9; have HF9 := Lib.hid ((((Fr.refl (blk po2) w6).alloc _).alloc _).trans hf9 (Ext.refl _ _)); have HX9 := Lib.hid (fun q (hq : q ∈ blk o9) => (hx9 q hq).imp id (fun h => Nat.le_trans (((Fr.refl ([] : List Nat) w6).alloc _).alloc _).size h) : ∀ q ∈ blk o9, q ∈ blk po2 ∨ w6.heap.size ≤ q); clear hs9 hf9 hx9))
              have HIR9 := Lib.hid (HIR6'.out.fr HF9.out (map_ne_seg HIR6'.out.isV HPS7.out) HRP.out)
              have HXB9 := Lib.hid (HF9.out.blk HXB7.out (HPS7.out.ne_type HXB7.out (by decide)))
              have HES9 := Lib.hid (HES7.out.fr HF9.out (HES7.out.disj HPS7.out (by decide)))
              go_roundw
              case rel =>
                have hs := HSN.out
                simp only [if_true] at hs
                refine ⟨V ++ [j], _, o9, c9, by rw [hs, List.length_append]; rfl, HVM6.out, HIR9.out.1, by rw [← HX.out]; exact HXB9.out, ?_, HES9.out, fun q hq => ?_, HF7.out.trans HF9.out (fun q hq => .inr (HPO6.out q hq)), fun h => ?_⟩
                · rw [hs, List.length_append, List.flatMap_append]; exact HS9.out
                · rcases HX9.out q hq with h | h
                  · exact HPO6.out q h
                  · omega
                · rcases HX9.out r h with h | h
                  · exact HRP.out h
                  · have := HIR6'.out.lt; omega
              case measure => rw [HIR9.out.2]; exact HLT6.out
    · have hlt : ¬ (k : Int) < (es.length : Int) := by omega
      have hke : k = es.length := by omega
      have HSO := Lib.hid (sort_pairs wr po pc prs HPS.out (by have := HPL.out; omega))
      have HSW2 := Lib.hid (by have h := HSW.out; rw [hke, List.take_length] at h; exact h : Sweep bs es act prs)
      clear hke
      go_wp2_with fail
      refine HSO.out.mono ?_
      rintro r w4 ⟨rfl, t', h1, h2, h3, h4, h5⟩
      have he := sweep_end HSW2.out HSE.out h1 (lex_of (h1.nodup_iff.2 HSW2.out.pnd) h3)
      rw [he] at h2 h4
      have HR := Lib.hid h4
      have HL := Lib.hid h2
      have HF5 := Lib.hid (HF.out.trans h5 (fun q hq => .inr (HPO.out q hq)))
      clear h1 h2 h3 h4 h5 he HSO
      go_wp2_with fail
      go_ret
      exact ⟨po, pc, by rw [HL.out]; rfl, HR.out, HPO.out, HF5.out⟩
end Go.Proofs.Ytoplpmkcfgadlaa
