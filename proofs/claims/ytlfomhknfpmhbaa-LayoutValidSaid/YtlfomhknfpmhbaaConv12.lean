/- shape.isConvex. -/
import Derived.Test.YtlfomhknfpmhbaaShpP
import Derived.Test.YtlfomhknfpmhbaaRoundH
namespace Go.Proofs.Ytlfomhknfpmhbaa
open Go.RowKit Go.Shelf

attribute [local go_sem] Oper.semAt_some

theorem wpIn_round_still_tailC {l n : Nat} {P : Program} {id : Nat} {L : List Oper} {Q : Exit → Act → World → Prop} {a : Act} {w : World} (k : Nat) (hm : P.follows .mixedOrders = true) (hd : noDef L.toArray = true) (hB : Region.lexTailB .any L.toArray k = true)
    (h : wpStill P L.toArray w.drew (fun a' => wpList P L.toArray (onlyNormal Q) (L.drop k) a' w.drew) (L.take k) a) :
    (Code.region id L.toArray true).wpIn (Fence.wide.inRound l) n P Q a w :=
  wpIn_region_draw fun t => by
    simp only [Region.schedule, hm, Bool.true_or, if_true]
    exact opsInC_of_ops hd _ _ _ (wpAny_sound _ t _ a _ (wpAny_still_tail k hB h))

theorem Rd.vec {w : World} {ao : Option Addr} {l : List (Int × Int)} (h : Rd w 2 ao l.length (vecs l)) {i : Nat} (hi : i < l.length) : ∃ g off, ao = some ⟨g, off, none⟩ ∧ g < w.heap.size ∧
    w.cell? ⟨g, off + i * 2, none⟩ = some (.int .i64 (vx l i).1) ∧ w.cell? ⟨g, off + i * 2 + 1, none⟩ = some (.int .i64 (vx l i).2) := by
  have e : vx l i = l[i] := by unfold vx; rw [List.getD_eq_getElem?_getD, List.getElem?_eq_getElem hi]; rfl
  rw [e]
  exact Rd.door h hi

theorem Fr.others {S : List Nat} {w w' : World} (h : Fr S w w') (hS : ∀ k ∈ S, ∀ o, w.heap[k]? = some o → o.isCells = true) : KeepsOthers w w' := ⟨h.size, fun k o hk ho => h.blk hk (fun hm => by rw [hS k hm o hk] at ho; cases ho)⟩
theorem Fr.putObjD {S : List Nat} {a w : World} (h : Fr S a w) {D : Nat} (hD : a.heap.size ≤ D) (o : Obj) : Fr S a (w.putObj D o) :=
  ⟨h.os, h.tape, h.output, by rw [World.putObj_size]; exact h.size, fun k hk hS => (World.putObj_heap_other (by omega)).trans (h.block k hk hS)⟩

/-- the state of the result cell -/
def CvI (b : Nat) (l : List (Int × Int)) (W0 : World) (pre : List (Fin l.length)) (W : World) : Prop :=
  FrB W0.heap.size [b + 1] W0 W ∧ (∀ x ∈ pre, edgeB l x.val = true) ∧ W.heap[b + 1]? = some (.cells #[.bool false] 4 (0, 0))
def CvX (b : Nat) (l : List (Int × Int)) (W0 : World) (W : World) : Prop :=
  FrB W0.heap.size [b + 1] W0 W ∧ convB l = false ∧ W.heap[b + 1]? = some (.cells #[.bool false] 4 (0, 0))
theorem conv_bad {l : List (Int × Int)} {i : Nat} (hi : i < l.length) (h : edgeB l i = false) : convB l = false := by
  unfold convB
  rw [List.all_eq_false]
  exact ⟨i, List.mem_range.2 hi, by rw [h]; simp⟩
theorem conv_good {l : List (Int × Int)} (h : ∀ x ∈ fw l.length l.length, edgeB l x.val = true) : convB l = true := by
  unfold convB
  rw [List.all_eq_true]
  intro i hi
  have hi' : i < l.length := List.mem_range.1 hi
  exact h ⟨i, hi'⟩ (by unfold fw; rw [List.take_of_length_le (by simp)]; exact List.mem_finRange _)

set_option maxRecDepth 100000 in
set_option maxHeartbeats 16000000 in
theorem convex_any (w : World) (po : Option Addr) (pc : Nat) (l : List (Int × Int)) (hlen : l.length ≤ 1000000) (hrd : Rd w 2 po l.length (vecs l)) :
    Calls Try.prog 47 #[.slice po l.length pc] w fun e w' => e = .returned (.bool (convB l)) ∧ Fr [] w w' := by
  have HRD := Lib.hid hrd
  have HLEN := Lib.hid hlen
  clear hrd
  refine (callsIn_wide (n := 6)).1 ?_
  refine callsIn_of_wp_marks Try.func47 rfl trivial ?_ rfl
  simp only [Try.ntmps47, List.size_toArray, List.length_cons, List.length_nil, Nat.reduceAdd, Nat.reduceSub, Array.replicate_succ, Array.replicate_zero, List.push_toArray, List.append_toArray, List.nil_append, List.cons_append]
  gi_wp2_with (refine ⟨trivial, ?_⟩; gi_at_call 55; refine (edges_in _ _ _).mono ?_; rintro e w' ⟨rfl, rfl⟩)
  obtain ⟨b, hb⟩ : ∃ b, b = w.heap.size := ⟨_, rfl⟩
  obtain ⟨W0, hW0⟩ : ∃ W0, W0 = ((w.alloc (.cells #[.slice po l.length pc] 46)).alloc (.cells #[.bool false] 4)).alloc (.cells #[.int .i64 (l.length : Int)] 3) := ⟨_, rfl⟩
  have hq0 : W0.heap[b]? = some (.cells #[.slice po l.length pc] 46 (0, 0)) := by rw [hW0, hb]; exact alloc_old (alloc_old (alloc_new w _))
  have hq1 : W0.heap[b + 1]? = some (.cells #[.bool false] 4 (0, 0)) := by
    have h := alloc_old (o' := .cells #[.int .i64 (l.length : Int)] 3) (alloc_new (w.alloc (.cells #[.slice po l.length pc] 46)) (.cells #[.bool false] 4))
    rw [hW0, hb]; simpa using h
  have hq2 : W0.heap[b + 2]? = some (.cells #[.int .i64 (l.length : Int)] 3 (0, 0)) := by
    have h := alloc_new ((w.alloc (.cells #[.slice po l.length pc] 46)).alloc (.cells #[.bool false] 4)) (.cells #[.int .i64 (l.length : Int)] 3)
    rw [hW0, hb]; simpa using h
  have hsz : W0.heap.size = b + 3 := by rw [hW0, hb]; simp
  have hF0 : Fr [] w W0 := by rw [hW0]; exact (((Fr.refl [] w).alloc _).alloc _).alloc _
  rw [← hW0]
  simp only [Nat.add_assoc, Nat.reduceAdd]
  rw [← hb]
  have HB := Lib.hid hb
  have HF0 := Lib.hid hF0
  have HQ0 := Lib.hid hq0
  have HQ1 := Lib.hid hq1
  have HSZ := Lib.hid hsz
  have HSEQ := Lib.hid (edge_stops (6 - 1) (by omega) (b + 2) [b + 1] l.length hlen W0 (cell_blk hq2 0) (by rw [hsz]; omega) (by simp))
  clear hW0 hF0 hq0 hq1 hq2 hb hsz hlen
  refine wpIn_rangeFunc_ownH rfl (by omega) (gf := 58) (lb := #[.pointer (some ⟨b + 2, 0, none⟩)]) rfl trivial (enters_of Try.func58 (by kernel_rfl) rfl)
    HSEQ.out
    frB_t (frB_b (Nat.le_refl _)) (Below.refl _ _) (fun _ => rfl)
    (CvI b l W0) (fun c _ W => c = .ret ∧ CvX b l W0 W)
    ?own ?ownX ⟨FrB.refl _ _ _, by simp, HQ1.out⟩
    (fun x a' _ => a' = { tmps := #[.slice po l.length pc, .pointer (some ⟨b, 0, none⟩), .pointer (some ⟨b + 1, 0, none⟩), .int .i64 (x.val : Int), .int .i64 (nx l.length x.val : Int), undef, undef, undef, .slice po l.length pc, .int .i64 (l.length : Int), .func (.func 58) #[] #[.pointer (some ⟨b + 2, 0, none⟩)], .int .i64 (x.val : Int), .int .i64 (nx l.length x.val : Int), undef, undef, undef, undef, undef, undef, undef, undef, undef, undef, undef, undef, undef, undef, undef, undef, undef, undef, undef, undef, undef, undef, undef, undef, undef, undef, undef, undef, undef, undef, undef, undef, undef, undef, undef], defers := [] })
    (fun _ _ _ _ _ _ h _ _ => h) ?assign ?body ?done ?stop
  case own =>
    rintro pre A B row ⟨h1, h2, h3⟩ hg hr
    have hsz := HSZ.out
    have h1s := h1.size
    exact ⟨h1.trans (FrB.grown hg (by omega) (fun r e => (hr r e).1)), h2, (hg.block _ (lt_of_blk h3) (fun e => by have := (hr _ e.symm).1; omega)).trans h3⟩
  case ownX =>
    rintro c pre A B row ⟨h0, h1, h2, h3⟩ hg hr
    have hsz := HSZ.out
    have h1s := h1.size
    exact ⟨h0, h1.trans (FrB.grown hg (by omega) (fun r e => (hr r e).1)), h2, (hg.block _ (lt_of_blk h3) (fun e => by have := (hr _ e.symm).1; omega)).trans h3⟩
  case assign =>
    rintro lp pre x W K hI hK
    simp only [encX]
    have HK := Lib.hid hK
    have HI := Lib.hid hI
    clear hI hK
    gi_wp2
    exact HK.out _ _ (KeepsFrom.refl _ _) (FrB.refl _ _ _) HI.out rfl
  case body =>
    rintro lp pre x a' W hl ⟨r, hr⟩ ⟨hf, hok, hres⟩ rfl hlt
    obtain ⟨i, hi⟩ := x
    obtain ⟨g, off, e, hg, -, -⟩ := HRD.out.vec hi
    subst e
    simp only at hok ⊢
    obtain ⟨k, hk⟩ : ∃ k, k = nx l.length i := ⟨_, rfl⟩
    rw [← hk]
    have hkl : k < l.length := by rw [hk]; exact nx_lt hi
    have hRW : Rd W 2 (some ⟨g, off, none⟩) l.length (vecs l) := HRD.out.kept (fun q hq => by
      simp [blk] at hq; subst hq
      exact (hf.block q (by have := HSZ.out; have := HB.out; omega) (by simp; have := HB.out; omega)).trans (HF0.out.block q hg (by simp)))
    obtain ⟨_, _, e, hgW, pi0, pi1⟩ := hRW.vec hi
    cases e
    obtain ⟨_, _, e, -, pk0, pk1⟩ := hRW.vec hkl
    cases e
    have cb : W.cell? ⟨b, 0, none⟩ = some (.slice (some ⟨g, off, none⟩) l.length pc) := cell_blk ((hf.block b (by have := HSZ.out; omega) (by simp)).trans HQ0.out) 0
    obtain ⟨v, hv⟩ : ∃ v, v = vx l i := ⟨_, rfl⟩
    obtain ⟨u, hu⟩ : ∃ u, u = vx l k := ⟨_, rfl⟩
    rw [← hv] at pi0 pi1
    rw [← hu] at pk0 pk1
    obtain ⟨v1, v2⟩ := v
    obtain ⟨u1, u2⟩ := u
    simp only at pi0 pi1 pk0 pk1
    have hil : (i : Int) < (l.length : Int) := by omega
    have hkl' : (k : Int) < (l.length : Int) := by omega
    have HRW := Lib.hid hRW
    have HFW := Lib.hid hf
    have HOK := Lib.hid hok
    have HRES := Lib.hid hres
    have HV := Lib.hid hv
    have HU := Lib.hid hu
    have HK := Lib.hid hk
    have HSD := Lib.hid (fun (q : World) => (side_any q (v1, v2) (u1, u2) : Calls Try.prog 56 #[.agg #[.int .i64 v1, .int .i64 v2], .agg #[.int .i64 u1, .int .i64 u2]] q _))
    clear hRW hf hok hres hv hu hk hr hl hlt hg
    gi_wp2
    refine wpIn_round_still_tailC 8 (by kernel_rfl) (by kernel_rfl) (by kernel_rfl) ?_
    simp only [List.take_succ_cons, List.take_zero, List.drop_succ_cons, List.drop_zero]
    repeat still_step
    refine wpStill_nil ?_
    go_wp2_with (go_at_call 56; refine (HSD.out _).mono ?_; rintro e w' ⟨rfl, rfl⟩)
    obtain ⟨s, hs⟩ : ∃ s, s = W.heap.size := ⟨_, rfl⟩
    obtain ⟨W1, hW1⟩ : ∃ W1, W1 = ((W.alloc (.cells #[.int .i64 v1, .int .i64 v2] 29)).alloc (.cells #[.int .i64 u1, .int .i64 u2] 29)).drew := ⟨_, rfl⟩
    have hF1 : Fr [] W W1 := by rw [hW1]; exact (((Fr.refl [] W).alloc _).alloc _).drew
    have hz0 : W1.heap[s]? = some (.cells #[.int .i64 v1, .int .i64 v2] 29 (0, 0)) := by rw [hW1, hs]; exact alloc_old (alloc_new W _)
    have hz1 : W1.heap[s + 1]? = some (.cells #[.int .i64 u1, .int .i64 u2] 29 (0, 0)) := by
      have h := alloc_new (W.alloc (.cells #[.int .i64 v1, .int .i64 v2] 29)) (.cells #[.int .i64 u1, .int .i64 u2] 29)
      rw [hW1, hs]; simp at h ⊢; exact h
    rw [← hW1, ← hs]
    have HQ := Lib.hid (fun (q : World) (hq : Fr [] W1 q) (p1 p2 : Int) => (query_any q (s + 1) s (v1, v2) (u1, u2) (p1, p2) (hq.blk hz1 (by simp)) (hq.blk hz0 (by simp)) :
      Calls Try.prog 59 #[.agg #[.int .i64 p1, .int .i64 p2], .pointer (some ⟨s + 1, 0, none⟩), .pointer (some ⟨s, 0, none⟩)] q _))
    have hNW : W0.heap.size ≤ W.heap.size := HFW.out.size
    have HNW := Lib.hid hNW
    have HF1 := Lib.hid hF1
    clear hW1 hs hF1 hz0 hz1 hNW pi0 pi1 pk0 pk1
    refine ⟨rfl, ?_⟩
    obtain ⟨c, hc⟩ : ∃ c, c = crs (v1, v2) (u1, u2) (0, 0) := ⟨_, rfl⟩
    have HQ0' := Lib.hid (by have h := HQ.out W1 (Fr.refl _ _) 0 0; rw [← hc] at h; exact h)
    have HC := Lib.hid hc
    clear hc
    have HRET := Lib.hid (fun (hbad : edgeB l i = false) (W' : World) (hF : Fr [] W W') => (by
      have hres' : W'.heap[b + 1]? = some (.cells #[.bool false] 4 (0, 0)) := hF.blk HRES.out (by simp)
      have hk1 : KeepsOthers W (W'.setCell ⟨b + 1, 0, none⟩ (.bool false)) := (hF.others (by simp)).trans (KeepsOthers.setCell _ _ _)
      have hfb : FrB W0.heap.size [b + 1] W0 W' := HFW.out.trans (FrB.ofFr (hF.mono (by simp)) HNW.out)
      have hfb2 : FrB W0.heap.size [b + 1] W' (W'.setCell ⟨b + 1, 0, none⟩ (.bool false)) := FrB.ofFr ((Fr.refl _ W').setCell (.inl (by simp)) _) (Nat.le_trans HNW.out hF.size)
      exact ⟨hk1.from _, rfl, hfb.trans hfb2, conv_bad hi hbad, setCell_blk hres' 0 _⟩ :
        KeepsFrom W0.heap.size W (W'.setCell ⟨b + 1, 0, none⟩ (.bool false)) ∧ Code.ret = Code.ret ∧ CvX b l W0 (W'.setCell ⟨b + 1, 0, none⟩ (.bool false))))
    by_cases hc0 : c ≤ 0
    case pos =>
      have hbad : edgeB l i = false := by
        unfold edgeB
        rw [← HK.out, ← HV.out, ← HU.out, ← HC.out]
        have e : decide (0 < c) = false := decide_eq_false (by omega)
        rw [e]; rfl
      have HBAD := Lib.hid hbad
      have c1 : (W1.alloc (.cells #[.int .i64 0, .int .i64 0] 29)).cell? ⟨b + 1, 0, none⟩ = some (.bool false) := cell_blk (alloc_old (HF1.out.blk HRES.out (by simp))) 0
      have f1 : (W1.alloc (.cells #[.int .i64 0, .int .i64 0] 29)).frozen? ⟨b + 1, 0, none⟩ = false := frozen_blk (alloc_old (HF1.out.blk HRES.out (by simp))) 0
      clear hbad
      gi_wp2_with (refine ⟨trivial, ?_⟩; refine (CallsIn.inRound lp (callsIn_wide.2 HQ0'.out)).mono ?_; rintro e w' ⟨rfl, rfl⟩)
      have hrt := HRET.out HBAD.out _ (HF1.out.alloc (.cells #[.int .i64 0, .int .i64 0] 29))
      exact ⟨hrt.1, rfl, hrt.2.2⟩
    case neg =>
      gi_upto_region 7 with (refine ⟨trivial, ?_⟩; refine (CallsIn.inRound lp (callsIn_wide.2 HQ0'.out)).mono ?_; rintro e w' ⟨rfl, rfl⟩)
      have HC0 := Lib.hid hc0
      clear hc0 HQ0'
      obtain ⟨W2, hW2⟩ : ∃ W2, W2 = W1.alloc (.cells #[.int .i64 0, .int .i64 0] 29) := ⟨_, rfl⟩
      have hF2 : Fr [] W1 W2 := by rw [hW2]; exact (Fr.refl _ _).alloc _
      have cb2 : W2.cell? ⟨b, 0, none⟩ = some (.slice (some ⟨g, off, none⟩) l.length pc) := cell_blk (hF2.blk (HF1.out.blk ((HFW.out.block b (by have := HSZ.out; omega) (by simp)).trans HQ0.out) (by simp)) (by simp)) 0
      rw [← hW2]
      have HF2 := Lib.hid hF2
      clear hW2 hF2 cb
      gi_wp2
      gi_loopw [28] (fun iv wr => ∃ m : Nat, m ≤ l.length ∧ iv = .int .i64 (m : Int) ∧ (∀ j, j < m → hitB l i j = true) ∧ Fr [] W1 wr) (fun iv _ => l.length - (intOf iv).toNat)
      case atStart => exact ⟨0, by omega, rfl, fun j hj => by omega, HF2.out⟩
      case round =>
        obtain ⟨m, hm, rfl, hall, hF⟩ := hrel
        have HF := Lib.hid hF
        have HALL := Lib.hid hall
        clear hall hF
        have hlen := HLEN.out
        by_cases hml : m < l.length
        · obtain ⟨_, _, e, hgm, q0, q1⟩ := (HRW.out.fr (HF1.out.trans HF.out (by simp [Ext])) (by simp)).vec hml
          cases e
          obtain ⟨y, hy⟩ : ∃ y, y = vx l m := ⟨_, rfl⟩
          rw [← hy] at q0 q1
          obtain ⟨y1, y2⟩ := y
          simp only at q0 q1
          have hml' : (m : Int) < (l.length : Int) := by omega
          have HF3 := Lib.hid (HF.out.alloc (.cells #[.int .i64 y1, .int .i64 y2] 29))
          have HNX := Lib.hid (fun (hh : hitB l i m = true) => (fun j hj => by
            by_cases hjm : j = m
            · rw [hjm]; exact hh
            · exact HALL.out j (by omega) : ∀ j, j < m + 1 → hitB l i j = true))
          have HHIT := Lib.hid (by unfold hitB; rw [← HK.out, ← HV.out, ← HU.out, ← hy] : hitB l i m = (m == i || m == k || decide (0 < crs (v1, v2) (u1, u2) (y1, y2))))
          clear hy
          by_cases hmi : m = i
          case' pos =>
            have e1 : ((m : Int) != (i : Int)) = false := by simp; omega
            have HH := Lib.hid (HNX.out (by rw [HHIT.out, hmi]; simp))
            clear hmi
            gi_wp2
            refine ⟨(fun f h => nomatch h), ?_⟩
            gi_wp2
            go_roundw
            case rel => exact ⟨m + 1, by omega, by go_num, HH.out, HF3.out⟩
            case measure => simp [intOf]; omega
          case' neg =>
            have e1 : ((m : Int) != (i : Int)) = true := by simp; omega
            have b1 : (m == i) = false := beq_eq_false_iff_ne.2 hmi
            rw [b1] at HHIT
            clear hmi b1
            by_cases hmk : m = k
            case' pos =>
              have e2 : ((m : Int) != (k : Int)) = false := by simp; omega
              have HH := Lib.hid (HNX.out (by rw [HHIT.out, hmk]; simp))
              clear hmk
              gi_wp2
              refine ⟨(fun f h => nomatch h), ?_⟩
              gi_wp2
              go_roundw
              case rel => exact ⟨m + 1, by omega, by go_num, HH.out, HF3.out⟩
              case measure => simp [intOf]; omega
            case' neg =>
              have e2 : ((m : Int) != (k : Int)) = true := by simp; omega
              have b1 : (m == k) = false := beq_eq_false_iff_ne.2 hmk
              rw [b1] at HHIT
              clear hmk b1
              obtain ⟨d, hd⟩ : ∃ d, d = crs (v1, v2) (u1, u2) (y1, y2) := ⟨_, rfl⟩
              have HQP := Lib.hid (by have h := HQ.out _ HF3.out y1 y2; rw [← hd] at h; exact h)
              rw [← hd] at HHIT
              have HF4 := Lib.hid (HF3.out.alloc (.cells #[.int .i64 y1, .int .i64 y2] 29))
              clear hd
              by_cases hd0 : d ≤ 0
              case' pos =>
                have HBAD : Hid (edgeB l i = false) := Lib.hid (by
                  have hz : hitB l i m = false := by rw [HHIT.out]; simp; omega
                  have ha : (List.range l.length).all (hitB l i) = false := by
                    rw [List.all_eq_false]
                    exact ⟨m, List.mem_range.2 hml, by rw [hz]; simp⟩
                  unfold edgeB
                  rw [ha, Bool.and_false])
                have cR := HF4.out.blk (HF1.out.blk HRES.out (by simp)) (by simp)
                have c1 := cell_blk cR 0
                have f1 := frozen_blk cR 0
                simp at c1
                clear cR
                gi_wp2_with (refine ⟨trivial, ?_⟩; refine (CallsIn.inRound lp (callsIn_wide.2 HQP.out)).mono ?_; rintro e w' ⟨rfl, rfl⟩)
                have hrt := HRET.out HBAD.out _ (HF1.out.trans HF4.out (by simp [Ext]))
                exact ⟨hrt.1, rfl, hrt.2.2⟩
              case' neg =>
                have HH := Lib.hid (HNX.out (by rw [HHIT.out]; simp; omega))
                gi_wp2_with (refine ⟨trivial, ?_⟩; refine (CallsIn.inRound lp (callsIn_wide.2 HQP.out)).mono ?_; rintro e w' ⟨rfl, rfl⟩)
                go_roundw
                case rel => exact ⟨m + 1, by omega, by go_num, HH.out, HF4.out⟩
                case measure => simp [intOf]; omega
        · have hnlt : ¬ (m : Int) < (l.length : Int) := by omega
          have HE := Lib.hid (by
            unfold edgeB
            rw [← HK.out, ← HV.out, ← HU.out, ← HC.out]
            have e : decide (0 < c) = true := decide_eq_true (by have := HC0.out; omega)
            rw [e, Bool.true_and, List.all_eq_true]
            exact fun j hj => HALL.out j (by have := List.mem_range.1 hj; omega) : edgeB l i = true)
          gi_wp2
          have hF := HF1.out.trans HF.out (by simp [Ext])
          exact ⟨(hF.others (by simp)).from _, FrB.ofFr (hF.mono (by simp)) HNW.out, HFW.out.trans (FrB.ofFr (hF.mono (by simp)) HNW.out), fun x hx => by
            rcases List.mem_append.1 hx with h | h
            · exact HOK.out x h
            · simp at h; subst h; exact HE.out, hF.blk HRES.out (by simp)⟩
  case done =>
    rintro D xs W hD rfl ⟨hf, hok, hres⟩ hK
    have HCV := Lib.hid (conv_good hok)
    have hFW : Fr [] w W := ⟨hf.os.trans HF0.out.os, hf.tape.trans HF0.out.tape, hf.output.trans HF0.out.output, Nat.le_trans HF0.out.size hf.size, fun k hk _ => (hf.block k (by have := HF0.out.size; omega) (by simp; have := HB.out; omega)).trans (HF0.out.block k hk (by simp))⟩
    have hDw : w.heap.size ≤ D := by have := HF0.out.size; omega
    have hDb : D ≠ b + 1 := by intro e; subst e; rw [hres] at hK; cases hK
    have c1 : W.cell? ⟨b + 1, 0, none⟩ = some (.bool false) := cell_blk hres 0
    have f1 : W.frozen? ⟨b + 1, 0, none⟩ = false := frozen_blk hres 0
    have HFW := Lib.hid (hFW.setCell (p := ⟨b + 1, 0, none⟩) (.inr (by have := HB.out; simp; omega)) (.bool true))
    have HK := Lib.hid ((setCell_ne (v := .bool true) (a := ⟨b + 1, 0, none⟩) (by simpa using hDb)).trans hK)
    have HDW := Lib.hid hDw
    have HDB := Lib.hid hDb
    have HRES := Lib.hid (setCell_blk hres 0 (.bool true))
    clear hf hok hres hFW hDw hDb hK
    gi_wp2
    refine ⟨by simp, .inl ⟨_, _, rfl, run_takeDeferred HK.out, ?_⟩⟩
    have t0 : ((W.setCell ⟨b + 1, 0, none⟩ (.bool true)).putObj D (.deferred none)).cell? ⟨b + 1, 0, none⟩ = some (.bool true) := by
      have h := cell_blk HRES.out 0
      rw [World.cell?_of_block (w := W.setCell ⟨b + 1, 0, none⟩ (.bool true)) (World.putObj_heap_other (by have := HDB.out; simp; omega))]
      exact h
    refine ⟨_, by simp [results, Try.results47, go_sem, t0]; rfl, by rw [HCV.out], HFW.out.putObjD HDW.out _⟩
  case stop =>
    rintro D c pre W hD _ ⟨rfl, hf, hcv, hres⟩ hK
    have HCV := Lib.hid hcv
    have hFW : Fr [] w W := ⟨hf.os.trans HF0.out.os, hf.tape.trans HF0.out.tape, hf.output.trans HF0.out.output, Nat.le_trans HF0.out.size hf.size, fun k hk _ => (hf.block k (by have := HF0.out.size; omega) (by simp; have := HB.out; omega)).trans (HF0.out.block k hk (by simp))⟩
    have hDw : w.heap.size ≤ D := by have := HF0.out.size; omega
    have hDb : D ≠ b + 1 := by intro e; subst e; rw [hres] at hK; cases hK
    have HFW := Lib.hid hFW
    have HK := Lib.hid hK
    have HDW := Lib.hid hDw
    have HDB := Lib.hid hDb
    have HRES := Lib.hid hres
    clear hf hres hcv hFW hDw hDb hK
    gi_wp2
    refine ⟨by simp, .inl ⟨_, _, rfl, run_takeDeferred HK.out, ?_⟩⟩
    have t0 : (W.putObj D (.deferred none)).cell? ⟨b + 1, 0, none⟩ = some (.bool false) := by
      have h := cell_blk HRES.out 0
      rw [World.cell?_of_block (w := W) (World.putObj_heap_other (by have := HDB.out; simp; omega))]
      exact h
    refine ⟨_, by simp [results, Try.results47, go_sem, t0]; rfl, by rw [HCV.out], HFW.out.putObjD HDW.out _⟩
end Go.Proofs.Ytlfomhknfpmhbaa
