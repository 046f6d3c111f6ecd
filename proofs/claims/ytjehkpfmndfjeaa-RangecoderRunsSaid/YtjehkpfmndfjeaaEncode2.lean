/- Package rangecoder: Encode. -/
import Derived.Test.YtjehkpfmndfjeaaEncode
namespace Go.Proofs.Ytjehkpfmndfjeaa
open Go.RowKit

/-- a slice of bytes has been made -/
def SliceTo (w : World) (l : List Nat) (e : Ending) (w' : World) : Prop :=
  ∃ oa oc, e = .returned (.slice oa l.length oc) ∧ Seg w' 5 1 oa l.length oc (bts l) ∧ Fr [] w w' ∧ ∀ k ∈ blk oa, w.heap.size ≤ k

theorem zeroEnc (w : World) : (zeroValue 49).run Try.prog w = .ok (.agg (mdV mdz ++ [Value.slice none 0 0]).toArray) w := by kernel_rfl

theorem fill_list : ∀ (l : List Value) (k : Nat) (Z : Array Value), k + l.length ≤ Z.size →
    (l.zipIdx k).foldl (fun (cs : Array Value) (x : Value × Nat) => cs.setIfInBounds x.2 x.1) Z = (Z.toList.take k ++ l ++ Z.toList.drop (k + l.length)).toArray
  | [], k, Z, _ => by simp
  | v :: l, k, Z, h => by
    simp only [List.length_cons] at h
    rw [List.zipIdx_cons, List.foldl_cons, fill_list l (k + 1) _ (by simp; omega)]
    congr 1
    simp only [Array.toList_setIfInBounds, List.length_cons]
    rw [List.take_set, List.drop_set]
    rw [if_pos (by omega)]
    apply List.ext_getElem?
    intro j
    simp only [List.append_assoc, List.getElem?_append, List.length_take, List.length_set, Array.length_toList, List.getElem?_take, List.getElem?_drop, List.getElem?_set, List.length_cons, List.cons_append, List.length_append]
    have e1 : min (k + 1) Z.size = k + 1 := by omega
    have e2 : min k Z.size = k := by omega
    rw [e1, e2]
    by_cases h1 : j < k
    · simp [h1, show j < k + 1 by omega, show k ≠ j by omega]
    · by_cases h2 : j = k
      · subst h2; simp [show j < Z.size by omega]
      · have h3 : ¬ j < k + 1 := by omega
        have h5 : j - k = (j - (k + 1)) + 1 := by omega
        simp only [h1, h3, if_false]
        rw [h5, List.getElem?_cons_succ]
        rw [List.getElem?_append]
        by_cases h4 : j - (k + 1) < l.length
        · simp [h4]
        · rw [if_neg h4, if_neg h4, List.getElem?_drop]
          congr 1; omega

/-- an aggregate laid over the first cells of another one -/
theorem fill_arr (V Z : Array Value) (n : Nat) (hn : V.size = n) (h : n ≤ Z.size) : Array.foldl (fun (cs : Array Value) (x : Value × Nat) => cs.setIfInBounds x.2 x.1) Z V.zipIdx 0 n = (V.toList ++ Z.toList.drop n).toArray := by
  subst hn
  have e : V.zipIdx.size = V.size := by simp
  rw [← e, ← Array.foldl_toList, Array.toList_zipIdx, fill_list _ 0 _ (by simpa using h)]
  simp

theorem Rd.frNew {w wX wr : World} {F : List Nat} {ao : Option Addr} {n : Nat} {xs : List Value} (h : Rd w 1 ao n xs) (h1 : Fr [] w wX) (h2 : Ext [] w F) (h3 : Fr F wX wr) : Rd wr 1 ao n xs :=
  h.fr (h1.trans h3 h2) (by simp)

/-- the encoder has been made: at block p; the variable that leads to it at block p + 1 -/
theorem enc_start {w2 : World} {oa : Option Addr} {oc : Nat} {dg : List Nat} {U : Array Value} (hU : U = (mdV md0 ++ [Value.slice none 0 0]).toArray) (hs : Seg w2 5 1 oa dg.length oc (bts dg)) (o : Obj) :
    IsEnc ((w2.alloc (.cells (U.setIfInBounds 258 (.slice oa dg.length oc)) 49)).alloc o) w2.heap.size (w2.heap.size :: blk oa) md0 dg := by
  have he : U.setIfInBounds 258 (.slice oa dg.length oc) = (mdV md0 ++ [Value.slice oa dg.length oc]).toArray := by
    rw [hU, List.setIfInBounds_toArray, List.set_append_right _ _ (by rw [mdV_length, md0_ok.len]; omega), mdV_length, md0_ok.len]
    rfl
  refine ⟨oa, oc, rfl, fun hm => by have := hs.lt _ hm; omega, ⟨?_, md0_ok.len⟩, (hs.alloc _).alloc _⟩
  rw [he]
  exact alloc_old (alloc_new w2 _)

/-- the loop of Encode -/
def EncInv (wX : World) (p : Nat) (F : List Nat) (l : List Nat) (k : Nat) (wr : World) : Prop :=
  EncTo wX p F (runs md0 ((l.take k).flatMap bitsOf)).2 (digits l.length ++ (runs md0 ((l.take k).flatMap bitsOf)).1) wr
theorem EncInv.rdy (l : List Nat) : (runs md0 (l.flatMap bitsOf)).2.Rdy := runs_rdy _ md0_rdy (flat_ctx l)
theorem runs_snoc (l : List Nat) (k : Nat) (hk : k < l.length) : runs md0 ((l.take (k + 1)).flatMap bitsOf) = ((runs md0 ((l.take k).flatMap bitsOf)).1 ++ (runs (runs md0 ((l.take k).flatMap bitsOf)).2 (bitsOf l[k])).1, (runs (runs md0 ((l.take k).flatMap bitsOf)).2 (bitsOf l[k])).2) := by
  rw [List.take_succ_eq_append_getElem hk, List.flatMap_append, runs_append]
  simp

theorem enc_done {w wX w' : World} {p : Nat} {F : List Nat} {m : Md} {out : List Nat} (h1 : Fr [] w wX) (h2 : Ext [] w F) (h : EncTo wX p F m out w') : ∃ oa oc, Seg w' 5 1 oa out.length oc (bts out) ∧ Fr [] w w' ∧ (∀ k ∈ blk oa, w.heap.size ≤ k) ∧ w'.cell? ⟨p, 258, none⟩ = some (.slice oa out.length oc) := by
  obtain ⟨F', ⟨oa, oc, h3⟩, h4, h5⟩ := h
  have c := h3.head.cx 0
  refine ⟨oa, oc, h3.out, h1.trans h4 h2, fun k hk => ?_, by simpa using c⟩
  rcases h5 k (by rw [h3.blocks]; simp [hk]) with h | h
  · rcases h2 k h with h | h
    · simp at h
    · exact h
  · have := h1.size; omega

set_option maxRecDepth 100000 in
set_option maxHeartbeats 2000000 in
theorem encode_any (w : World) (ao : Option Addr) (cap : Nat) (l : List Nat) (hrd : Rd w 1 ao l.length (bts l)) (hb : Bytes l) (hl : l.length ≤ 1000000) :
    Calls Try.prog 14 #[.slice ao l.length cap] w (SliceTo w (enc l)) := by
  have HRD := Lib.hid hrd
  have HB := Lib.hid hb
  have hz := zeroEnc
  obtain ⟨Z, hZ⟩ : ∃ Z, Z = (mdV mdz ++ [Value.slice none 0 0]).toArray := ⟨_, rfl⟩
  rw [← hZ] at hz
  have HZ := Lib.hid hZ
  obtain ⟨V, hV⟩ : ∃ V, V = (mdV md0).toArray := ⟨_, rfl⟩
  have HV := Lib.hid hV
  have hZs : Z.size = 259 := by
    rw [hZ, List.size_toArray, List.length_append, mdV_length]
    show (List.replicate 256 0).length + 2 + 1 = 259
    rw [List.length_replicate]
  have hVs : V.size = 258 := by rw [hV, List.size_toArray, mdV_length, md0_ok.len]
  have hfold : Array.foldl (fun (cs : Array Value) (x : Value × Nat) => cs.setIfInBounds x.2 x.1) Z V.zipIdx 0 258 = (mdV md0 ++ [Value.slice none 0 0]).toArray := by
    rw [fill_arr V Z 258 hVs (by omega), hZ, hV]
    congr 2
  obtain ⟨U, hU⟩ : ∃ U, U = (mdV md0 ++ [Value.slice none 0 0]).toArray := ⟨_, rfl⟩
  rw [← hU] at hfold
  have hUs : U.size = 259 := by rw [hU, List.size_toArray, List.length_append, mdV_length, md0_ok.len]; rfl
  have HU := Lib.hid hU
  have hmf : ∀ (fn : Fn) (first cp : Array Value) (w : World), (Instr.makeFunc fn first cp).run Try.prog w = .ok (.func fn first cp) w := fun _ _ _ _ => rfl
  have HN := Lib.hid newmodel_any
  unfold ModelV at HN
  rw [← hV] at HN
  clear hrd hb hZ hV hU
  by_cases hl0 : l.length = 0
  · have hz0 : ((l.length : Int) == 0) = true := beq_iff_eq.2 (by omega)
    have HL := Lib.hid hl0
    clear hl0 hmf
    go_enter Try.func14, Try.ntmps14
    go_wp2_with fail
    refine (HN.out _).mono ?_
    rintro e w1 ⟨rfl, hf1⟩
    go_wp2_with fail
    refine (applen_any _ l.length (by omega)).mono ?_
    rintro e w2 ⟨oa, oc, rfl, hs2, hf2, hn2⟩
    have HS2 := Lib.hid hs2
    have HF2 := Lib.hid (hf1.trans hf2 (by simp [Ext]))
    have HN2 := Lib.hid (fun k hk => Nat.le_trans hf1.size (hn2 k hk))
    clear hs2 hf1 hf2 hn2
    go_wp2_with fail
    go_ret
    obtain rfl : l = [] := List.eq_nil_of_length_eq_zero HL.out
    have he : enc [] = digits ([] : List Nat).length := by simp [enc]
    rw [he]
    exact ⟨oa, oc, rfl, (HS2.out.alloc _).alloc _, (HF2.out.alloc _).alloc _, HN2.out⟩
  · have hz0 : ((l.length : Int) == 0) = false := beq_eq_false_iff_ne.2 (by omega)
    have HL := Lib.hid hl0
    clear hl0
    go_enter Try.func14, Try.ntmps14
    go_wp2_with fail
    refine (HN.out _).mono ?_
    rintro e w1 ⟨rfl, hf1⟩
    go_wp2_with fail
    refine (applen_any _ l.length (by omega)).mono ?_
    rintro e w2 ⟨oa, oc, rfl, hs2, hf2, hn2⟩
    have HS2 := Lib.hid hs2
    have HF2 := Lib.hid (hf1.trans hf2 (by simp [Ext]))
    have HN2 := Lib.hid (fun k hk => Nat.le_trans hf1.size (hn2 k hk))
    have HE := Lib.hid fun (o : Obj) => enc_start HU.out hs2 o
    have HEB := Lib.hid (fun (o1 o2 : Obj) => (by have := alloc_new (w2.alloc o1) o2; rwa [World.size_alloc] at this : ((w2.alloc o1).alloc o2).heap[w2.heap.size + 1]? = some o2))
    have HX := Lib.hid (fun k hk => by
      simp only [List.mem_cons] at hk
      rcases hk with rfl | hk
      · right; exact (hf1.trans hf2 (by simp [Ext])).size
      · right; exact Nat.le_trans hf1.size (hn2 k hk) : Ext [] w (w2.heap.size :: blk oa))
    have HP1 := Lib.hid (fun hm => by
      simp only [List.mem_cons] at hm
      rcases hm with h | h
      · omega
      · have := hs2.lt _ h; omega : w2.heap.size + 1 ∉ w2.heap.size :: blk oa)
    clear hs2 hf1 hf2 hn2
    obtain ⟨p, hp⟩ : ∃ p, p = w2.heap.size := ⟨_, rfl⟩
    rw [← hp] at HE HEB HX HP1
    obtain ⟨F, hF⟩ : ∃ F, F = p :: blk oa := ⟨_, rfl⟩
    rw [← hF] at HE HX HP1
    clear hF
    go_wp2_with fail
    obtain ⟨wX, hwX⟩ : ∃ wX, wX = ((w2.alloc (.cells (U.setIfInBounds 258 (.slice oa (digits l.length).length oc)) 49)).alloc (.cells #[.pointer (some ⟨w2.heap.size, 0, none⟩)] 42)) := ⟨_, rfl⟩
    rw [← hwX]
    have HE1 := Lib.hid (hwX ▸ HE.out _ : IsEnc wX p F md0 (digits l.length))
    have HEB1 := Lib.hid (hwX ▸ HEB.out _ _ : wX.heap[p + 1]? = some (.cells #[.pointer (some ⟨w2.heap.size, 0, none⟩)] 42))
    have HFX := Lib.hid (hwX ▸ (HF2.out.alloc _).alloc _ : Fr [] w wX)
    rw [← hp] at HEB1 ⊢
    clear hwX hp HE HEB HS2 HF2 HN2 hfold hz hUs hZs hVs
    go_loopw [21] (fun i wr => ∃ k : Nat, k ≤ l.length ∧ i = .int .i64 k ∧ EncInv wX p F l k wr) (fun i _ => l.length - (intOf i).toNat)
    case atStart => exact ⟨0, Nat.zero_le _, rfl, by unfold EncInv; simp only [List.take_zero, List.flatMap_nil, runs, List.append_nil]; exact HE1.out.to⟩
    case round =>
      obtain ⟨k, hk, rfl, hinv⟩ := hrel
      unfold EncInv at hinv
      obtain ⟨F2, h2, hf2, hx2⟩ := hinv
      have hebF : p + 1 ∉ F2 := fun hm => by
        rcases hx2 _ hm with h | h
        · exact HP1.out h
        · have := lt_of_blk HEB1.out; omega
      have heb := hf2.blk HEB1.out HP1.out
      by_cases hkl : k < l.length
      · obtain ⟨g, off, rfl, _, hc⟩ := (HRD.out.frNew HFX.out HX.out hf2).at (by omega)
        have cx : wr.cell? ⟨g, off + k, none⟩ = some (.int .u8 ((l[k] : Nat) : Int)) := by rw [hc k (by omega), bts_get, List.getElem?_eq_getElem hkl]; rfl
        have hxb : l[k] < 256 := HB.out _ (List.getElem_mem hkl)
        obtain ⟨x, hx⟩ : ∃ x, x = l[k] := ⟨_, rfl⟩
        rw [← hx] at cx hxb
        have HRS := Lib.hid (runs_snoc l k hkl)
        rw [← hx] at HRS
        have H2 := Lib.hid h2
        have HF2 := Lib.hid hf2
        have HX2 := Lib.hid hx2
        have HHEB := Lib.hid heb
        have HEF := Lib.hid hebF
        have hki : (k : Int) < (l.length : Int) := by omega
        have hol : (digits l.length ++ (runs md0 ((l.take k).flatMap bitsOf)).1).length ≤ 1000000000 := by
          have h1 := runs_len ((l.take k).flatMap bitsOf) md0
          have h2 := digits_len l.length 8 (by omega)
          rw [flat_length, List.length_take] at h1
          rw [List.length_append]; omega
        have HOL := Lib.hid hol
        have HRY := Lib.hid (EncInv.rdy (l.take k))
        clear h2 hf2 hx2 heb hebF hc hx hol
        go_wp2_with fail
        have hcall := walkenc_any (cb := wr.heap.size) (eb := p + 1) (H2.out.fr ((Fr.refl [] wr).alloc (.cells #[.int .u8 (x : Int)] 5)) (by simp)) HRY.out x hxb (by rw [World.cell?_alloc_new]; rfl) (cell_blk (alloc_old HHEB.out) 0) (fun hm => by have := H2.out.lt _ hm; omega) HEF.out HOL.out
        have HCALL := Lib.hid hcall
        clear hcall
        refine HCALL.out.mono ?_
        rintro e w5 ⟨v, rfl, hp5⟩
        have HP5 := Lib.hid hp5
        clear hp5
        go_wp2_with fail
        go_roundw
        case rel =>
          refine ⟨k + 1, by omega, by go_num, ?_⟩
          unfold EncInv
          rw [HRS.out]
          simp only
          rw [← List.append_assoc]
          obtain ⟨F5, h5, hf5, hx5⟩ := HP5.out
          exact EncTo.trans HF2.out HX2.out ⟨F5, h5, ((Fr.refl F2 wr).alloc _).trans hf5 (Ext.refl _ _), fun k hk => by
            rcases hx5 k hk with h | h
            · exact .inl h
            · simp at h; exact .inr (by omega)⟩
        case measure => simp [intOf]; omega
      · have hke : l.take k = l := List.take_of_length_le (by omega)
        rw [hke] at h2
        have H2 := Lib.hid h2
        have HF2 := Lib.hid hf2
        have HX2 := Lib.hid hx2
        have c1 := cell_blk heb 0
        have HRY := Lib.hid (EncInv.rdy l)
        have hol : (digits l.length ++ (runs md0 (l.flatMap bitsOf)).1).length ≤ 1099511627776 := by
          have h1 := runs_len (l.flatMap bitsOf) md0
          have h2 := digits_len l.length 8 (by omega)
          rw [flat_length] at h1
          rw [List.length_append]; omega
        have hcall := finish_any H2.out (by have := HRY.out.1.hi; have := HRY.out.2; omega) hol
        have HCALL := Lib.hid hcall
        have HHEB := Lib.hid heb
        have HEF := Lib.hid hebF
        clear h2 hf2 hx2 heb hebF hke hol hcall
        go_wp2_with fail
        refine HCALL.out.mono ?_
        rintro e w5 ⟨rfl, hp5⟩
        have heb5 : w5.cell? ⟨p + 1, 0, none⟩ = some (.pointer (some ⟨p, 0, none⟩)) := by
          obtain ⟨F5, h5, hf5, hx5⟩ := hp5
          exact cell_blk (hf5.blk HHEB.out HEF.out) 0
        have henc : enc l = digits l.length ++ (runs md0 (l.flatMap bitsOf)).1 ++ tail4 (runs md0 (l.flatMap bitsOf)).2.lo := by
          unfold enc
          rw [if_neg (fun h => HL.out (by rw [h]; rfl)), emit_runs, List.append_assoc]
        obtain ⟨oa5, oc5, s5, f5, n5, c5⟩ := enc_done HFX.out HX.out (EncTo.trans HF2.out HX2.out hp5)
        rw [← henc] at s5 c5
        have HS5 := Lib.hid s5
        have HF5 := Lib.hid f5
        have HN5 := Lib.hid n5
        clear hp5 s5 f5 n5 henc HCALL
        go_wp2_with fail
        go_ret
        exact ⟨oa5, oc5, rfl, HS5.out, HF5.out, HN5.out⟩
end Go.Proofs.Ytjehkpfmndfjeaa
