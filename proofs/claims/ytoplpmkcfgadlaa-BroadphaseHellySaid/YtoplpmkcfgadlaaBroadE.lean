/- Package broadphase: ends: the end points in their order. -/
import Derived.Test.YtoplpmkcfgadlaaBroadC
import Derived.Test.YtoplpmkcfgadlaaMem3
namespace Go.Proofs.Ytoplpmkcfgadlaa
open Go.RowKit Go.Sort Go.Lib Go.Shelf

theorem run_store_func {P : Program} {w : World} {a : Addr} {m : Mode} (f : Fn) (x b : Array Value) : (store a (.func f x b) m).run P w = stored P w a (.func f x b) m := run_store P w a _ m rfl
attribute [local go_sem] run_store_func
def nI (j : Nat) : Int := (j : Int)
def rowK (m k : Nat) : List Int := (List.range k).map nI ++ List.replicate (m - k) 0
theorem rowK_len (m k : Nat) (h : k ≤ m) : (rowK m k).length = m := by unfold rowK; simp; omega
theorem rowK_set (m k : Nat) (h : k < m) : (rowK m k).set k (k : Int) = rowK m (k + 1) := by
  unfold rowK
  have e1 : ((List.range k).map nI).length = k := by simp
  rw [List.set_append_right _ _ (by omega), e1, Nat.sub_self, show m - k = (m - (k + 1)) + 1 by omega, List.replicate_succ, List.set_cons_zero, List.range_succ, List.map_append, List.append_assoc]
  rfl
theorem rowK_end (m : Nat) : rowK m m = (List.range m).map nI := by unfold rowK; simp
def encF {m : Nat} (x : Fin m) : Value := .int .i64 (x.val : Int)
def finL (m : Nat) : List (Fin m) := (List.range m).pmap (fun x h => ⟨x, h⟩) (fun x hx => List.mem_range.1 hx)
theorem finL_val (m : Nat) : (finL m).map Fin.val = List.range m := by
  unfold finL
  rw [List.map_pmap]
  simp
theorem finL_len (m : Nat) : (finL m).length = m := by have := congrArg List.length (finL_val m); simpa using this
theorem enc_flat {m : Nat} (t : List (Fin m)) : t.flatMap (fun x => [encF x]) = ints ((t.map Fin.val).map nI) := by
  induction t with
  | nil => rfl
  | cons x t ih => rw [List.flatMap_cons, ih]; rfl
def cfF (bs : List BX) (a b : Fin (2 * bs.length)) : Int := cfB bs a.val b.val
theorem ltF (bs : List BX) (a b : Fin (2 * bs.length)) : ltOf (cfF bs) a b = decide (cfB bs a.val b.val < 0) := rfl
theorem swoF (bs : List BX) : SWO (ltOf (cfF bs)) := {
  irrefl := fun x => by rw [ltF, decide_eq_false_iff_not, cfB_lt]; unfold before; omega
  trans := fun x y z h1 h2 => by rw [ltF, decide_eq_true_eq, cfB_lt] at *; unfold before at *; omega
  ntrans := fun x y z h1 h2 => by rw [ltF, decide_eq_false_iff_not, cfB_lt] at *; unfold before at *; omega }

def EndsTo (w : World) (bs : List BX) (e : Ending) (w' : World) : Prop := ∃ eb ec es, e = .returned (.slice (some ⟨eb, 0, none⟩) es.length ec) ∧ SrtB bs es ∧ Seg w' 3 1 (some ⟨eb, 0, none⟩) es.length ec (ints (es.map nI)) ∧ Fr [] w w' ∧ w.heap.size ≤ eb

/-- the sort of the end points -/
theorem sort_ends (W : World) (pp pb bc b c : Nat) (bo : Option Addr) (bs : List BX) (hpp : W.cell? ⟨pp, 0, none⟩ = some (.func (.func 32) #[] #[.pointer (some ⟨pb, 0, none⟩)])) (hpb : W.cell? ⟨pb, 0, none⟩ = some (.slice bo bs.length bc)) (hrd : Rd W 4 bo bs.length (bs.flatMap BX.cl)) (hl : bs.length ≤ 1000)
    (hs : Seg W 3 1 (some ⟨b, 0, none⟩) (2 * bs.length) c (ints ((List.range (2 * bs.length)).map nI))) (h1 : pp ≠ b) (h2 : pb ≠ b) (h3 : ∀ k ∈ blk bo, k ≠ b) (hlp : pp < W.heap.size) (hlb : pb < W.heap.size) :
    Calls Try.prog 33 #[.slice (some ⟨b, 0, none⟩) (2 * bs.length) c, .func (.func 34) #[] #[.pointer (some ⟨pp, 0, none⟩)]] W fun r w' => r = .returned (.tuple #[]) ∧ ∃ es, SrtB bs es ∧ es.length = 2 * bs.length ∧ Seg w' 3 1 (some ⟨b, 0, none⟩) es.length c (ints (es.map nI)) ∧ Fr [b] W w' := by
  rcases Nat.eq_zero_or_pos bs.length with h0 | h0
  · have hbs : bs = [] := List.eq_nil_of_length_eq_zero h0
    subst hbs
    refine (AnyF.slices_SortFunc_none (P := Try.prog) (ρ := sortI_ren) { sortI with } (some ⟨b, 0, none⟩) c _ W).mono ?_
    rintro r w' ⟨k1, rfl⟩
    exact ⟨k1, [], ⟨by simp, List.Pairwise.nil⟩, rfl, hs, Fr.refl _ _⟩
  · haveI : Inhabited (Fin (2 * bs.length)) := ⟨⟨0, by omega⟩⟩
    have e1 : ints ((List.range (2 * bs.length)).map nI) = (finL (2 * bs.length)).flatMap (fun x => [encF x]) := by rw [enc_flat, finL_val]
    rw [e1] at hs
    have hs' : Seg W 3 1 (some ⟨b, 0, none⟩) (finL (2 * bs.length)).length c ((finL (2 * bs.length)).flatMap fun x => [encF x]) := by rw [finL_len]; exact hs
    have hc := sort1_seg sortI encF (fun _ => rfl) (cfF bs) (swoF bs) 34 #[.pointer (some ⟨pp, 0, none⟩)] W
      (enters_of Try.func34 (by kernel_rfl) rfl) hs' (by rw [finL_len]; omega)
      (fun m os dk hdk x y => by
        have hf := (seg_of_sort (fun x => [encF x]) 1 (fun _ => rfl) (by omega) hs' m dk os hdk).2
        rw [← sortWorld_one] at hf
        have k1 : (sortWorld encF W b 0 m dk os).cell? ⟨pp, 0, none⟩ = W.cell? ⟨pp, 0, none⟩ := cell_of_blk (hf.block pp hlp (by simpa using h1)) 0
        have k2 : (sortWorld encF W b 0 m dk os).cell? ⟨pb, 0, none⟩ = W.cell? ⟨pb, 0, none⟩ := cell_of_blk (hf.block pb hlb (by simpa using h2)) 0
        exact ends2_any _ pp pb bc bo bs (k1.trans hpp) (k2.trans hpb) (hrd.fr hf (fun k hk => by simpa using h3 k hk)) hl x.val y.val x.isLt y.isLt)
    rw [finL_len] at hc
    refine Calls.mono hc ?_
    rintro r w' ⟨k1, t', k2, k3, k4, k5⟩
    have hp : (t'.map Fin.val).Perm (List.range (2 * bs.length)) := by
      have := k2.map Fin.val
      rwa [finL_val] at this
    have hlen : (t'.map Fin.val).length = 2 * bs.length := by have := hp.length_eq; simpa using this
    refine ⟨k1, t'.map Fin.val, srt_of hp ?_, hlen, ?_, k5⟩
    · rw [List.pairwise_map]
      refine k3.imp fun {a b} hab => ?_
      rw [ltF, decide_eq_false_iff_not, cfB_lt] at hab
      exact hab
    · rw [enc_flat] at k4
      rw [List.length_map]
      exact k4

set_option maxRecDepth 100000 in
set_option maxHeartbeats 4000000 in
theorem ends_any (w : World) (bo : Option Addr) (bc : Nat) (bs : List BX) (hrd : Rd w 4 bo bs.length (bs.flatMap BX.cl)) (hlt : ∀ k ∈ blk bo, k < w.heap.size) (hl : bs.length ≤ 1000) :
    Calls Try.prog 26 #[.slice bo bs.length bc] w (EndsTo w bs) := by
  obtain ⟨m, hm⟩ : ∃ m, m = 2 * bs.length := ⟨_, rfl⟩
  have HM := Lib.hid hm
  have hm2 : m ≤ 2000 := by omega
  have hmk := make_ints m (by omega)
  have hwm : IntKind.i64.wrap (2 * (bs.length : Int)) = (m : Int) := by rw [IntWalk.i64_in _ (by omega)]; omega
  obtain ⟨pb, hpb⟩ : ∃ b, b = w.heap.size := ⟨_, rfl⟩
  obtain ⟨w1, hw1⟩ : ∃ u, u = w.alloc (.cells #[.slice bo bs.length bc] 27) := ⟨_, rfl⟩
  have HB1 := Lib.hid (by rw [hw1, hpb]; exact alloc_new _ _ : w1.heap[pb]? = some (.cells #[.slice bo bs.length bc] 27 (0, 0)))
  have HF1 := Lib.hid (by rw [hw1]; exact (Fr.refl [] w).alloc _ : Fr [] w w1)
  have HPB := Lib.hid hpb
  have HW1 := Lib.hid hw1
  have HRD := Lib.hid hrd
  have HLT := Lib.hid hlt
  clear hm hrd hlt hpb hw1
  go_enter Try.func26, Try.ntmps26
  go_upto_region 1 with fail
  rw [← HPB.out, ← HW1.out]
  have c0 : w1.cell? ⟨pb, 0, none⟩ = some (.slice bo bs.length bc) := cell_blk HB1.out 0
  obtain ⟨b, hb⟩ : ∃ b, b = w1.heap.size := ⟨_, rfl⟩
  have HB := Lib.hid hb
  have HI := Lib.hid (⟨by rw [hb]; exact alloc_new w1 _, (Fr.refl [] w1).alloc _⟩ : (w1.alloc (row (rowK m 0))).heap[b]? = some (row (rowK m 0)) ∧ Fr [] w1 (w1.alloc (row (rowK m 0))))
  have h0 : List.replicate m (0 : Int) = rowK m 0 := by unfold rowK; simp
  rw [h0] at hmk
  clear hb h0
  go_upto_region 2 with fail
  rw [← HB.out]
  clear c0
  go_wp2_with fail
  go_loopw [12] (fun iv wr => ∃ i : Nat, iv = .int .i64 (i : Int) ∧ i ≤ m ∧ wr.heap[b]? = some (row (rowK m i)) ∧ Fr [] w1 wr) (fun iv _ => m - (intOf iv).toNat)
  case atStart => exact ⟨0, rfl, by omega, HI.out.1, HI.out.2⟩
  case round =>
    clear HI
    obtain ⟨i, rfl, hi, hrow, hf⟩ := hrel
    by_cases hil : i < m
    · have hlt : (i : Int) < (m : Int) := by omega
      have wi : IntKind.i64.wrap ((i : Int) + 1) = (i : Int) + 1 := IntWalk.i64_in _ (by omega)
      have cb : wr.cell? ⟨b, i, none⟩ = some (.int .i64 ((rowK m i)[i]'(by rw [rowK_len m i hi]; exact hil))) := row_cell hrow _
      have fb : wr.frozen? ⟨b, i, none⟩ = false := row_frozen hrow i
      have HR := Lib.hid hrow
      have HF := Lib.hid hf
      clear hrow hf
      go_wp2_with fail
      go_roundw
      case rel =>
        refine ⟨i + 1, by go_num, by omega, ?_, ?_⟩
        · have h := row_set HR.out i (i : Int)
          rw [rowK_set m i hil] at h
          exact h
        · exact HF.out.setCell (p := ⟨b, i, none⟩) (.inr (by rw [HB.out]; exact Nat.le_refl _)) _
      case measure => simp [intOf]; omega
    · have hlt : ¬ (i : Int) < (m : Int) := by omega
      have hie : i = m := by omega
      subst hie
      have HR := Lib.hid hrow
      have HF := Lib.hid hf
      clear hrow hf
      go_upto_region 8 with fail
      obtain ⟨pp, hpp⟩ : ∃ k, k = wr.heap.size := ⟨_, rfl⟩
      obtain ⟨w2, hw2⟩ : ∃ u, u = wr.alloc (.cells #[.func (.func 32) #[] #[.pointer (some ⟨pb, 0, none⟩)]] 53) := ⟨_, rfl⟩
      rw [← hpp, ← hw2]
      have hb2 : w2.heap[pp]? = some (.cells #[.func (.func 32) #[] #[.pointer (some ⟨pb, 0, none⟩)]] 53 (0, 0)) := by rw [hw2, hpp]; exact alloc_new _ _
      have hf2 : Fr [] wr w2 := by rw [hw2]; exact (Fr.refl [] wr).alloc _
      have hr2 := hf2.blk HR.out (by simp)
      have hb1 := (HF.out.trans hf2 (by simp [Ext])).blk HB1.out (by simp)
      have hlb1 := lt_of_blk HB1.out
      have hbw := HB.out
      have hrb := lt_of_blk HR.out
      have hfw1 := HF1.out.size
      rw [rowK_end] at hr2
      have hseg := row_seg hr2 (by rw [List.length_map, List.length_range]; unfold maxLen; omega)
      rw [List.length_map, List.length_range] at hseg
      have hs2 := sort_ends w2 pp pb bc b i bo bs (cell_blk hb2 0) (cell_blk hb1 0) (HRD.out.fr ((HF1.out.trans HF.out (by simp [Ext])).trans hf2 (by simp [Ext])) (by simp)) hl (by rw [← HM.out]; exact hseg) (by omega) (by omega) (fun k hk => by have := HLT.out k hk; omega) (lt_of_blk hb2) (lt_of_blk hb1)
      rw [← HM.out] at hs2
      have HS2 := Lib.hid hs2
      have HFA := Lib.hid (((HF1.out.trans HF.out (by simp [Ext])).trans hf2 (by simp [Ext])))
      have HGE := Lib.hid (by omega : w.heap.size ≤ b)
      clear hb2 hf2 hr2 hb1 hlb1 hbw hrb hfw1 hseg hs2 hpp hw2 hlt
      go_wp2_with fail
      refine HS2.out.mono ?_
      rintro r w3 ⟨rfl, es, he1, he2, he3, he4⟩
      have HE := Lib.hid (⟨he1, he3, HFA.out.trans he4 (fun k hk => by simp at hk; rw [hk]; exact .inr HGE.out)⟩ : SrtB bs es ∧ Seg w3 3 1 (some ⟨b, 0, none⟩) es.length i (ints (es.map nI)) ∧ Fr [] w w3)
      have HL := Lib.hid he2
      clear he1 he2 he3 he4 HS2
      go_wp2_with fail
      go_ret
      refine ⟨b, i, es, ?_, HE.out.1, HE.out.2.1, HE.out.2.2, HGE.out⟩
      rw [HL.out]; rfl
end Go.Proofs.Ytoplpmkcfgadlaa
