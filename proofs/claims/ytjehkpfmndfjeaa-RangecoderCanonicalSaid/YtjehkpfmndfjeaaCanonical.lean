/- RangecoderCanonical returns true. -/
import Derived.Laws.Closers25b
import Derived.Deep.DeepCutAuto
import Derived.Deep.RegionHeld3
import Derived.Test.YtjehkpfmndfjeaaLaw29c
import Derived.Test.YtjehkpfmndfjeaaMalf
import Derived.Test.YtjehkpfmndfjeaaPrefix
import Derived.Test.YtjehkpfmndfjeaaDistinct
namespace Go.Proofs.Ytjehkpfmndfjeaa
open Go.RowKit

theorem readLen_err : ∀ (k i n : Nat) (l : List Nat), (readLen k i n l).2.2 = 0 ∨ (readLen k i n l).2.2 = 7 ∨ (readLen k i n l).2.2 = 8
  | 0, _, _, _ => .inr (.inl rfl)
  | _ + 1, _, _, [] => .inr (.inl rfl)
  | k + 1, i, n, x :: r => by
    rw [readLen]
    split
    · split
      · exact .inr (.inr rfl)
      · exact .inl rfl
    · exact readLen_err k (i + 1) _ r

theorem dec_cases (b : List Nat) : ∃ d e, dec b = (d, e) ∧ Bytes d ∧ d.length ≤ 4000 ∧
    ((e = 0 ∧ malR (readLen 5 0 0 b) = 0 ∧ enc d = b) ∨ (d = [] ∧ ((malR (readLen 5 0 0 b) = 2 ∧ e = 2) ∨ (malR (readLen 5 0 0 b) = 7 ∧ e = 7) ∨ (malR (readLen 5 0 0 b) = 8 ∧ e = 8) ∨ (malR (readLen 5 0 0 b) = 0 ∧ e = 8)))) := by
  unfold dec malR
  by_cases h0 : (readLen 5 0 0 b).2.2 = 0
  · rw [if_pos h0, if_pos h0]
    by_cases h4 : 4000 < (readLen 5 0 0 b).1
    · rw [if_pos h4, if_pos h4]
      exact ⟨_, _, rfl, by intro x hx; simp at hx, by simp, .inr ⟨rfl, .inl ⟨rfl, rfl⟩⟩⟩
    · rw [if_neg h4, if_neg h4]
      by_cases he : enc ((ds0 (readLen 5 0 0 b).2.1).bytes (readLen 5 0 0 b).1) = b
      · rw [if_pos he]
        exact ⟨_, _, rfl, Ds.bytes_bytes _ _, by rw [Ds.bytes_length]; omega, .inl ⟨rfl, rfl, he⟩⟩
      · rw [if_neg he]
        exact ⟨_, _, rfl, by intro x hx; simp at hx, by simp, .inr ⟨rfl, .inr (.inr (.inr ⟨rfl, rfl⟩))⟩⟩
  · rw [if_neg h0, if_neg h0]
    refine ⟨_, _, rfl, by intro x hx; simp at hx, by simp, .inr ⟨rfl, ?_⟩⟩
    rcases readLen_err 5 0 0 b with h | h | h
    · exact absurd h h0
    · exact .inr (.inl ⟨h, h⟩)
    · exact .inr (.inr (.inl ⟨h, h⟩))

theorem same_refl (w : World) (ao bo : Option Addr) (ca cb : Nat) (a : List Nat) (ha : Rd w 1 ao a.length (bts a)) (hb : Rd w 1 bo a.length (bts a)) :
    Calls Try.prog 13 #[.slice ao a.length ca, .slice bo a.length cb] w fun e w' => e = .returned (.bool true) ∧ Fr [] w w' := by
  have h := same_any w ao bo ca cb a a ha hb
  simpa using h

section
open Go
variable {P : Program} {l : List Oper} {Q : Exit → Act → World → Prop} {md : Region.Mode} {S : World → Prop}
theorem wpAnyH_takeL {i : Nat} {oi : Oper} {v : Value} {fuel : Nat} {listed : Array Bool} {a : Act} {w : World} (hi : l[i]? = some oi)
    (hs : Region.noSelect l.toArray = true) (hf : Region.free md l.toArray listed i = true) (hr : (Region.ready md l.toArray listed).contains i = true)
    (hQ : ∀ c a w, Q (.panic c) (a.put oi.dst v) w → Q (.panic c) a w) (hy : YieldsIf P l.toArray S oi v a) (hS : S w)
    (h : wpAnyH P md l.toArray Q S fuel (listed.setIfInBounds i true) (a.put oi.dst v) w) : wpAnyH P md l.toArray Q S (fuel + 1) listed a w :=
  wpAnyH_take (by simpa using hi) hs hf hr hQ hy hS h
theorem AllReadyH.consL {fuel : Nat} {listed : Array Bool} {a : Act} {w : World} {i : Nat} {o : Oper} {rs : List Nat} (ho : l[i]? = some o)
    (h : ∀ K' : Act → World → Prop, Shut (∀ a w, S w → (S w → wpAnyH P md l.toArray Q S fuel (listed.setIfInBounds i true) a w) → K' a w) → if Region.wanted o (yielded l.toArray a.tmps) = true then Oper.wp P o a w K' Q else K' (a.put o.dst undef) w)
    (hs : AllReadyH P md l.toArray Q S fuel listed a w rs) : AllReadyH P md l.toArray Q S fuel listed a w (i :: rs) := AllReadyH.cons (by simpa using ho) h hs
end

/-- the i-th of the two slices that are tried -/
def Tried (wb : World) (B : Nat) (i : Nat) : Prop := ∃ (a : Option Addr) (l : List Nat) (c : Nat), wb.cell? ⟨B, i, none⟩ = some (.slice a l.length c) ∧ Src wb a c l ∧ ∀ k ∈ blk a, k < wb.heap.size

set_option maxRecDepth 100000 in
set_option maxHeartbeats 4000000 in
theorem canon_walk (w : World) (ro bo : Option Addr) (cr cb : Nat) (r b : List Nat) (at_ byv : Int) (sr : Src w ro cr r) (sb : Src w bo cb b) (hat : bounded at_) (hby : 0 ≤ byv ∧ byv < 256) :
    Calls Try.prog 5 #[.slice ro r.length cr, .slice bo b.length cb, .int .i64 at_, .int .u8 byv] w fun e w' => e = .returned (.bool true) ∧ Fr [] w w' := by
  obtain ⟨X, hX⟩ : ∃ X, X = b.take 40 := ⟨_, rfl⟩
  obtain ⟨R, hR⟩ : ∃ R, R = r.take 40 := ⟨_, rfl⟩
  have xl : X.length ≤ 40 := by rw [hX, List.length_take]; omega
  have rl : R.length ≤ 40 := by rw [hR, List.length_take]; omega
  have XB := Lib.hid (by rw [hX]; exact sb.bytes.take 40 : Bytes X)
  have RB := Lib.hid (by rw [hR]; exact sr.bytes.take 40 : Bytes R)
  have HFB := Lib.hid (hX ▸ few_any w bo cb b 40 sb (by omega) : Calls Try.prog 11 #[.slice bo b.length cb, .int .i64 40] w (SliceTo w X))
  have HFR := Lib.hid fun (u : World) (hf : Fr [] w u) => (hR ▸ few_any u ro cr r 40 (sr.old hf) (by omega) : Calls Try.prog 11 #[.slice ro r.length cr, .int .i64 40] u (SliceTo u R))
  obtain ⟨E, hE⟩ : ∃ E, E = enc X := ⟨_, rfl⟩
  have EB := Lib.hid (by rw [hE]; exact enc_bytes X : Bytes E)
  have ep : 0 < E.length := by rw [hE]; exact enc_pos X
  have el : E.length ≤ 6 + 12 * X.length := by rw [hE]; exact (enc_size_300 (by omega)).2.1
  have HEN := Lib.hid (fun (u : World) (ao : Option Addr) (c : Nat) (h : Src u ao c X) => (hE ▸ encode_src h (by omega) : Calls Try.prog 14 #[.slice ao X.length c] u (SliceTo u E)))
  obtain ⟨k, hk, hka, hAR⟩ := around_nat at_ E.length hat (by omega) (by omega)
  have HAR := Lib.hid hAR
  have hq : ((E.length : Int) == 0) = false := by simp; intro h; simp [h] at ep
  clear sb sr hX hR hE hka hAR hat
  go_enter Try.func5, Try.ntmps5
  go_wp2_with fail
  refine HFB.out.mono ?_
  rintro e w1 ⟨xa, xc, rfl, sx, f1, n1⟩
  have F1 := Lib.hid f1
  have SX1 := Lib.hid (sx.src XB.out)
  clear sx f1 n1
  go_wp2_with fail
  refine (HEN.out _ _ _ SX1.out).mono ?_
  rintro e w2 ⟨ya, yc, rfl, sy, f2, n2⟩
  have F2 := Lib.hid (F1.out.trans f2 (by simp [Ext]))
  have SY2 := Lib.hid sy
  have N2 := Lib.hid (fun k hk => by have := n2 k hk; have := F1.out.size; omega : ∀ k ∈ blk ya, w.heap.size ≤ k)
  clear sy f2 n2 SX1 F1
  go_wp2_with fail
  refine (HAR.out _).mono ?_
  rintro e w3 ⟨rfl, rfl⟩
  obtain ⟨g, off, rfl, cz⟩ := SY2.out.cell0 hk
  have fz : w2.frozen? ⟨g, off + k, none⟩ = false := by
    obtain ⟨g', off', cur, ha, hg, _, _, hf⟩ := SY2.out.at (by have := SY2.out.2.2.1; omega)
    cases ha; exact hf _
  obtain ⟨x, hx⟩ : ∃ x, x = E[k] := ⟨_, rfl⟩
  rw [← hx] at cz
  have hxb : x < 256 := by rw [hx]; exact EB.out _ (List.getElem_mem hk)
  obtain ⟨v, hv, hvb⟩ := xor_byte (x : Int) byv
  have hki : (k : Int) < (E.length : Int) := by omega
  have HSTO := Lib.hid (SY2.out.store (i := k) (by omega) (.int .u8 (v : Int)))
  have HF4 := Lib.hid ((Fr.refl (blk (some ⟨g, off, none⟩)) w2).setCell (p := ⟨g, off + k, none⟩) (.inl (by simp [blk])) (.int .u8 (v : Int)))
  clear hx
  have F4 := Lib.hid (F2.out.trans HF4.out (fun k hk => .inr (N2.out k hk)))
  obtain ⟨Z, hZ⟩ : ∃ Z, Z = E.set k v := ⟨_, rfl⟩
  have hZl : Z.length = E.length := by rw [hZ, List.length_set]
  have ZB := Lib.hid (by rw [hZ]; exact EB.out.set k v hv : Bytes Z)
  have SZ4 := Lib.hid (by
    have h := HSTO.out
    rw [show (bts E).set k (.int .u8 (v : Int)) = bts Z by rw [hZ]; simp [bts]] at h
    exact h : Seg (w2.setCell ⟨g, off + k, none⟩ (.int .u8 (v : Int))) 5 1 (some ⟨g, off, none⟩) E.length yc (bts Z))
  have HZL := Lib.hid hZl
  clear hZ hZl HSTO HF4 F2 SY2 HAR
  go_wp2_with fail
  refine (HFR.out _ F4.out).mono ?_
  rintro e w5 ⟨ra, rc, rfl, sr, f5, n5⟩
  have F5 := Lib.hid (F4.out.trans f5 (by simp [Ext]))
  have SR5 := Lib.hid (sr.src RB.out)
  have LR5 := Lib.hid sr.lt
  have SZ5 := Lib.hid (SZ4.out.fr f5 (by simp))
  clear sr f5 n5 F4 SZ4 HFR
  have HALL := Lib.hid (fun i hi => by
    have hfa : Fr [] w5 (w5.alloc (.cells #[.slice ra R.length rc, .slice (some ⟨g, off, none⟩) E.length yc] 22)) := (Fr.refl [] w5).alloc _
    have hsz : w5.heap.size < (w5.alloc (.cells #[.slice ra R.length rc, .slice (some ⟨g, off, none⟩) E.length yc] 22)).heap.size := by simp
    rcases Nat.lt_or_ge i 1 with h | h
    · have : i = 0 := by omega
      subst this
      exact ⟨ra, R, rc, by rw [World.cell?_alloc_new]; rfl, SR5.out.old hfa, fun k hk => by have := LR5.out k hk; omega⟩
    · have : i = 1 := by omega
      subst this
      refine ⟨some ⟨g, off, none⟩, Z, yc, by rw [World.cell?_alloc_new, HZL.out]; rfl, (Seg.src (l := Z) (by rw [HZL.out]; exact SZ5.out) ZB.out).old hfa, fun k hk => by have := SZ5.out.lt k hk; omega⟩ : ∀ i < 2, Tried (w5.alloc (.cells #[.slice ra R.length rc, .slice (some ⟨g, off, none⟩) E.length yc] 22)) w5.heap.size i)
  have F6 := Lib.hid (F5.out.alloc (.cells #[.slice ra R.length rc, .slice (some ⟨g, off, none⟩) E.length yc] 22))
  clear SR5 LR5 SZ5 F5 HFB HEN cz fz
  go_wp2_with fail
  go_loopw [12] (fun iv wr => ∃ i : Nat, i ≤ 2 ∧ iv = .int .i64 (i : Int) ∧ Fr [] (w5.alloc (.cells #[.slice ra R.length rc, .slice (some ⟨g, off, none⟩) E.length yc] 22)) wr) (fun iv _ => 2 - (intOf iv).toNat)
  case atStart => exact ⟨0, by omega, rfl, Fr.refl _ _⟩
  case round =>
    obtain ⟨i, hi2, rfl, hf⟩ := hrel
    have HF := Lib.hid hf
    clear hf
    by_cases hi : i < 2
    · obtain ⟨a, l, c, hc, hs, hlt⟩ := HALL.out i hi
      have hsz : (w5.alloc (.cells #[.slice ra R.length rc, .slice (some ⟨g, off, none⟩) E.length yc] 22)).heap.size = w5.heap.size + 1 := by simp
      have cl : wr.cell? ⟨w5.heap.size, i, none⟩ = some (.slice a l.length c) := by
        rw [World.cell?_of_block (a := ⟨w5.heap.size, i, none⟩) (HF.out.block w5.heap.size (by omega) (by simp))]; exact hc
      have SL := Lib.hid (hs.old HF.out)
      have LT := Lib.hid (fun k hk => by have := hlt k hk; have := HF.out.size; omega : ∀ k ∈ blk a, k < wr.heap.size)
      obtain ⟨d, e, hde, hdb, hdl, hcase⟩ := dec_cases l
      have HDC := Lib.hid (by have h := decode_src SL.out LT.out; rw [hde] at h; exact h)
      obtain ⟨M, hM⟩ : ∃ M, M = malR (readLen 5 0 0 l) := ⟨_, rfl⟩
      rw [← hM] at hcase
      have HM := Lib.hid hM
      have DB := Lib.hid hdb
      have HCA := Lib.hid hcase
      have HI := Lib.hid hi
      have hii : (i : Int) < 2 := by omega
      have hlB : w5.heap.size < wr.heap.size := by have := HF.out.size; rw [hsz] at this; omega
      have HLB := Lib.hid hlB
      clear hc hs hlt hde hdb hcase hM hsz hlB
      go_wp2_with fail
      refine HDC.out.mono ?_
      rintro e7 w7 ⟨da, dc, rfl, sd, f7, n7⟩
      have F7 := Lib.hid (HF.out.trans f7 (by simp [Ext]))
      have SD7 := Lib.hid (sd.src DB.out)
      have SL7 := Lib.hid (SL.out.old f7)
      have cl7 : w7.cell? ⟨w5.heap.size, i, none⟩ = some (.slice a l.length c) := by
        rw [World.cell?_of_block (a := ⟨w5.heap.size, i, none⟩) (f7.block w5.heap.size HLB.out (by simp))]; exact cl
      have LB7 := Lib.hid (by have := f7.size; have := HLB.out; omega : w5.heap.size < w7.heap.size)
      clear sd f7 n7 HDC SL LT HLB cl HF
      have HMF := Lib.hid (fun (u : World) (h : Src u a c l) => by have h2 := malf_any u a c l h; rw [← HM.out] at h2; exact h2 : ∀ (u : World), Src u a c l → Calls Try.prog 19 #[.slice a l.length c] u fun e w' => e = .returned (.int .i64 M) ∧ Fr [] u w')
      have cl7d : w7.drew.cell? ⟨w5.heap.size, i, none⟩ = some (.slice a l.length c) := cl7
      have SLd := Lib.hid (SL7.out.old (Fr.refl [] w7).drew)
      have SDd := Lib.hid (SD7.out.old (Fr.refl [] w7).drew)
      have Fd := Lib.hid (F7.out.trans (Fr.refl [] w7).drew (by simp [Ext]))
      have LBd := Lib.hid (show w5.heap.size < w7.drew.heap.size from LB7.out)
      rcases HCA.out with ⟨h1, h2, h3⟩ | ⟨h2, h3⟩
      · subst h1
        subst h2
        have HEC := Lib.hid (fun (u : World) (h : Src u da dc d) => by have h2 := encode_src h (by omega); rw [h3] at h2; exact h2 : ∀ (u : World), Src u da dc d → Calls Try.prog 14 #[.slice da d.length dc] u (SliceTo u l))
        clear h3 HCA HM F7 SD7 SL7 LB7
        go_wp2_with fail
        refine wp_region_held_drew (S := fun w' => w'.cell? ⟨w5.heap.size, i, none⟩ = some (.slice a l.length c)) (by kernel_rfl) cl7d (fun hHeld => ?_)
        refine wpAnyH_takeL (i := 0) (v := _) rfl (by kernel_rfl) (by kernel_rfl) (by kernel_rfl) (fun _ _ _ h => h) (Or.inl ⟨by rfl, (by intro w hSw; (try dsimp only at hSw); go_simp; try with_reducible rfl)⟩) (by assumption) ?_
        try simp only [Act.put, List.setIfInBounds_toArray, List.set_cons_zero, List.set_cons_succ]
        refine wpAnyH_takeL (i := 1) (v := _) rfl (by kernel_rfl) (by kernel_rfl) (by kernel_rfl) (fun _ _ _ h => h) (Or.inl ⟨by rfl, (by intro w hSw; (try dsimp only at hSw); go_simp; try with_reducible rfl)⟩) (by assumption) ?_
        try simp only [Act.put, List.setIfInBounds_toArray, List.set_cons_zero, List.set_cons_succ]
        refine wpAnyH_takeL (i := 2) (v := _) rfl (by kernel_rfl) (by kernel_rfl) (by kernel_rfl) (fun _ _ _ h => h) (Or.inl ⟨by rfl, (by intro w hSw; (try dsimp only at hSw); go_simp; try with_reducible rfl)⟩) (by assumption) ?_
        try simp only [Act.put, List.setIfInBounds_toArray, List.set_cons_zero, List.set_cons_succ]
        refine wpAnyH_takeL (i := 3) (v := _) rfl (by kernel_rfl) (by kernel_rfl) (by kernel_rfl) (fun _ _ _ h => h) (Or.inl ⟨by rfl, (by intro w hSw; (try dsimp only at hSw); go_simp; try with_reducible rfl)⟩) (by assumption) ?_
        try simp only [Act.put, List.setIfInBounds_toArray, List.set_cons_zero, List.set_cons_succ]
        refine wpAnyH_takeL (i := 5) (v := _) rfl (by kernel_rfl) (by kernel_rfl) (by kernel_rfl) (fun _ _ _ h => h) (Or.inl ⟨by rfl, (by intro w hSw; (try dsimp only at hSw); go_simp; try with_reducible rfl)⟩) (by assumption) ?_
        try simp only [Act.put, List.setIfInBounds_toArray, List.set_cons_zero, List.set_cons_succ]
        refine wpAnyH_takeL (i := 6) (v := _) rfl (by kernel_rfl) (by kernel_rfl) (by kernel_rfl) (fun _ _ _ h => h) (Or.inl ⟨by rfl, (by intro w hSw; (try dsimp only at hSw); go_simp; try with_reducible rfl)⟩) (by assumption) ?_
        try simp only [Act.put, List.setIfInBounds_toArray, List.set_cons_zero, List.set_cons_succ]
        refine wpAnyH_takeL (i := 7) (v := _) rfl (by kernel_rfl) (by kernel_rfl) (by kernel_rfl) (fun _ _ _ h => h) (Or.inl ⟨by rfl, (by intro w hSw; (try dsimp only at hSw); go_simp; try with_reducible rfl)⟩) (by assumption) ?_
        try simp only [Act.put, List.setIfInBounds_toArray, List.set_cons_zero, List.set_cons_succ]
        refine wpAnyH_takeL (i := 8) (v := _) rfl (by kernel_rfl) (by kernel_rfl) (by kernel_rfl) (fun _ _ _ h => h) (Or.inl ⟨by rfl, (by intro w hSw; (try dsimp only at hSw); go_simp; try with_reducible rfl)⟩) (by assumption) ?_
        try simp only [Act.put, List.setIfInBounds_toArray, List.set_cons_zero, List.set_cons_succ]
        refine wpAnyH_ready (rs := [4]) (by kernel_rfl) (by simp) ?_
        refine AllReadyH.consL (i := 4) rfl (fun K hK => ?_) AllReadyH.nil
        go_simp
        go_at_call 14; refine (HEC.out _ SDd.out).mono ?_; rintro e wA ⟨pa, pc, rfl, sp, fA, nA⟩; have cA := (by rw [World.cell?_of_block (a := ⟨w5.heap.size, i, none⟩) (fA.block w5.heap.size LBd.out (by simp))]; exact cl7d : wA.cell? ⟨w5.heap.size, i, none⟩ = some (.slice a l.length c)); have SPA := Lib.hid (sp.src SLd.out.bytes); have SLA := Lib.hid (SLd.out.old fA); have FA := Lib.hid (Fd.out.trans fA (by simp [Ext])); have LBA := Lib.hid (by have := fA.size; have := LBd.out; omega : w5.heap.size < wA.heap.size); clear sp fA nA
        refine hK.out _ _ cA (fun hHeld => ?_)
        clear hK K
        try simp only [Act.put, List.setIfInBounds_toArray, List.set_cons_zero, List.set_cons_succ]
        refine wpAnyH_ready (rs := [9]) (by kernel_rfl) (by simp) ?_
        refine AllReadyH.consL (i := 9) rfl (fun K hK => ?_) AllReadyH.nil
        go_simp
        go_at_call 13; refine (same_refl _ pa a pc c l SPA.out.rd SLA.out.rd).mono ?_; rintro e wB ⟨rfl, fB⟩; have cB := (by rw [World.cell?_of_block (a := ⟨w5.heap.size, i, none⟩) (fB.block w5.heap.size LBA.out (by simp))]; exact cA : wB.cell? ⟨w5.heap.size, i, none⟩ = some (.slice a l.length c)); have SLB := Lib.hid (SLA.out.old fB); have FB := Lib.hid (FA.out.trans fB (by simp [Ext])); clear fB
        refine hK.out _ _ cB (fun hHeld => ?_)
        clear hK K
        try simp only [Act.put, List.setIfInBounds_toArray, List.set_cons_zero, List.set_cons_succ]
        refine wpAnyH_takeL (i := 10) (v := _) rfl (by kernel_rfl) (by kernel_rfl) (by kernel_rfl) (fun _ _ _ h => h) (Or.inl ⟨by rfl, (by intro w hSw; (try dsimp only at hSw); go_simp; try with_reducible rfl)⟩) (by assumption) ?_
        try simp only [Act.put, List.setIfInBounds_toArray, List.set_cons_zero, List.set_cons_succ]
        refine wpAnyH_takeL (i := 11) (v := _) rfl (by kernel_rfl) (by kernel_rfl) (by kernel_rfl) (fun _ _ _ h => h) (Or.inl ⟨by rfl, (by intro w hSw; (try dsimp only at hSw); go_simp; try with_reducible rfl)⟩) (by assumption) ?_
        try simp only [Act.put, List.setIfInBounds_toArray, List.set_cons_zero, List.set_cons_succ]
        refine wpAnyH_takeL (i := 12) (v := _) rfl (by kernel_rfl) (by kernel_rfl) (by kernel_rfl) (fun _ _ _ h => h) (Or.inl ⟨by rfl, (by intro w hSw; (try dsimp only at hSw); go_simp; try with_reducible rfl)⟩) (by assumption) ?_
        try simp only [Act.put, List.setIfInBounds_toArray, List.set_cons_zero, List.set_cons_succ]
        refine wpAnyH_takeL (i := 13) (v := _) rfl (by kernel_rfl) (by kernel_rfl) (by kernel_rfl) (fun _ _ _ h => h) (Or.inl ⟨by rfl, (by intro w hSw; (try dsimp only at hSw); go_simp; try with_reducible rfl)⟩) (by assumption) ?_
        try simp only [Act.put, List.setIfInBounds_toArray, List.set_cons_zero, List.set_cons_succ]
        refine wpAnyH_takeL (i := 14) (v := _) rfl (by kernel_rfl) (by kernel_rfl) (by kernel_rfl) (fun _ _ _ h => h) (Or.inl ⟨by rfl, (by intro w hSw; (try dsimp only at hSw); go_simp; try with_reducible rfl)⟩) (by assumption) ?_
        try simp only [Act.put, List.setIfInBounds_toArray, List.set_cons_zero, List.set_cons_succ]
        refine wpAnyH_takeL (i := 15) (v := _) rfl (by kernel_rfl) (by kernel_rfl) (by kernel_rfl) (fun _ _ _ h => h) (Or.inl ⟨by rfl, (by intro w hSw; (try dsimp only at hSw); go_simp; try with_reducible rfl)⟩) (by assumption) ?_
        try simp only [Act.put, List.setIfInBounds_toArray, List.set_cons_zero, List.set_cons_succ]
        refine wpAnyH_takeL (i := 16) (v := undef) rfl (by kernel_rfl) (by kernel_rfl) (by kernel_rfl) (fun _ _ _ h => h) (Or.inr ⟨by rfl, rfl⟩) (by assumption) ?_
        try simp only [Act.put, List.setIfInBounds_toArray, List.set_cons_zero, List.set_cons_succ]
        refine wpAnyH_takeL (i := 17) (v := undef) rfl (by kernel_rfl) (by kernel_rfl) (by kernel_rfl) (fun _ _ _ h => h) (Or.inr ⟨by rfl, rfl⟩) (by assumption) ?_
        try simp only [Act.put, List.setIfInBounds_toArray, List.set_cons_zero, List.set_cons_succ]
        refine wpAnyH_takeL (i := 18) (v := undef) rfl (by kernel_rfl) (by kernel_rfl) (by kernel_rfl) (fun _ _ _ h => h) (Or.inr ⟨by rfl, rfl⟩) (by assumption) ?_
        try simp only [Act.put, List.setIfInBounds_toArray, List.set_cons_zero, List.set_cons_succ]
        refine wpAnyH_takeL (i := 19) (v := _) rfl (by kernel_rfl) (by kernel_rfl) (by kernel_rfl) (fun _ _ _ h => h) (Or.inl ⟨by rfl, (by intro w hSw; (try dsimp only at hSw); go_simp; try with_reducible rfl)⟩) (by assumption) ?_
        try simp only [Act.put, List.setIfInBounds_toArray, List.set_cons_zero, List.set_cons_succ]
        refine wpAnyH_takeL (i := 20) (v := _) rfl (by kernel_rfl) (by kernel_rfl) (by kernel_rfl) (fun _ _ _ h => h) (Or.inl ⟨by rfl, (by intro w hSw; (try dsimp only at hSw); go_simp; try with_reducible rfl)⟩) (by assumption) ?_
        try simp only [Act.put, List.setIfInBounds_toArray, List.set_cons_zero, List.set_cons_succ]
        refine wpAnyH_done (by kernel_rfl) ?_ _
        go_wp2_with fail
        refine (HMF.out _ SLB.out).mono ?_
        rintro e w8 ⟨rfl, f8⟩
        have F8 := Lib.hid (FB.out.trans f8 (by simp [Ext]))
        clear f8
        go_wp2_with fail
        go_roundw
        case rel => exact ⟨i + 1, by have := HI.out; omega, by go_num, F8.out⟩
        case measure => simp [intOf]; omega
      · subst h2
        clear HCA HM SD7 LB7 HALL SLd SDd Fd LBd
        rcases h3 with ⟨h3, h4⟩ | ⟨h3, h4⟩ | ⟨h3, h4⟩ | ⟨h3, h4⟩
        all_goals
          subst h3
          subst h4
          go_wp2_with fail
          go_quiet (fail)
          go_wp2_with fail
          refine (HMF.out _ (SL7.out.old ((Fr.refl [] w7).drewN _))).mono ?_
          rintro e w8 ⟨rfl, f8⟩
          have F8 := Lib.hid ((F7.out.trans ((Fr.refl [] w7).drewN _) (by simp [Ext])).trans f8 (by simp [Ext]))
          clear f8
          go_wp2_with fail
          go_roundw
          case rel => exact ⟨i + 1, by have := HI.out; omega, by go_num, F8.out⟩
          case measure => simp [intOf]; omega
    · clear HALL
      go_wp2_with fail
      refine (lives_any _).mono ?_
      rintro e w8 ⟨rfl, f8⟩
      go_wp2_with fail
      go_ret
      exact ⟨rfl, (F6.out.trans HF.out (by simp [Ext])).trans f8 (by simp [Ext])⟩
end Go.Proofs.Ytjehkpfmndfjeaa
