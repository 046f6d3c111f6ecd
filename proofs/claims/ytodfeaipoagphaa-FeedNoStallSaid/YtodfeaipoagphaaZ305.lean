/- Blk, Dif28 (merged by merge.py). -/
import Derived.Deep.RegionHeld3
import Derived.Test.YtodfeaipoagphaaZ300
import Derived.Test.YtodfeaipoagphaaZ304
/- Laws: a struct's whole block stored, loaded. Generic over the program. -/
namespace Go.Proofs.Ytodfeaipoagphaa
open Go.RowKit

section
variable {P : Program} {ops : Array Oper} {rest : List Oper} {op : Oper} {a : Act} {w : World} {Q : Exit → Act → World → Prop}

theorem wpList_storeB (hgd : op.guard = none) (ty : TypeId) (x y : Operand) (ho : op.op = .store ty x y) (b n : Nat) (cells : Array Value) (hx : a.eval x = .pointer (some ⟨b, 0, none⟩)) (hy : a.eval y = .agg cells)
    (z : Array Value) (T : TypeId) (hb : w.heap[b]? = some (.cells z T (0, 0))) (hz : z.size = n) (hc : cells.size = n) (hi : (P.info? ty).map (·.size) = some n) (h1 : cells.all (·.oneCell') = true)
    (h : ∀ w', w'.heap[b]? = some (.cells cells T (0, 0)) → Fr [b] w w' → wpList P ops Q rest (a.put op.dst undef) w') : wpList P ops Q (op :: rest) a w := by
  refine wpList_store_mid hgd ty x y ho b 0 cells hx hy (fun j hj => ?_) (by rw [hc]; exact hi) h1 (h _ ?_ ?_)
  · rw [Nat.zero_add, cell_blk hb, Array.getElem?_eq_getElem (by omega)]
    exact ⟨rfl, frozen_blk hb j⟩
  · have h2 := setCells_blk cells.toList 0 w z hb (by simp; omega)
    rw [h2]
    congr 2
    apply Array.ext'
    simp only [List.take_zero, List.nil_append, Nat.zero_add]
    rw [List.drop_of_length_le (by simp; omega), List.append_nil]
  · exact (Fr.refl [b] w).setCells (.inl (by simp)) 0 cells.toList

theorem wpList_loadB (hgd : op.guard = none) (ty : TypeId) (x : Operand) (ho : op.op = .load ty x) (b n : Nat) (hx : a.eval x = .pointer (some ⟨b, 0, none⟩)) (c : Array Value) (T : TypeId) (f : Nat × Nat) (hb : w.heap[b]? = some (.cells c T f))
    (d : TypeDesc) (hu : P.underlying ty = some d) (hd : d.isRow = true) (hc : c.size = n) (hi : (P.info? ty).map (·.size) = some n)
    (h : wpList P ops Q rest (a.put op.dst (.agg c)) w) : wpList P ops Q (op :: rest) a w := by
  refine wpList_load_mid hgd ty x ho b 0 hx c.toList d (fun j v hv => ?_) hu hd (by rw [Array.length_toList, hc]; exact hi) h
  rw [Nat.zero_add, cell_blk hb, ← Array.getElem?_toList]
  exact hv

/-- the same at a guarded operation whose guard says yes -/
theorem wpList_loadG (hw : Region.wanted op (yielded ops a.tmps) = true) (ty : TypeId) (x : Operand) (ho : op.op = .load ty x) (b n : Nat) (hx : a.eval x = .pointer (some ⟨b, 0, none⟩)) (c : Array Value) (T : TypeId) (f : Nat × Nat) (hb : w.heap[b]? = some (.cells c T f))
    (d : TypeDesc) (hu : P.underlying ty = some d) (hd : d.isRow = true) (hc : c.size = n) (hi : (P.info? ty).map (·.size) = some n)
    (h : wpList P ops Q rest (a.put op.dst (.agg c)) w) : wpList P ops Q (op :: rest) a w :=
  BigFrame.wpList_want hw fun K hK => by
    refine wp_load_mid ty x ho b 0 hx c.toList d (fun j v hv => ?_) hu hd (by rw [Array.length_toList, hc]; exact hi) (hK _ _ h)
    rw [Nat.zero_add, cell_blk hb, ← Array.getElem?_toList]
    exact hv

theorem wp_storeB {K : Act → World → Prop} (ty : TypeId) (x y : Operand) (ho : op.op = .store ty x y) (b n : Nat) (cells : Array Value) (hx : a.eval x = .pointer (some ⟨b, 0, none⟩)) (hy : a.eval y = .agg cells)
    (z : Array Value) (T : TypeId) (hb : w.heap[b]? = some (.cells z T (0, 0))) (hz : z.size = n) (hc : cells.size = n) (hi : (P.info? ty).map (·.size) = some n) (h1 : cells.all (·.oneCell') = true)
    (h : ∀ w', w'.heap[b]? = some (.cells cells T (0, 0)) → Fr [b] w w' → K (a.put op.dst undef) w') : op.wp P a w K Q := by
  refine wp_store_mid ty x y ho b 0 cells hx hy (fun j hj => ?_) (by rw [hc]; exact hi) h1 (h _ ?_ ?_)
  · rw [Nat.zero_add, cell_blk hb, Array.getElem?_eq_getElem (by omega)]
    exact ⟨rfl, frozen_blk hb j⟩
  · have h2 := setCells_blk cells.toList 0 w z hb (by simp; omega)
    rw [h2]
    congr 2
    apply Array.ext'
    simp only [List.take_zero, List.nil_append, Nat.zero_add]
    rw [List.drop_of_length_le (by simp; omega), List.append_nil]
  · exact (Fr.refl [b] w).setCells (.inl (by simp)) 0 cells.toList
end

section
variable {P : Program} {l : List Oper} {Q : Exit → Act → World → Prop} {md : Region.Mode} {S : World → Prop}
theorem wpAnyH_takeL {i : Nat} {oi : Oper} {v : Value} {fuel : Nat} {listed : Array Bool} {a : Act} {w : World} (hi : l[i]? = some oi)
    (hs : Region.noSelect l.toArray = true) (hf : Region.free md l.toArray listed i = true) (hr : (Region.ready md l.toArray listed).contains i = true)
    (hQ : ∀ c a w, Q (.panic c) (a.put oi.dst v) w → Q (.panic c) a w) (hy : YieldsIf P l.toArray S oi v a) (hS : S w)
    (h : wpAnyH P md l.toArray Q S fuel (listed.setIfInBounds i true) (a.put oi.dst v) w) : wpAnyH P md l.toArray Q S (fuel + 1) listed a w :=
  wpAnyH_take (by simpa using hi) hs hf hr hQ hy hS h
theorem AllReadyH.consL {fuel : Nat} {listed : Array Bool} {a : Act} {w : World} {i : Nat} {o : Oper} {rs : List Nat} (ho : l[i]? = some o)
    (h : ∀ K' : Act → World → Prop, Shut (∀ a w, S w → (S w → wpAnyH P md l.toArray Q S fuel (listed.setIfInBounds i true) a w) → K' a w) → if Region.wanted o (yielded l.toArray a.tmps) = true then Oper.wp P o a w K' Q else K' (a.put o.dst undef) w)
    (hs : AllReadyH P md l.toArray Q S fuel listed a w rs) : AllReadyH P md l.toArray Q S fuel listed a w (i :: rs) := AllReadyH.cons (by simpa using ho) h hs
end
end Go.Proofs.Ytodfeaipoagphaa
/- Package snapshot: Diff (written by gendif28.py). -/
namespace Go.Proofs.Ytodfeaipoagphaa
open Go.RowKit Go.Shelf

theorem run_store_func {P : Program} {w : World} {a : Addr} {m : Mode} (f : Fn) (x b : Array Value) : (store a (.func f x b) m).run P w = stored P w a (.func f x b) m := run_store P w a _ m rfl
attribute [local go_sem] Oper.semAt_some run_store_func

def DiffTo (w : World) (l : List Nat) (e : Ending) (w' : World) : Prop := ∃ ro rc, e = .returned (.slice ro l.length rc) ∧ Seg w' 5 1 ro l.length rc (bts l) ∧ Fr [] w w' ∧ ∀ k ∈ blk ro, w.heap.size ≤ k

theorem Fr.putObjD {S : List Nat} {a w : World} (h : Fr S a w) {D : Nat} (hD : a.heap.size ≤ D) (o : Obj) : Fr S a (w.putObj D o) :=
  ⟨h.os, h.tape, h.output, by simp; exact h.size, fun k hk hS => (World.putObj_heap_other (by omega)).trans (h.block k hk hS)⟩
theorem allocs_get (l : List Obj) : ∀ (w : World) (i : Nat) (h : i < l.length), (l.foldl World.alloc w).heap[w.heap.size + i]? = some l[i] := by
  induction l with
  | nil => intro w i h; simp at h
  | cons o l ih =>
    intro w i h
    rw [List.foldl_cons]
    cases i with
    | zero =>
      have hf : ∀ (l : List Obj) (u : World) (k : Nat) (x : Obj), u.heap[k]? = some x → (l.foldl World.alloc u).heap[k]? = some x := by
        intro l
        induction l with
        | nil => intro u k x h; exact h
        | cons y l ih => intro u k x h; rw [List.foldl_cons]; exact ih _ _ _ (alloc_old h)
      exact hf l _ _ _ (alloc_new w o)
    | succ i =>
      have := ih (w.alloc o) i (by simpa using h)
      rw [World.size_alloc] at this
      rw [show w.heap.size + (i + 1) = w.heap.size + 1 + i by omega]
      exact this
theorem allocs_size (l : List Obj) : ∀ (w : World), (l.foldl World.alloc w).heap.size = w.heap.size + l.length := by
  induction l with
  | nil => intro w; rfl
  | cons o l ih => intro w; rw [List.foldl_cons, ih, World.size_alloc, List.length_cons]; omega
theorem allocs_fr (l : List Obj) : ∀ (w : World), Fr [] w (l.foldl World.alloc w) := by
  induction l with
  | nil => intro w; exact Fr.refl _ _
  | cons o l ih => intro w; rw [List.foldl_cons]; exact (((Fr.refl [] w).alloc o)).trans (ih _) (by simp [Ext])

/-- a step of the loop's body: blocks below N change only in S, and no block changes that holds no cells -/
structure Stp (N : Nat) (S : List Nat) (W W' : World) : Prop where
  others : KeepsOthers W W'
  frB : FrB N S W W'
theorem Stp.refl (N : Nat) (S : List Nat) (W : World) : Stp N S W W := ⟨KeepsOthers.refl _, FrB.refl _ _ _⟩
theorem Stp.trans {N : Nat} {S : List Nat} {A B C : World} (h : Stp N S A B) (k : Stp N S B C) : Stp N S A C := ⟨h.others.trans k.others, h.frB.trans k.frB⟩
theorem Stp.set {N : Nat} {S : List Nat} {A B : World} (h : Stp N S A B) {p : Addr} (hp : p.block ∈ S) (v : Value) : Stp N S A (B.setCell p v) :=
  h.trans ⟨KeepsOthers.setCell _ _ _, rfl, rfl, rfl, by simp, fun k _ hk => setCell_ne (fun e => hk (e ▸ hp))⟩
theorem Stp.drew {N : Nat} {S : List Nat} {A B : World} (h : Stp N S A B) : Stp N S A B.drew := h.trans ⟨KeepsOthers.drew _, rfl, rfl, rfl, Nat.le_refl _, fun _ _ _ => rfl⟩
theorem Stp.app {N : Nat} {S : List Nat} {A B C : World} (h : Stp N S A B) (hN : N ≤ A.heap.size) {e : TypeId} {size : Nat} {ao : Option Addr} {n cap : Nat} {xs : List Value} (hs : Seg B e size ao n cap xs) (hn : ∀ k ∈ blk ao, N ≤ k) (hf : Fr (blk ao) B C) : Stp N S A C := by
  refine h.trans ⟨hf.others (fun k hk o ho => ?_), hf.os, hf.tape, hf.output, hf.size, fun k hk _ => ?_⟩
  · rcases hs.2.2.2 with ⟨rfl, _⟩ | ⟨g, off, cur, rfl, hg, _⟩
    · simp [blk] at hk
    · simp [blk] at hk; subst hk; rw [hg] at ho; cases ho; rfl
  · exact hf.block k (by have := h.frB.size; omega) (fun hm => by have := hn k hm; omega)

theorem Seg.ne_type {W : World} {e T : TypeId} {size : Nat} {ao : Option Addr} {n cap : Nat} {xs : List Value} {k : Nat} {c : Array Value} {f : Nat × Nat} (h : Seg W e size ao n cap xs) (hk : W.heap[k]? = some (.cells c T f)) (hne : e ≠ T) : k ∉ blk ao := by
  intro hm
  rcases h.2.2.2 with ⟨rfl, _⟩ | ⟨g, off, cur, rfl, hg, _⟩
  · simp [blk] at hm
  · simp [blk] at hm; subst hm; rw [hk] at hg; cases hg; exact hne rfl

/-- the loop's invariant: what has been gathered of the pairs T -/
def DifT (s : Nat) (T : List Pr) (W : World) : Prop := ∃ go co gc cc, DifI s go co gc cc (gG (-1) (goneP T)) (gD (-1) (chgP' T)) (goneP T).length (chgP' T).length (lastI (-1) (goneP T)) (lastI (-1) ((chgP' T).map (·.1))) W
theorem DifT.gone {s : Nat} {T : List Pr} {p : Pr} {W : World} (hp : p.ia = false) {go co : Option Addr} {gc cc : Nat} {G C : List Nat} {ng nc : Nat} {pg pc : Int} (eG : G = gG (-1) (goneP T)) (eC : C = gD (-1) (chgP' T)) (eng : ng = (goneP T).length) (enc : nc = (chgP' T).length) (epg : pg = lastI (-1) (goneP T)) (epc : pc = lastI (-1) ((chgP' T).map (·.1)))
    (h : DifI s go co gc cc (G ++ varN (gpN pg p.bi)) C (ng + 1) nc p.bi pc W) : DifT s (T ++ [p]) W := by
  have h1 : goneP (T ++ [p]) = goneP T ++ [p.bi] := by rw [goneP_snoc, if_pos (by simp [isGone, hp])]
  have h2 : chgP' (T ++ [p]) = chgP' T := by rw [chgP_snoc, if_neg (by simp [isChg, hp]), List.append_nil]
  refine ⟨go, co, gc, cc, ?_⟩
  rw [h1, h2, gG_snoc, lastI_snoc, List.length_append, List.length_cons, List.length_nil, ← eG, ← eC, ← eng, ← enc, ← epg, ← epc]
  exact h
theorem DifT.chg {s : Nat} {T : List Pr} {p : Pr} {W : World} (hp : isChg p = true) {go co : Option Addr} {gc cc : Nat} {G C : List Nat} {ng nc : Nat} {pg pc : Int} (eG : G = gG (-1) (goneP T)) (eC : C = gD (-1) (chgP' T)) (eng : ng = (goneP T).length) (enc : nc = (chgP' T).length) (epg : pg = lastI (-1) (goneP T)) (epc : pc = lastI (-1) ((chgP' T).map (·.1)))
    (h : DifI s go co gc cc G (C ++ varN (gpN pc p.ai) ++ varN (zz (wrap64 (p.av - p.bv)))) ng (nc + 1) pg p.ai W) : DifT s (T ++ [p]) W := by
  have hia : p.ia = true := by
    unfold isChg at hp
    simp only [Bool.and_eq_true] at hp
    exact hp.1
  have h1 : goneP (T ++ [p]) = goneP T := by rw [goneP_snoc, if_neg (by simp [isGone, hia]), List.append_nil]
  have h2 : chgP' (T ++ [p]) = chgP' T ++ [(p.ai, p.av, p.bv)] := by rw [chgP_snoc, if_pos hp]
  refine ⟨go, co, gc, cc, ?_⟩
  rw [h1, h2, gD_snoc, List.map_append, List.map_cons, List.map_nil, lastI_snoc, List.length_append, List.length_cons, List.length_nil, ← eG, ← eC, ← eng, ← enc, ← epg, ← epc]
  exact h
theorem DifT.same {s : Nat} {T : List Pr} {p : Pr} {W : World} (hp : isChg p = false) (hi : p.ia = true) (h : DifT s T W) : DifT s (T ++ [p]) W := by
  have h1 : goneP (T ++ [p]) = goneP T := by rw [goneP_snoc, if_neg (by simp [isGone, hi]), List.append_nil]
  have h2 : chgP' (T ++ [p]) = chgP' T := by rw [chgP_snoc, if_neg (by simp [hp]), List.append_nil]
  unfold DifT
  rw [h1, h2]
  exact h

set_option maxRecDepth 100000 in
set_option maxHeartbeats 16000000 in
theorem diff_any (w : World) (ao bo : Option Addr) (ca cb : Nat) (a b : List (Int × Int)) (hva : IsView a) (hvb : IsView b) (hla : a.length < 1000000) (hlb : b.length < 1000000)
    (ha : Rd w 2 ao a.length (a.flatMap clV)) (hb : Rd w 2 bo b.length (b.flatMap clV)) (ha1 : ∀ k ∈ blk ao, k < w.heap.size) (hb1 : ∀ k ∈ blk bo, k < w.heap.size) :
    Calls Try.prog 22 #[.slice ao a.length ca, .slice bo b.length cb] w (DiffTo w (diffL a b)) := by
  obtain ⟨s, hs⟩ : ∃ s, s = w.heap.size := ⟨_, rfl⟩
  have HVA := Lib.hid hva
  have HVB := Lib.hid hvb
  have HLA := Lib.hid hla
  have HLB := Lib.hid hlb
  have HA := Lib.hid ha
  have HB := Lib.hid hb
  have HA1 := Lib.hid ha1
  have HB1 := Lib.hid hb1
  have HS := Lib.hid hs
  clear hva hvb hla hlb ha hb ha1 hb1 hs
  refine (callsIn_wide (n := 6)).1 ?_
  refine callsIn_of_wp_marks Try.func22 rfl trivial ?_ rfl
  simp only [Try.ntmps22, List.size_toArray, List.length_cons, List.length_nil, Nat.reduceAdd, Nat.reduceSub, Array.replicate_succ, Array.replicate_zero, List.push_toArray, List.append_toArray, List.nil_append, List.cons_append]
  gi_wp2_with (first | (refine ⟨trivial, ?_⟩; gi_at_call 40; refine (callsIn_wide.2 (gaps_any _)).mono ?_; rintro e w' ⟨rfl, rfl⟩) | (refine ⟨trivial, ?_⟩; gi_at_call 41; refine (merge_in _ _ _ _ _ _ _ _).mono ?_; rintro e w' ⟨rfl, rfl⟩))
  obtain ⟨L, hL⟩ : ∃ L : List Obj, L = [.cells #[.slice none 0 0] 33, .cells #[.slice none 0 0] 33, .cells #[.int .i64 0] 3, .cells #[.int .i64 0] 3, .cells #[.int .i64 (-1)] 3, .cells #[.int .i64 (-1)] 3, .cells #[.func (.func 55) #[] #[.pointer (some ⟨w.heap.size + 1 + 1 + 1 + 1, 0, none⟩)]] 86, .cells #[.func (.func 55) #[] #[.pointer (some ⟨w.heap.size + 1 + 1 + 1 + 1 + 1, 0, none⟩)]] 86, .cells #[.slice ao a.length ca] 30, .cells #[.slice bo b.length cb] 30] := ⟨_, rfl⟩
  obtain ⟨W0, hW0⟩ : ∃ W0, W0 = L.foldl World.alloc w := ⟨_, rfl⟩
  have hll : L.length = 10 := by rw [hL]; rfl
  have hsz : W0.heap.size = s + 10 := by rw [hW0, allocs_size, hll, HS.out]
  have hF0 : Fr [] w W0 := by rw [hW0]; exact allocs_fr _ _
  have hget : ∀ (i : Nat) (o : Obj), L[i]? = some o → W0.heap[s + i]? = some o := fun i o ho => by
    obtain ⟨h1, h2⟩ := List.getElem?_eq_some_iff.1 ho
    rw [hW0, HS.out, allocs_get _ _ _ h1, h2]
  have hI0 : DifI s none none 0 0 [] [] 0 0 (-1) (-1) W0 := by
    refine ⟨hget 0 _ (by rw [hL]; rfl), hget 1 _ (by rw [hL]; rfl), hget 2 _ (by rw [hL]; rfl), hget 3 _ (by rw [hL]; rfl), hget 4 _ (by rw [hL]; rfl), hget 5 _ (by rw [hL]; rfl), hget 6 _ (by rw [hL, HS.out]; rfl), hget 7 _ (by rw [hL, HS.out]; rfl), Seg.nil _ _ _, Seg.nil _ _ _, by simp [blk], by simp [blk], by simp [blk], by omega⟩
  have hb8 : W0.cell? ⟨s + 8, 0, none⟩ = some (.slice ao a.length ca) := cell_blk (hget 8 (.cells #[.slice ao a.length ca] 30) (by rw [hL]; rfl)) 0
  have hb9 : W0.cell? ⟨s + 9, 0, none⟩ = some (.slice bo b.length cb) := cell_blk (hget 9 (.cells #[.slice bo b.length cb] 30) (by rw [hL]; rfl)) 0
  have eW : (((((((((w.alloc (.cells #[.slice none 0 0] 33)).alloc (.cells #[.slice none 0 0] 33)).alloc (.cells #[.int .i64 0] 3)).alloc (.cells #[.int .i64 0] 3)).alloc (.cells #[.int .i64 (-1)] 3)).alloc (.cells #[.int .i64 (-1)] 3)).alloc (.cells #[.func (.func 55) #[] #[.pointer (some ⟨w.heap.size + 1 + 1 + 1 + 1, 0, none⟩)]] 86)).alloc (.cells #[.func (.func 55) #[] #[.pointer (some ⟨w.heap.size + 1 + 1 + 1 + 1 + 1, 0, none⟩)]] 86)).alloc (.cells #[.slice ao a.length ca] 30)).alloc (.cells #[.slice bo b.length cb] 30) = W0 := by rw [hW0, hL]; rfl
  rw [eW]
  rw [← HS.out]
  simp only [Nat.add_assoc, Nat.reduceAdd]
  have HI0 := Lib.hid hI0
  have HF0 := Lib.hid hF0
  have HSZ := Lib.hid hsz
  have HB8 := Lib.hid hb8
  have HB9 := Lib.hid hb9
  clear hL hW0 hll hget eW hI0 hF0 hsz hb8 hb9
  obtain ⟨t, ht⟩ : ∃ t, t = mg a b := ⟨_, rfl⟩
  have HT := Lib.hid ht
  have hOK : ∀ x : Fin t.length, PrOk t[x] := fun x => mg_ok a b (fun y hy => ⟨HVA.out.idx y hy, HVA.out.val y hy⟩) (fun y hy => ⟨HVB.out.idx y hy, HVB.out.val y hy⟩) _ (by rw [← ht]; exact List.getElem_mem _)
  have HOK := Lib.hid hOK
  have htl : t.length ≤ 2000000 := by rw [ht]; have := mg_len a b; have := HLA.out; have := HLB.out; omega
  have HTL := Lib.hid htl
  clear hOK htl
  have HSEQ : Hid (SeqStopsK Fence.wide (6 - 1) Try.prog 56 #[.pointer (some ⟨s + 8, 0, none⟩), .pointer (some ⟨s + 9, 0, none⟩)] (encP t) (FrB W0.heap.size [s, s + 1, s + 2, s + 3, s + 4, s + 5]) (fun ys => ys = fw t.length t.length) (fun _ => True) t.length W0) := by
    have h := merge_stops (6 - 1) (by omega) (s + 8) (s + 9) [s, s + 1, s + 2, s + 3, s + 4, s + 5] ao bo ca cb a b W0 HB8.out HB9.out ⟨by rw [HSZ.out]; omega, by simp⟩ ⟨by rw [HSZ.out]; omega, by simp⟩ (HA.out.fr HF0.out (by simp)) (HB.out.fr HF0.out (by simp))
      (fun k hk => ⟨by rw [HSZ.out, HS.out]; have := HA1.out k hk; omega, by have := HA1.out k hk; rw [← HS.out] at this; simp; omega⟩) (fun k hk => ⟨by rw [HSZ.out, HS.out]; have := HB1.out k hk; omega, by have := HB1.out k hk; rw [← HS.out] at this; simp; omega⟩)
    rw [← ht] at h
    exact Lib.hid h
  clear ht
  refine wpIn_rangeFunc_ownH rfl (by omega) (gf := 56) (lb := #[.pointer (some ⟨s + 8, 0, none⟩), .pointer (some ⟨s + 9, 0, none⟩)]) rfl trivial (enters_of Try.func56 (by kernel_rfl) rfl)
    HSEQ.out
    frB_t (frB_b (Nat.le_refl _)) (Below.refl _ _) (fun _ => rfl)
    (fun (pre : List (Fin t.length)) W => DifT s (pre.map fun i => t[i]) W ∧ FrB W0.heap.size [s, s + 1, s + 2, s + 3, s + 4, s + 5] W0 W)
    (fun _ _ _ => False)
    ?own (fun _ _ _ _ _ hs _ _ => hs) ⟨⟨none, none, 0, 0, HI0.out⟩, FrB.refl _ _ _⟩
    (fun (x : Fin t.length) a' W => ∃ (Bx : Nat) (p : Pr), p = t[x] ∧ W0.heap.size ≤ Bx ∧ W.heap[Bx]? = some (pC p) ∧ a' = { tmps := #[.slice ao a.length ca, .slice bo b.length cb, undef, undef, .slice none 0 0, .pointer (some ⟨s, 0, none⟩), .pointer (some ⟨s + 1, 0, none⟩), .pointer (some ⟨s + 2, 0, none⟩), .pointer (some ⟨s + 3, 0, none⟩), .pointer (some ⟨s + 6, 0, none⟩), .pointer (some ⟨s + 7, 0, none⟩), .pointer (some ⟨Bx, 0, none⟩), undef, .func (.func 55) #[] #[.pointer (some ⟨s + 4, 0, none⟩)], .func (.func 55) #[] #[.pointer (some ⟨s + 5, 0, none⟩)], .slice ao a.length ca, .slice bo b.length cb, .func (.func 56) #[] #[.pointer (some ⟨s + 8, 0, none⟩), .pointer (some ⟨s + 9, 0, none⟩)], .agg #[.int .i64 p.bi, .int .i64 p.bv, .int .i64 p.ai, .int .i64 p.av, .bool p.ib, .bool p.ia], undef, undef, undef, undef, undef, undef, undef, undef, undef, undef, undef, undef, undef, undef, undef, undef, undef, undef, undef, undef, undef, undef, undef, undef, undef, undef, undef, undef, undef, undef, undef, undef, undef, undef, undef, undef, undef, undef, undef, undef, undef, undef, undef, undef, undef, undef, undef, undef, undef, undef, undef, undef, undef, undef, undef, undef], defers := [] })
    ?ownA ?assign ?body ?done ?stop
  case own =>
    rintro pre A B row ⟨⟨go, co, gc, cc, h1⟩, h3⟩ hg hr
    refine ⟨⟨go, co, gc, cc, h1.kept hg.size fun k o hk ho _ => (hg.block k (lt_of_blk hk) (fun e => ?_)).trans hk⟩, h3.trans (FrB.grown hg (by have := h3.size; omega) (fun r e => (hr r e).1))⟩
    obtain ⟨_, o', ho', hc⟩ := hr k e.symm
    rw [hk] at ho'; cases ho'; rw [ho] at hc; cases hc
  case ownA =>
    rintro x a' _ A B row ⟨Bx, p, hp, h1, h2, h3⟩ hg hr
    refine ⟨Bx, p, hp, h1, (hg.block Bx (lt_of_blk h2) (fun e => ?_)).trans h2, h3⟩
    obtain ⟨_, o, ho, hc⟩ := hr Bx e.symm
    rw [h2] at ho; cases ho; simp [pC, Obj.isCells] at hc
  case assign =>
    rintro l pre x W K ⟨⟨go, co, gc, cc, h1⟩, h3⟩ hK
    simp only [encP, pV]
    obtain ⟨p, hp⟩ : ∃ p, p = t[x] := ⟨_, rfl⟩
    rw [← hp]
    have HK := Lib.hid hK
    clear hK
    have hx : FrB W0.heap.size [s, s + 1, s + 2, s + 3, s + 4, s + 5] W (W.alloc (pC p)) := FrB.ofFr (Fr.alloc (Fr.refl _ W) _) h3.size
    have HI1 := Lib.hid (h1.fr ((Fr.refl [] W).alloc (pC p)))
    have H3 := Lib.hid h3
    have HP := Lib.hid hp
    clear h1 h3 hp
    gi_wp2
    exact HK.out _ _ ((KeepsOthers.alloc _ _).from _) hx ⟨⟨go, co, gc, cc, HI1.out⟩, H3.out.trans hx⟩ ⟨W.heap.size, p, HP.out, H3.out.size, alloc_new _ _, rfl⟩
  case body =>
    rintro l pre x a' W hl ⟨r, hr⟩ ⟨⟨go, co, gc, cc, h1⟩, h3⟩ ⟨Bx, p, hp, hBx, bX, rfl⟩ hlt
    obtain ⟨T, hT⟩ : ∃ T, T = pre.map (fun i => t[i]) := ⟨_, rfl⟩
    have hTe : (pre ++ [x]).map (fun i => t[i]) = T ++ [p] := by rw [List.map_append, ← hT, List.map_cons, List.map_nil, hp]
    have hTok : ∀ q ∈ T, PrOk q := by rw [hT]; intro q hq; obtain ⟨i, _, rfl⟩ := List.mem_map.1 hq; exact HOK.out i
    have hTl : T.length ≤ 2000000 := by rw [hT, List.length_map]; have := HTL.out; omega
    have hpok := HOK.out x
    rw [← hp] at hpok
    rw [← hT] at h1
    have HFIN := Lib.hid (fun (W' : World) (hS : Stp W0.heap.size [s, s + 1, s + 2, s + 3, s + 4, s + 5] W W') (hD : DifT s (T ++ [p]) W') => (⟨hS.others.from _, hS.frB, by rw [hTe]; exact hD, h3.trans hS.frB⟩ : KeepsFrom W0.heap.size W W' ∧ FrB W0.heap.size [s, s + 1, s + 2, s + 3, s + 4, s + 5] W W' ∧ DifT s ((pre ++ [x]).map fun i => t[i]) W' ∧ FrB W0.heap.size [s, s + 1, s + 2, s + 3, s + 4, s + 5] W0 W'))
    have hN : W0.heap.size ≤ W.heap.size := h3.size
    have hsb : s + 10 ≤ Bx := by rw [← HSZ.out]; exact hBx
    have gl := gG_len (goneP T) (-1)
    have cl := gD_len (chgP' T) (-1)
    have gl2 := goneP_len T
    have cl2 := chgP_len T
    have hpg := lastI_bd _ (goneP_ok hTok)
    have hpc := lastI_bd _ (chgP_ok hTok)
    obtain ⟨G, eG⟩ : ∃ G, G = gG (-1) (goneP T) := ⟨_, rfl⟩
    obtain ⟨C, eC⟩ : ∃ C, C = gD (-1) (chgP' T) := ⟨_, rfl⟩
    obtain ⟨ng, eng⟩ : ∃ n, n = (goneP T).length := ⟨_, rfl⟩
    obtain ⟨nc, enc⟩ : ∃ n, n = (chgP' T).length := ⟨_, rfl⟩
    obtain ⟨pg, epg⟩ : ∃ n, n = lastI (-1) (goneP T) := ⟨_, rfl⟩
    obtain ⟨pc, epc⟩ : ∃ n, n = lastI (-1) ((chgP' T).map (·.1)) := ⟨_, rfl⟩
    rw [← eG, ← eng] at gl
    rw [← eC, ← enc] at cl
    rw [← eng] at gl2
    rw [← enc] at cl2
    rw [← epg] at hpg
    rw [← epc] at hpc
    have HSAME := Lib.hid (fun (hc : isChg p = false) (hi : p.ia = true) => DifT.same hc hi ⟨go, co, gc, cc, h1⟩)
    rw [← eG, ← eC, ← eng, ← enc, ← epg, ← epc] at h1
    have HGONE := Lib.hid (fun (hi : p.ia = false) (go' : Option Addr) (gc' : Nat) (W' : World) => DifT.gone (s := s) (W := W') (go := go') (co := co) (gc := gc') (cc := cc) hi eG eC eng enc epg epc)
    have HCHG := Lib.hid (fun (hi : isChg p = true) (co' : Option Addr) (cc' : Nat) (W' : World) => DifT.chg (s := s) (W := W') (go := go) (co := co') (gc := gc) (cc := cc') hi eG eC eng enc epg epc)
    have hgl : G.length ≤ 1099511627776 := by omega
    have hcl : C.length ≤ 1099511627776 - 100 := by omega
    have hng : ng ≤ 2000000 := by omega
    have hnc : nc ≤ 2000000 := by omega
    have hGN := h1.gn
    rw [← HSZ.out] at hGN
    have hCN := h1.cn
    rw [← HSZ.out] at hCN
    have HI := Lib.hid h1
    have HX := Lib.hid bX
    have HGN := Lib.hid hGN
    have HCN := Lib.hid hCN
    have HN := Lib.hid hN
    have HPOK := Lib.hid hpok
    have z0 : W.cell? ⟨Bx, 0, none⟩ = some (.int .i64 p.bi) := cell_blk bX 0
    have z1 : W.cell? ⟨Bx, 1, none⟩ = some (.int .i64 p.bv) := cell_blk bX 1
    have z2 : W.cell? ⟨Bx, 2, none⟩ = some (.int .i64 p.ai) := cell_blk bX 2
    have z3 : W.cell? ⟨Bx, 3, none⟩ = some (.int .i64 p.av) := cell_blk bX 3
    have z4 : W.cell? ⟨Bx, 4, none⟩ = some (.bool p.ib) := cell_blk bX 4
    have z5 : W.cell? ⟨Bx, 5, none⟩ = some (.bool p.ia) := cell_blk bX 5
    have hBg : Bx ∉ blk go := h1.sg.ne_type bX (by decide)
    have hBc : Bx ∉ blk co := h1.sc.ne_type bX (by decide)
    have c7 : W.cell? ⟨s + 2, 0, none⟩ = some (.int .i64 (ng : Int)) := cell_blk h1.h7 0
    have f7 : W.frozen? ⟨s + 2, 0, none⟩ = false := frozen_blk h1.h7 0
    have c8 : W.cell? ⟨s + 3, 0, none⟩ = some (.int .i64 (nc : Int)) := cell_blk h1.h8 0
    have f8 : W.frozen? ⟨s + 3, 0, none⟩ = false := frozen_blk h1.h8 0
    have wg : IntKind.i64.wrap ((ng : Int) + 1) = (ng : Int) + 1 := IntWalk.i64_in _ (by omega)
    have wc : IntKind.i64.wrap ((nc : Int) + 1) = (nc : Int) + 1 := IntWalk.i64_in _ (by omega)
    have HWR := Lib.hid (by rw [IntKind.wrap_i64]; unfold wrap64; omega : IntKind.i64.wrap (p.av - p.bv) = wrap64 (p.av - p.bv))
    have HBG := Lib.hid hBg
    have HBC := Lib.hid hBc
    clear h1 h3 hp hBx bX hT hTe hTok hTl hpok gl cl gl2 cl2 eG eC eng enc epg epc hGN hCN hN hBg hBc hlt hr hl
    cases hia : p.ia with
    | false =>
      have hk := HPOK.out.b hia
      unfold idxOk at hk
      rw [hia] at z5
      have HIA := Lib.hid hia
      clear hia
      gi_wp2
      obtain ⟨W1, hW1⟩ : ∃ W1, W1 = (W.setCell ⟨s + 2, 0, none⟩ (.int .i64 ((ng : Int) + 1))).drew := ⟨_, rfl⟩
      have HD1 : Hid (DifI s go co gc cc G C (ng + 1) nc pg pc W1) := by
        have h := (HI.out.set7 (ng + 1)).fr ((Fr.refl [] _).drew)
        rw [show ((ng + 1 : Nat) : Int) = (ng : Int) + 1 by omega] at h
        rw [hW1]; exact Lib.hid h
      have HX1 : Hid (W1.heap[Bx]? = some (pC p)) := by rw [hW1]; exact Lib.hid ((setCell_ne (by simp; omega)).trans HX.out)
      have HS1 : Hid (Stp W0.heap.size [s, s + 1, s + 2, s + 3, s + 4, s + 5] W W1) := by rw [hW1]; exact Lib.hid (((Stp.refl _ _ W).set (by simp) _).drew)
      have c5a : W1.cell? ⟨s, 0, none⟩ = some (.slice go G.length gc) := cell_blk HD1.out.h5 0
      refine wpIn_round_held (S := (fun u => u.cell? ⟨s + 6, 0, none⟩ = some (.func (.func 55) #[] #[.pointer (some ⟨s + 4, 0, none⟩)]) ∧ u.cell? ⟨Bx, 0, none⟩ = some (.int .i64 p.bi))) (by kernel_rfl) (by kernel_rfl) (by rw [← hW1]; exact ⟨cell_blk HD1.out.h9 0, cell_blk HX1.out 0⟩) (fun hHeld => ?_); rw [← hW1] at hHeld ⊢; clear hW1
      refine wpAnyH_takeL (i := 1) (v := _) rfl (by kernel_rfl) (by kernel_rfl) (by kernel_rfl) (fun _ _ _ h => nomatch h.1) (Or.inl ⟨by rfl, (by intro w' hSw; (try dsimp only at hSw); obtain ⟨q1, q2⟩ := hSw; go_simp; try with_reducible rfl)⟩) (by assumption) ?_
      try simp only [Act.put, List.setIfInBounds_toArray, List.set_cons_zero, List.set_cons_succ]
      refine wpAnyH_takeL (i := 2) (v := _) rfl (by kernel_rfl) (by kernel_rfl) (by kernel_rfl) (fun _ _ _ h => nomatch h.1) (Or.inl ⟨by rfl, (by intro w' hSw; (try dsimp only at hSw); obtain ⟨q1, q2⟩ := hSw; go_simp; try with_reducible rfl)⟩) (by assumption) ?_
      try simp only [Act.put, List.setIfInBounds_toArray, List.set_cons_zero, List.set_cons_succ]
      refine wpAnyH_takeL (i := 3) (v := _) rfl (by kernel_rfl) (by kernel_rfl) (by kernel_rfl) (fun _ _ _ h => nomatch h.1) (Or.inl ⟨by rfl, (by intro w' hSw; (try dsimp only at hSw); obtain ⟨q1, q2⟩ := hSw; go_simp; try with_reducible rfl)⟩) (by assumption) ?_
      try simp only [Act.put, List.setIfInBounds_toArray, List.set_cons_zero, List.set_cons_succ]
      refine wpAnyH_takeL (i := 4) (v := _) rfl (by kernel_rfl) (by kernel_rfl) (by kernel_rfl) (fun _ _ _ h => nomatch h.1) (Or.inl ⟨by rfl, (by intro w' hSw; (try dsimp only at hSw); obtain ⟨q1, q2⟩ := hSw; go_simp; try with_reducible rfl)⟩) (by assumption) ?_
      try simp only [Act.put, List.setIfInBounds_toArray, List.set_cons_zero, List.set_cons_succ]
      refine wpAnyH_ready (rs := [0, 5]) (by kernel_rfl) (by simp) ?_
      refine AllReadyH.consL (i := 0) rfl (fun K hK => ?_) ?_
      · go_simp
        skip
        refine hK.out _ _ (⟨cell_blk HD1.out.h9 0, cell_blk HX1.out 0⟩) (fun hHeld => ?_)
        clear hK K
        try simp only [Act.put, List.setIfInBounds_toArray, List.set_cons_zero, List.set_cons_succ]
        refine wpAnyH_ready (rs := [5]) (by kernel_rfl) (by simp) ?_
        refine AllReadyH.consL (i := 5) rfl (fun K hK => ?_) AllReadyH.nil
        go_simp
        refine (gap_gen _ (s + 4) pg p.bi HD1.out.hg hpg.1 hpg.2 hk.1 hk.2).mono ?_; rintro e w2 ⟨rfl, hw2⟩; have HD2 := Lib.hid (by rw [hw2]; exact HD1.out.setg p.bi : DifI s go co gc cc G C (ng + 1) nc p.bi pc w2); have HX2 := Lib.hid (by rw [hw2]; exact (setCell_ne (by simp; omega)).trans HX1.out : w2.heap[Bx]? = some (pC p)); have HS2 := Lib.hid (by rw [hw2]; exact HS1.out.set (by simp) _ : Stp W0.heap.size [s, s + 1, s + 2, s + 3, s + 4, s + 5] W w2); have c5b : w2.cell? ⟨s, 0, none⟩ = some (.slice go G.length gc) := cell_blk HD2.out.h5 0; clear hw2
        refine hK.out _ _ (⟨cell_blk HD2.out.h9 0, cell_blk HX2.out 0⟩) (fun hHeld => ?_)
        clear hK K
        try simp only [Act.put, List.setIfInBounds_toArray, List.set_cons_zero, List.set_cons_succ]
        refine wpAnyH_ready (rs := [6]) (by kernel_rfl) (by simp) ?_
        refine AllReadyH.consL (i := 6) rfl (fun K hK => ?_) AllReadyH.nil
        go_simp
        refine (append_any _ go gc G (gpN pg p.bi) HD2.out.sg (gpN_lt _ _) hgl).mono ?_; rintro e w3 ⟨go', gc', rfl, hs3, hf3, hx3⟩; have HD3 := Lib.hid (by have h := HD2.out.app5 hs3 hf3 hx3; rw [List.length_append] at h; exact h : DifI s go' co gc' cc (G ++ varN (gpN pg p.bi)) C (ng + 1) nc p.bi pc (w3.setCell ⟨s, 0, none⟩ (.slice go' (G.length + (varN (gpN pg p.bi)).length) gc'))); have HX3 := Lib.hid (hf3.blk HX2.out HBG.out); have hno : ∀ k, k < s + 10 → k ∉ blk go := fun k hk hm => (by have := HD2.out.gn k hm; omega); have HK3 : Hid (w3.cell? ⟨s + 6, 0, none⟩ = some (.func (.func 55) #[] #[.pointer (some ⟨s + 4, 0, none⟩)])) := Lib.hid (cell_blk (hf3.blk HD2.out.h9 (hno _ (by omega))) 0); have HS3 := Lib.hid (HS2.out.app HN.out HD2.out.sg HGN.out hf3); have c5c : w3.cell? ⟨s, 0, none⟩ = some (.slice go G.length gc) := cell_blk (hf3.blk HD2.out.h5 (hno _ (by omega))) 0; have f5c : w3.frozen? ⟨s, 0, none⟩ = false := frozen_blk (hf3.blk HD2.out.h5 (hno _ (by omega))) 0; clear hs3 hf3 hx3 hno
        refine hK.out _ _ (⟨HK3.out, cell_blk HX3.out 0⟩) (fun hHeld => ?_)
        clear hK K
        try simp only [Act.put, List.setIfInBounds_toArray, List.set_cons_zero, List.set_cons_succ]
        refine wpAnyH_ready (rs := [7]) (by kernel_rfl) (by simp) ?_
        refine AllReadyH.consL (i := 7) rfl (fun K hK => ?_) AllReadyH.nil
        go_simp
        skip
        refine hK.out _ _ (⟨cell_blk HD3.out.h9 0, cell_blk ((setCell_ne (by simp; omega)).trans HX3.out) 0⟩) (fun hHeld => ?_)
        clear hK K
        try simp only [Act.put, List.setIfInBounds_toArray, List.set_cons_zero, List.set_cons_succ]
        refine wpAnyH_done (by kernel_rfl) ?_ _
        refine ⟨rfl, ?_⟩
        go_wp2
        exact HFIN.out _ (HS3.out.set (by simp) _) (HGONE.out HIA.out _ _ _ HD3.out)
      refine AllReadyH.consL (i := 5) rfl (fun K hK => ?_) AllReadyH.nil
      go_simp
      refine (gap_gen _ (s + 4) pg p.bi HD1.out.hg hpg.1 hpg.2 hk.1 hk.2).mono ?_; rintro e w2 ⟨rfl, hw2⟩; have HD2 := Lib.hid (by rw [hw2]; exact HD1.out.setg p.bi : DifI s go co gc cc G C (ng + 1) nc p.bi pc w2); have HX2 := Lib.hid (by rw [hw2]; exact (setCell_ne (by simp; omega)).trans HX1.out : w2.heap[Bx]? = some (pC p)); have HS2 := Lib.hid (by rw [hw2]; exact HS1.out.set (by simp) _ : Stp W0.heap.size [s, s + 1, s + 2, s + 3, s + 4, s + 5] W w2); have c5b : w2.cell? ⟨s, 0, none⟩ = some (.slice go G.length gc) := cell_blk HD2.out.h5 0; clear hw2
      refine hK.out _ _ (⟨cell_blk HD2.out.h9 0, cell_blk HX2.out 0⟩) (fun hHeld => ?_)
      clear hK K
      try simp only [Act.put, List.setIfInBounds_toArray, List.set_cons_zero, List.set_cons_succ]
      refine wpAnyH_ready (rs := [0]) (by kernel_rfl) (by simp) ?_
      refine AllReadyH.consL (i := 0) rfl (fun K hK => ?_) AllReadyH.nil
      go_simp
      skip
      refine hK.out _ _ (⟨cell_blk HD2.out.h9 0, cell_blk HX2.out 0⟩) (fun hHeld => ?_)
      clear hK K
      try simp only [Act.put, List.setIfInBounds_toArray, List.set_cons_zero, List.set_cons_succ]
      refine wpAnyH_ready (rs := [6]) (by kernel_rfl) (by simp) ?_
      refine AllReadyH.consL (i := 6) rfl (fun K hK => ?_) AllReadyH.nil
      go_simp
      refine (append_any _ go gc G (gpN pg p.bi) HD2.out.sg (gpN_lt _ _) hgl).mono ?_; rintro e w3 ⟨go', gc', rfl, hs3, hf3, hx3⟩; have HD3 := Lib.hid (by have h := HD2.out.app5 hs3 hf3 hx3; rw [List.length_append] at h; exact h : DifI s go' co gc' cc (G ++ varN (gpN pg p.bi)) C (ng + 1) nc p.bi pc (w3.setCell ⟨s, 0, none⟩ (.slice go' (G.length + (varN (gpN pg p.bi)).length) gc'))); have HX3 := Lib.hid (hf3.blk HX2.out HBG.out); have hno : ∀ k, k < s + 10 → k ∉ blk go := fun k hk hm => (by have := HD2.out.gn k hm; omega); have HK3 : Hid (w3.cell? ⟨s + 6, 0, none⟩ = some (.func (.func 55) #[] #[.pointer (some ⟨s + 4, 0, none⟩)])) := Lib.hid (cell_blk (hf3.blk HD2.out.h9 (hno _ (by omega))) 0); have HS3 := Lib.hid (HS2.out.app HN.out HD2.out.sg HGN.out hf3); have c5c : w3.cell? ⟨s, 0, none⟩ = some (.slice go G.length gc) := cell_blk (hf3.blk HD2.out.h5 (hno _ (by omega))) 0; have f5c : w3.frozen? ⟨s, 0, none⟩ = false := frozen_blk (hf3.blk HD2.out.h5 (hno _ (by omega))) 0; clear hs3 hf3 hx3 hno
      refine hK.out _ _ (⟨HK3.out, cell_blk HX3.out 0⟩) (fun hHeld => ?_)
      clear hK K
      try simp only [Act.put, List.setIfInBounds_toArray, List.set_cons_zero, List.set_cons_succ]
      refine wpAnyH_ready (rs := [7]) (by kernel_rfl) (by simp) ?_
      refine AllReadyH.consL (i := 7) rfl (fun K hK => ?_) AllReadyH.nil
      go_simp
      skip
      refine hK.out _ _ (⟨cell_blk HD3.out.h9 0, cell_blk ((setCell_ne (by simp; omega)).trans HX3.out) 0⟩) (fun hHeld => ?_)
      clear hK K
      try simp only [Act.put, List.setIfInBounds_toArray, List.set_cons_zero, List.set_cons_succ]
      refine wpAnyH_done (by kernel_rfl) ?_ _
      refine ⟨rfl, ?_⟩
      go_wp2
      exact HFIN.out _ (HS3.out.set (by simp) _) (HGONE.out HIA.out _ _ _ HD3.out)
    | true =>
      have hka := HPOK.out.a hia
      unfold idxOk at hka
      rw [hia] at z5
      cases hib : p.ib
      case' false =>
        have hch : isChg p = true := by simp [isChg, hia, hib]
        have HCH := Lib.hid hch
        rw [hib] at z4
        clear hia hib hch
        gi_upto_region 10 with fail
      case' true =>
        rw [hib] at z4
        by_cases heq : p.bi = p.ai ∧ p.bv = p.av
        case' pos =>
          have hne : ∀ u, (binOp .neq 48 (.agg #[.int .i64 p.bi, .int .i64 p.bv]) (.agg #[.int .i64 p.ai, .int .i64 p.av])).run Try.prog u = .ok (.bool false) u := fun u => by rw [ne_cell]; simp [heq.1, heq.2]
          have HDS := Lib.hid (HSAME.out (by simp [isChg, hia, hib, heq.1, heq.2]) hia)
          clear hia hib heq
          gi_wp2
          exact HFIN.out _ (Stp.refl _ _ W) HDS.out
        case' neg =>
          have hne : ∀ u, (binOp .neq 48 (.agg #[.int .i64 p.bi, .int .i64 p.bv]) (.agg #[.int .i64 p.ai, .int .i64 p.av])).run Try.prog u = .ok (.bool true) u := fun u => by rw [ne_cell]; simp; omega
          have hch : isChg p = true := by simp [isChg, hia, hib]; omega
          have HCH := Lib.hid hch
          clear hia hib heq hch
          gi_upto_region 10 with fail
      all_goals
        gi_wp2
        obtain ⟨W1, hW1⟩ : ∃ W1, W1 = (W.setCell ⟨s + 3, 0, none⟩ (.int .i64 ((nc : Int) + 1))).drew := ⟨_, rfl⟩
        have HD1 : Hid (DifI s go co gc cc G C ng (nc + 1) pg pc W1) := by
          have h := (HI.out.set8 (nc + 1)).fr ((Fr.refl [] _).drew)
          rw [show ((nc + 1 : Nat) : Int) = (nc : Int) + 1 by omega] at h
          rw [hW1]; exact Lib.hid h
        have HX1 : Hid (W1.heap[Bx]? = some (pC p)) := by rw [hW1]; exact Lib.hid ((setCell_ne (by simp; omega)).trans HX.out)
        have HS1 : Hid (Stp W0.heap.size [s, s + 1, s + 2, s + 3, s + 4, s + 5] W W1) := by rw [hW1]; exact Lib.hid (((Stp.refl _ _ W).set (by simp) _).drew)
        have c6a : W1.cell? ⟨s + 1, 0, none⟩ = some (.slice co C.length cc) := cell_blk HD1.out.h6 0
        refine wpIn_round_held (S := (fun u => u.cell? ⟨s + 7, 0, none⟩ = some (.func (.func 55) #[] #[.pointer (some ⟨s + 5, 0, none⟩)]) ∧ u.cell? ⟨Bx, 2, none⟩ = some (.int .i64 p.ai))) (by kernel_rfl) (by kernel_rfl) (by rw [← hW1]; exact ⟨cell_blk HD1.out.h10 0, cell_blk HX1.out 2⟩) (fun hHeld => ?_); rw [← hW1] at hHeld ⊢; clear hW1
        refine wpAnyH_takeL (i := 1) (v := _) rfl (by kernel_rfl) (by kernel_rfl) (by kernel_rfl) (fun _ _ _ h => nomatch h.1) (Or.inl ⟨by rfl, (by intro w' hSw; (try dsimp only at hSw); obtain ⟨q1, q2⟩ := hSw; go_simp; try with_reducible rfl)⟩) (by assumption) ?_
        try simp only [Act.put, List.setIfInBounds_toArray, List.set_cons_zero, List.set_cons_succ]
        refine wpAnyH_takeL (i := 2) (v := _) rfl (by kernel_rfl) (by kernel_rfl) (by kernel_rfl) (fun _ _ _ h => nomatch h.1) (Or.inl ⟨by rfl, (by intro w' hSw; (try dsimp only at hSw); obtain ⟨q1, q2⟩ := hSw; go_simp; try with_reducible rfl)⟩) (by assumption) ?_
        try simp only [Act.put, List.setIfInBounds_toArray, List.set_cons_zero, List.set_cons_succ]
        refine wpAnyH_takeL (i := 3) (v := _) rfl (by kernel_rfl) (by kernel_rfl) (by kernel_rfl) (fun _ _ _ h => nomatch h.1) (Or.inl ⟨by rfl, (by intro w' hSw; (try dsimp only at hSw); obtain ⟨q1, q2⟩ := hSw; go_simp; try with_reducible rfl)⟩) (by assumption) ?_
        try simp only [Act.put, List.setIfInBounds_toArray, List.set_cons_zero, List.set_cons_succ]
        refine wpAnyH_takeL (i := 4) (v := _) rfl (by kernel_rfl) (by kernel_rfl) (by kernel_rfl) (fun _ _ _ h => nomatch h.1) (Or.inl ⟨by rfl, (by intro w' hSw; (try dsimp only at hSw); obtain ⟨q1, q2⟩ := hSw; go_simp; try with_reducible rfl)⟩) (by assumption) ?_
        try simp only [Act.put, List.setIfInBounds_toArray, List.set_cons_zero, List.set_cons_succ]
        refine wpAnyH_ready (rs := [0, 5]) (by kernel_rfl) (by simp) ?_
        refine AllReadyH.consL (i := 0) rfl (fun K hK => ?_) ?_
        · go_simp
          skip
          refine hK.out _ _ (⟨cell_blk HD1.out.h10 0, cell_blk HX1.out 2⟩) (fun hHeld => ?_)
          clear hK K
          try simp only [Act.put, List.setIfInBounds_toArray, List.set_cons_zero, List.set_cons_succ]
          refine wpAnyH_ready (rs := [5]) (by kernel_rfl) (by simp) ?_
          refine AllReadyH.consL (i := 5) rfl (fun K hK => ?_) AllReadyH.nil
          go_simp
          refine (gap_gen _ (s + 5) pc p.ai HD1.out.hc hpc.1 hpc.2 hka.1 hka.2).mono ?_; rintro e w2 ⟨rfl, hw2⟩; have HD2 := Lib.hid (by rw [hw2]; exact HD1.out.setc p.ai : DifI s go co gc cc G C ng (nc + 1) pg p.ai w2); have HX2 := Lib.hid (by rw [hw2]; exact (setCell_ne (by simp; omega)).trans HX1.out : w2.heap[Bx]? = some (pC p)); have HS2 := Lib.hid (by rw [hw2]; exact HS1.out.set (by simp) _ : Stp W0.heap.size [s, s + 1, s + 2, s + 3, s + 4, s + 5] W w2); have c6b : w2.cell? ⟨s + 1, 0, none⟩ = some (.slice co C.length cc) := cell_blk HD2.out.h6 0; clear hw2
          refine hK.out _ _ (⟨cell_blk HD2.out.h10 0, cell_blk HX2.out 2⟩) (fun hHeld => ?_)
          clear hK K
          try simp only [Act.put, List.setIfInBounds_toArray, List.set_cons_zero, List.set_cons_succ]
          refine wpAnyH_ready (rs := [6]) (by kernel_rfl) (by simp) ?_
          refine AllReadyH.consL (i := 6) rfl (fun K hK => ?_) AllReadyH.nil
          go_simp
          refine (append_any _ co cc C (gpN pc p.ai) HD2.out.sc (gpN_lt _ _) (by omega)).mono ?_; rintro e w3 ⟨co', cc', rfl, hs3, hf3, hx3⟩; have HD3 := Lib.hid (by have h := HD2.out.app6 hs3 hf3 hx3; rw [List.length_append] at h; exact h : DifI s go co' gc cc' G (C ++ varN (gpN pc p.ai)) ng (nc + 1) pg p.ai (w3.setCell ⟨s + 1, 0, none⟩ (.slice co' (C.length + (varN (gpN pc p.ai)).length) cc'))); have HX3 := Lib.hid (hf3.blk HX2.out HBC.out); have hno : ∀ k, k < s + 10 → k ∉ blk co := fun k hk hm => (by have := HD2.out.cn k hm; omega); have HK3 : Hid (w3.cell? ⟨s + 7, 0, none⟩ = some (.func (.func 55) #[] #[.pointer (some ⟨s + 5, 0, none⟩)])) := Lib.hid (cell_blk (hf3.blk HD2.out.h10 (hno _ (by omega))) 0); have HS3 := Lib.hid (HS2.out.app HN.out HD2.out.sc HCN.out hf3); have c6c : w3.cell? ⟨s + 1, 0, none⟩ = some (.slice co C.length cc) := cell_blk (hf3.blk HD2.out.h6 (hno _ (by omega))) 0; have f6c : w3.frozen? ⟨s + 1, 0, none⟩ = false := frozen_blk (hf3.blk HD2.out.h6 (hno _ (by omega))) 0; clear hs3 hf3 hx3 hno
          refine hK.out _ _ (⟨HK3.out, cell_blk HX3.out 2⟩) (fun hHeld => ?_)
          clear hK K
          try simp only [Act.put, List.setIfInBounds_toArray, List.set_cons_zero, List.set_cons_succ]
          refine wpAnyH_ready (rs := [7]) (by kernel_rfl) (by simp) ?_
          refine AllReadyH.consL (i := 7) rfl (fun K hK => ?_) AllReadyH.nil
          go_simp
          skip
          refine hK.out _ _ (⟨cell_blk HD3.out.h10 0, cell_blk ((setCell_ne (by simp; omega)).trans HX3.out) 2⟩) (fun hHeld => ?_)
          clear hK K
          try simp only [Act.put, List.setIfInBounds_toArray, List.set_cons_zero, List.set_cons_succ]
          refine wpAnyH_done (by kernel_rfl) ?_ _
          refine ⟨rfl, ?_⟩
          go_wp2
          obtain ⟨C1, hC1⟩ : ∃ C1, C1 = C ++ varN (gpN pc p.ai) := ⟨_, rfl⟩
          have hl1 : C.length + (varN (gpN pc p.ai)).length = C1.length := by rw [hC1, List.length_append]
          have hcl1 : C1.length ≤ 1099511627776 := by have := varN_len (gpN_lt pc p.ai); omega
          have HC1 := Lib.hid hC1
          rw [hl1]
          rw [hl1, ← hC1] at HD3
          clear hl1 hC1
          obtain ⟨W5, hW5⟩ : ∃ W5, W5 = (w3.setCell ⟨s + 1, 0, none⟩ (.slice co' C1.length cc')).drew := ⟨_, rfl⟩
          have HD5 : Hid (DifI s go co' gc cc' G C1 ng (nc + 1) pg p.ai W5) := by rw [hW5]; exact Lib.hid (HD3.out.fr ((Fr.refl [] _).drew))
          have HX5 : Hid (W5.heap[Bx]? = some (pC p)) := by rw [hW5]; exact Lib.hid ((setCell_ne (by simp; omega)).trans HX3.out)
          have HS5 : Hid (Stp W0.heap.size [s, s + 1, s + 2, s + 3, s + 4, s + 5] W W5) := by rw [hW5]; exact Lib.hid ((HS3.out.set (by simp) _).drew)
          have c6d : W5.cell? ⟨s + 1, 0, none⟩ = some (.slice co' C1.length cc') := cell_blk HD5.out.h6 0
          have HBC5 := Lib.hid (HD5.out.sc.ne_type HX5.out (by decide) : Bx ∉ blk co')
          have HCN5 := Lib.hid (by have h := HD5.out.cn; rw [← HSZ.out] at h; exact h : ∀ k ∈ blk co', W0.heap.size ≤ k)
          clear c6a c6b c6c f6c hHeld
          refine wpIn_round_held (S := (fun u => u.cell? ⟨Bx, 3, none⟩ = some (.int .i64 p.av) ∧ u.cell? ⟨Bx, 1, none⟩ = some (.int .i64 p.bv))) (by kernel_rfl) (by kernel_rfl) (by rw [← hW5]; exact ⟨cell_blk HX5.out 3, cell_blk HX5.out 1⟩) (fun hHeld => ?_); rw [← hW5] at hHeld ⊢; clear hW5
          refine wpAnyH_takeL (i := 1) (v := _) rfl (by kernel_rfl) (by kernel_rfl) (by kernel_rfl) (fun _ _ _ h => nomatch h.1) (Or.inl ⟨by rfl, (by intro w' hSw; (try dsimp only at hSw); obtain ⟨q1, q2⟩ := hSw; go_simp; try with_reducible rfl)⟩) (by assumption) ?_
          try simp only [Act.put, List.setIfInBounds_toArray, List.set_cons_zero, List.set_cons_succ]
          refine wpAnyH_takeL (i := 2) (v := _) rfl (by kernel_rfl) (by kernel_rfl) (by kernel_rfl) (fun _ _ _ h => nomatch h.1) (Or.inl ⟨by rfl, (by intro w' hSw; (try dsimp only at hSw); obtain ⟨q1, q2⟩ := hSw; go_simp; try with_reducible rfl)⟩) (by assumption) ?_
          try simp only [Act.put, List.setIfInBounds_toArray, List.set_cons_zero, List.set_cons_succ]
          refine wpAnyH_takeL (i := 3) (v := _) rfl (by kernel_rfl) (by kernel_rfl) (by kernel_rfl) (fun _ _ _ h => nomatch h.1) (Or.inl ⟨by rfl, (by intro w' hSw; (try dsimp only at hSw); obtain ⟨q1, q2⟩ := hSw; go_simp; try with_reducible rfl)⟩) (by assumption) ?_
          try simp only [Act.put, List.setIfInBounds_toArray, List.set_cons_zero, List.set_cons_succ]
          refine wpAnyH_takeL (i := 4) (v := _) rfl (by kernel_rfl) (by kernel_rfl) (by kernel_rfl) (fun _ _ _ h => nomatch h.1) (Or.inl ⟨by rfl, (by intro w' hSw; (try dsimp only at hSw); obtain ⟨q1, q2⟩ := hSw; go_simp; try with_reducible rfl)⟩) (by assumption) ?_
          try simp only [Act.put, List.setIfInBounds_toArray, List.set_cons_zero, List.set_cons_succ]
          refine wpAnyH_takeL (i := 5) (v := _) rfl (by kernel_rfl) (by kernel_rfl) (by kernel_rfl) (fun _ _ _ h => nomatch h.1) (Or.inl ⟨by rfl, (by intro w' hSw; (try dsimp only at hSw); obtain ⟨q1, q2⟩ := hSw; go_simp; try with_reducible rfl)⟩) (by assumption) ?_
          try simp only [Act.put, List.setIfInBounds_toArray, List.set_cons_zero, List.set_cons_succ]
          refine wpAnyH_takeL (i := 6) (v := _) rfl (by kernel_rfl) (by kernel_rfl) (by kernel_rfl) (fun _ _ _ h => nomatch h.1) (Or.inl ⟨by rfl, (by intro w' hSw; (try dsimp only at hSw); obtain ⟨q1, q2⟩ := hSw; go_simp; try with_reducible rfl)⟩) (by assumption) ?_
          try simp only [Act.put, List.setIfInBounds_toArray, List.set_cons_zero, List.set_cons_succ]
          refine wpAnyH_takeL (i := 7) (v := _) rfl (by kernel_rfl) (by kernel_rfl) (by kernel_rfl) (fun _ _ _ h => nomatch h.1) (Or.inl ⟨by rfl, (by intro w' hSw; (try dsimp only at hSw); obtain ⟨q1, q2⟩ := hSw; go_simp; try with_reducible rfl)⟩) (by assumption) ?_
          try simp only [Act.put, List.setIfInBounds_toArray, List.set_cons_zero, List.set_cons_succ]
          refine wpAnyH_ready (rs := [0, 8]) (by kernel_rfl) (by simp) ?_
          refine AllReadyH.consL (i := 0) rfl (fun K hK => ?_) ?_
          · go_simp
            skip
            refine hK.out _ _ (⟨cell_blk HX5.out 3, cell_blk HX5.out 1⟩) (fun hHeld => ?_)
            clear hK K
            try simp only [Act.put, List.setIfInBounds_toArray, List.set_cons_zero, List.set_cons_succ]
            refine wpAnyH_ready (rs := [8]) (by kernel_rfl) (by simp) ?_
            refine AllReadyH.consL (i := 8) rfl (fun K hK => ?_) AllReadyH.nil
            go_simp
            rw [HWR.out]; refine (zigzag_any _ (wrap64 (p.av - p.bv)) (wrap64_bd _).1 (wrap64_bd _).2).mono ?_; rintro e w6 ⟨rfl, rfl⟩
            refine hK.out _ _ (⟨cell_blk HX5.out 3, cell_blk HX5.out 1⟩) (fun hHeld => ?_)
            clear hK K
            try simp only [Act.put, List.setIfInBounds_toArray, List.set_cons_zero, List.set_cons_succ]
            refine wpAnyH_ready (rs := [9]) (by kernel_rfl) (by simp) ?_
            refine AllReadyH.consL (i := 9) rfl (fun K hK => ?_) AllReadyH.nil
            go_simp
            refine (append_any _ co' cc' C1 _ HD5.out.sc (zz_fit _) hcl1).mono ?_; rintro e w7 ⟨c2, cc2, rfl, hs7, hf7, hx7⟩; have HD7 := Lib.hid (by have h := HD5.out.app6 hs7 hf7 hx7; rw [List.length_append] at h; exact h : DifI s go c2 gc cc2 G (C1 ++ varN (zz (wrap64 (p.av - p.bv)))) ng (nc + 1) pg p.ai (w7.setCell ⟨s + 1, 0, none⟩ (.slice c2 (C1.length + (varN (zz (wrap64 (p.av - p.bv)))).length) cc2))); have HX7 := Lib.hid (hf7.blk HX5.out HBC5.out); have hno : ∀ k, k < s + 10 → k ∉ blk co' := fun k hk hm => (by have := HD5.out.cn k hm; omega); have HS7 := Lib.hid (HS5.out.app HN.out HD5.out.sc HCN5.out hf7); have c6e : w7.cell? ⟨s + 1, 0, none⟩ = some (.slice co' C1.length cc') := cell_blk (hf7.blk HD5.out.h6 (hno _ (by omega))) 0; have f6e : w7.frozen? ⟨s + 1, 0, none⟩ = false := frozen_blk (hf7.blk HD5.out.h6 (hno _ (by omega))) 0; clear hs7 hf7 hx7 hno
            refine hK.out _ _ (⟨cell_blk HX7.out 3, cell_blk HX7.out 1⟩) (fun hHeld => ?_)
            clear hK K
            try simp only [Act.put, List.setIfInBounds_toArray, List.set_cons_zero, List.set_cons_succ]
            refine wpAnyH_ready (rs := [10]) (by kernel_rfl) (by simp) ?_
            refine AllReadyH.consL (i := 10) rfl (fun K hK => ?_) AllReadyH.nil
            go_simp
            skip
            refine hK.out _ _ (⟨cell_blk ((setCell_ne (by simp; omega)).trans HX7.out) 3, cell_blk ((setCell_ne (by simp; omega)).trans HX7.out) 1⟩) (fun hHeld => ?_)
            clear hK K
            try simp only [Act.put, List.setIfInBounds_toArray, List.set_cons_zero, List.set_cons_succ]
            refine wpAnyH_done (by kernel_rfl) ?_ _
            refine ⟨rfl, ?_⟩
            go_wp2
            exact HFIN.out _ (HS7.out.set (by simp) _) (HCHG.out HCH.out _ _ _ (by rw [← HC1.out]; exact HD7.out))
          refine AllReadyH.consL (i := 8) rfl (fun K hK => ?_) AllReadyH.nil
          go_simp
          rw [HWR.out]; refine (zigzag_any _ (wrap64 (p.av - p.bv)) (wrap64_bd _).1 (wrap64_bd _).2).mono ?_; rintro e w6 ⟨rfl, rfl⟩
          refine hK.out _ _ (⟨cell_blk HX5.out 3, cell_blk HX5.out 1⟩) (fun hHeld => ?_)
          clear hK K
          try simp only [Act.put, List.setIfInBounds_toArray, List.set_cons_zero, List.set_cons_succ]
          refine wpAnyH_ready (rs := [0]) (by kernel_rfl) (by simp) ?_
          refine AllReadyH.consL (i := 0) rfl (fun K hK => ?_) AllReadyH.nil
          go_simp
          skip
          refine hK.out _ _ (⟨cell_blk HX5.out 3, cell_blk HX5.out 1⟩) (fun hHeld => ?_)
          clear hK K
          try simp only [Act.put, List.setIfInBounds_toArray, List.set_cons_zero, List.set_cons_succ]
          refine wpAnyH_ready (rs := [9]) (by kernel_rfl) (by simp) ?_
          refine AllReadyH.consL (i := 9) rfl (fun K hK => ?_) AllReadyH.nil
          go_simp
          refine (append_any _ co' cc' C1 _ HD5.out.sc (zz_fit _) hcl1).mono ?_; rintro e w7 ⟨c2, cc2, rfl, hs7, hf7, hx7⟩; have HD7 := Lib.hid (by have h := HD5.out.app6 hs7 hf7 hx7; rw [List.length_append] at h; exact h : DifI s go c2 gc cc2 G (C1 ++ varN (zz (wrap64 (p.av - p.bv)))) ng (nc + 1) pg p.ai (w7.setCell ⟨s + 1, 0, none⟩ (.slice c2 (C1.length + (varN (zz (wrap64 (p.av - p.bv)))).length) cc2))); have HX7 := Lib.hid (hf7.blk HX5.out HBC5.out); have hno : ∀ k, k < s + 10 → k ∉ blk co' := fun k hk hm => (by have := HD5.out.cn k hm; omega); have HS7 := Lib.hid (HS5.out.app HN.out HD5.out.sc HCN5.out hf7); have c6e : w7.cell? ⟨s + 1, 0, none⟩ = some (.slice co' C1.length cc') := cell_blk (hf7.blk HD5.out.h6 (hno _ (by omega))) 0; have f6e : w7.frozen? ⟨s + 1, 0, none⟩ = false := frozen_blk (hf7.blk HD5.out.h6 (hno _ (by omega))) 0; clear hs7 hf7 hx7 hno
          refine hK.out _ _ (⟨cell_blk HX7.out 3, cell_blk HX7.out 1⟩) (fun hHeld => ?_)
          clear hK K
          try simp only [Act.put, List.setIfInBounds_toArray, List.set_cons_zero, List.set_cons_succ]
          refine wpAnyH_ready (rs := [10]) (by kernel_rfl) (by simp) ?_
          refine AllReadyH.consL (i := 10) rfl (fun K hK => ?_) AllReadyH.nil
          go_simp
          skip
          refine hK.out _ _ (⟨cell_blk ((setCell_ne (by simp; omega)).trans HX7.out) 3, cell_blk ((setCell_ne (by simp; omega)).trans HX7.out) 1⟩) (fun hHeld => ?_)
          clear hK K
          try simp only [Act.put, List.setIfInBounds_toArray, List.set_cons_zero, List.set_cons_succ]
          refine wpAnyH_done (by kernel_rfl) ?_ _
          refine ⟨rfl, ?_⟩
          go_wp2
          exact HFIN.out _ (HS7.out.set (by simp) _) (HCHG.out HCH.out _ _ _ (by rw [← HC1.out]; exact HD7.out))
        refine AllReadyH.consL (i := 5) rfl (fun K hK => ?_) AllReadyH.nil
        go_simp
        refine (gap_gen _ (s + 5) pc p.ai HD1.out.hc hpc.1 hpc.2 hka.1 hka.2).mono ?_; rintro e w2 ⟨rfl, hw2⟩; have HD2 := Lib.hid (by rw [hw2]; exact HD1.out.setc p.ai : DifI s go co gc cc G C ng (nc + 1) pg p.ai w2); have HX2 := Lib.hid (by rw [hw2]; exact (setCell_ne (by simp; omega)).trans HX1.out : w2.heap[Bx]? = some (pC p)); have HS2 := Lib.hid (by rw [hw2]; exact HS1.out.set (by simp) _ : Stp W0.heap.size [s, s + 1, s + 2, s + 3, s + 4, s + 5] W w2); have c6b : w2.cell? ⟨s + 1, 0, none⟩ = some (.slice co C.length cc) := cell_blk HD2.out.h6 0; clear hw2
        refine hK.out _ _ (⟨cell_blk HD2.out.h10 0, cell_blk HX2.out 2⟩) (fun hHeld => ?_)
        clear hK K
        try simp only [Act.put, List.setIfInBounds_toArray, List.set_cons_zero, List.set_cons_succ]
        refine wpAnyH_ready (rs := [0]) (by kernel_rfl) (by simp) ?_
        refine AllReadyH.consL (i := 0) rfl (fun K hK => ?_) AllReadyH.nil
        go_simp
        skip
        refine hK.out _ _ (⟨cell_blk HD2.out.h10 0, cell_blk HX2.out 2⟩) (fun hHeld => ?_)
        clear hK K
        try simp only [Act.put, List.setIfInBounds_toArray, List.set_cons_zero, List.set_cons_succ]
        refine wpAnyH_ready (rs := [6]) (by kernel_rfl) (by simp) ?_
        refine AllReadyH.consL (i := 6) rfl (fun K hK => ?_) AllReadyH.nil
        go_simp
        refine (append_any _ co cc C (gpN pc p.ai) HD2.out.sc (gpN_lt _ _) (by omega)).mono ?_; rintro e w3 ⟨co', cc', rfl, hs3, hf3, hx3⟩; have HD3 := Lib.hid (by have h := HD2.out.app6 hs3 hf3 hx3; rw [List.length_append] at h; exact h : DifI s go co' gc cc' G (C ++ varN (gpN pc p.ai)) ng (nc + 1) pg p.ai (w3.setCell ⟨s + 1, 0, none⟩ (.slice co' (C.length + (varN (gpN pc p.ai)).length) cc'))); have HX3 := Lib.hid (hf3.blk HX2.out HBC.out); have hno : ∀ k, k < s + 10 → k ∉ blk co := fun k hk hm => (by have := HD2.out.cn k hm; omega); have HK3 : Hid (w3.cell? ⟨s + 7, 0, none⟩ = some (.func (.func 55) #[] #[.pointer (some ⟨s + 5, 0, none⟩)])) := Lib.hid (cell_blk (hf3.blk HD2.out.h10 (hno _ (by omega))) 0); have HS3 := Lib.hid (HS2.out.app HN.out HD2.out.sc HCN.out hf3); have c6c : w3.cell? ⟨s + 1, 0, none⟩ = some (.slice co C.length cc) := cell_blk (hf3.blk HD2.out.h6 (hno _ (by omega))) 0; have f6c : w3.frozen? ⟨s + 1, 0, none⟩ = false := frozen_blk (hf3.blk HD2.out.h6 (hno _ (by omega))) 0; clear hs3 hf3 hx3 hno
        refine hK.out _ _ (⟨HK3.out, cell_blk HX3.out 2⟩) (fun hHeld => ?_)
        clear hK K
        try simp only [Act.put, List.setIfInBounds_toArray, List.set_cons_zero, List.set_cons_succ]
        refine wpAnyH_ready (rs := [7]) (by kernel_rfl) (by simp) ?_
        refine AllReadyH.consL (i := 7) rfl (fun K hK => ?_) AllReadyH.nil
        go_simp
        skip
        refine hK.out _ _ (⟨cell_blk HD3.out.h10 0, cell_blk ((setCell_ne (by simp; omega)).trans HX3.out) 2⟩) (fun hHeld => ?_)
        clear hK K
        try simp only [Act.put, List.setIfInBounds_toArray, List.set_cons_zero, List.set_cons_succ]
        refine wpAnyH_done (by kernel_rfl) ?_ _
        refine ⟨rfl, ?_⟩
        go_wp2
        obtain ⟨C1, hC1⟩ : ∃ C1, C1 = C ++ varN (gpN pc p.ai) := ⟨_, rfl⟩
        have hl1 : C.length + (varN (gpN pc p.ai)).length = C1.length := by rw [hC1, List.length_append]
        have hcl1 : C1.length ≤ 1099511627776 := by have := varN_len (gpN_lt pc p.ai); omega
        have HC1 := Lib.hid hC1
        rw [hl1]
        rw [hl1, ← hC1] at HD3
        clear hl1 hC1
        obtain ⟨W5, hW5⟩ : ∃ W5, W5 = (w3.setCell ⟨s + 1, 0, none⟩ (.slice co' C1.length cc')).drew := ⟨_, rfl⟩
        have HD5 : Hid (DifI s go co' gc cc' G C1 ng (nc + 1) pg p.ai W5) := by rw [hW5]; exact Lib.hid (HD3.out.fr ((Fr.refl [] _).drew))
        have HX5 : Hid (W5.heap[Bx]? = some (pC p)) := by rw [hW5]; exact Lib.hid ((setCell_ne (by simp; omega)).trans HX3.out)
        have HS5 : Hid (Stp W0.heap.size [s, s + 1, s + 2, s + 3, s + 4, s + 5] W W5) := by rw [hW5]; exact Lib.hid ((HS3.out.set (by simp) _).drew)
        have c6d : W5.cell? ⟨s + 1, 0, none⟩ = some (.slice co' C1.length cc') := cell_blk HD5.out.h6 0
        have HBC5 := Lib.hid (HD5.out.sc.ne_type HX5.out (by decide) : Bx ∉ blk co')
        have HCN5 := Lib.hid (by have h := HD5.out.cn; rw [← HSZ.out] at h; exact h : ∀ k ∈ blk co', W0.heap.size ≤ k)
        clear c6a c6b c6c f6c hHeld
        refine wpIn_round_held (S := (fun u => u.cell? ⟨Bx, 3, none⟩ = some (.int .i64 p.av) ∧ u.cell? ⟨Bx, 1, none⟩ = some (.int .i64 p.bv))) (by kernel_rfl) (by kernel_rfl) (by rw [← hW5]; exact ⟨cell_blk HX5.out 3, cell_blk HX5.out 1⟩) (fun hHeld => ?_); rw [← hW5] at hHeld ⊢; clear hW5
        refine wpAnyH_takeL (i := 1) (v := _) rfl (by kernel_rfl) (by kernel_rfl) (by kernel_rfl) (fun _ _ _ h => nomatch h.1) (Or.inl ⟨by rfl, (by intro w' hSw; (try dsimp only at hSw); obtain ⟨q1, q2⟩ := hSw; go_simp; try with_reducible rfl)⟩) (by assumption) ?_
        try simp only [Act.put, List.setIfInBounds_toArray, List.set_cons_zero, List.set_cons_succ]
        refine wpAnyH_takeL (i := 2) (v := _) rfl (by kernel_rfl) (by kernel_rfl) (by kernel_rfl) (fun _ _ _ h => nomatch h.1) (Or.inl ⟨by rfl, (by intro w' hSw; (try dsimp only at hSw); obtain ⟨q1, q2⟩ := hSw; go_simp; try with_reducible rfl)⟩) (by assumption) ?_
        try simp only [Act.put, List.setIfInBounds_toArray, List.set_cons_zero, List.set_cons_succ]
        refine wpAnyH_takeL (i := 3) (v := _) rfl (by kernel_rfl) (by kernel_rfl) (by kernel_rfl) (fun _ _ _ h => nomatch h.1) (Or.inl ⟨by rfl, (by intro w' hSw; (try dsimp only at hSw); obtain ⟨q1, q2⟩ := hSw; go_simp; try with_reducible rfl)⟩) (by assumption) ?_
        try simp only [Act.put, List.setIfInBounds_toArray, List.set_cons_zero, List.set_cons_succ]
        refine wpAnyH_takeL (i := 4) (v := _) rfl (by kernel_rfl) (by kernel_rfl) (by kernel_rfl) (fun _ _ _ h => nomatch h.1) (Or.inl ⟨by rfl, (by intro w' hSw; (try dsimp only at hSw); obtain ⟨q1, q2⟩ := hSw; go_simp; try with_reducible rfl)⟩) (by assumption) ?_
        try simp only [Act.put, List.setIfInBounds_toArray, List.set_cons_zero, List.set_cons_succ]
        refine wpAnyH_takeL (i := 5) (v := _) rfl (by kernel_rfl) (by kernel_rfl) (by kernel_rfl) (fun _ _ _ h => nomatch h.1) (Or.inl ⟨by rfl, (by intro w' hSw; (try dsimp only at hSw); obtain ⟨q1, q2⟩ := hSw; go_simp; try with_reducible rfl)⟩) (by assumption) ?_
        try simp only [Act.put, List.setIfInBounds_toArray, List.set_cons_zero, List.set_cons_succ]
        refine wpAnyH_takeL (i := 6) (v := _) rfl (by kernel_rfl) (by kernel_rfl) (by kernel_rfl) (fun _ _ _ h => nomatch h.1) (Or.inl ⟨by rfl, (by intro w' hSw; (try dsimp only at hSw); obtain ⟨q1, q2⟩ := hSw; go_simp; try with_reducible rfl)⟩) (by assumption) ?_
        try simp only [Act.put, List.setIfInBounds_toArray, List.set_cons_zero, List.set_cons_succ]
        refine wpAnyH_takeL (i := 7) (v := _) rfl (by kernel_rfl) (by kernel_rfl) (by kernel_rfl) (fun _ _ _ h => nomatch h.1) (Or.inl ⟨by rfl, (by intro w' hSw; (try dsimp only at hSw); obtain ⟨q1, q2⟩ := hSw; go_simp; try with_reducible rfl)⟩) (by assumption) ?_
        try simp only [Act.put, List.setIfInBounds_toArray, List.set_cons_zero, List.set_cons_succ]
        refine wpAnyH_ready (rs := [0, 8]) (by kernel_rfl) (by simp) ?_
        refine AllReadyH.consL (i := 0) rfl (fun K hK => ?_) ?_
        · go_simp
          skip
          refine hK.out _ _ (⟨cell_blk HX5.out 3, cell_blk HX5.out 1⟩) (fun hHeld => ?_)
          clear hK K
          try simp only [Act.put, List.setIfInBounds_toArray, List.set_cons_zero, List.set_cons_succ]
          refine wpAnyH_ready (rs := [8]) (by kernel_rfl) (by simp) ?_
          refine AllReadyH.consL (i := 8) rfl (fun K hK => ?_) AllReadyH.nil
          go_simp
          rw [HWR.out]; refine (zigzag_any _ (wrap64 (p.av - p.bv)) (wrap64_bd _).1 (wrap64_bd _).2).mono ?_; rintro e w6 ⟨rfl, rfl⟩
          refine hK.out _ _ (⟨cell_blk HX5.out 3, cell_blk HX5.out 1⟩) (fun hHeld => ?_)
          clear hK K
          try simp only [Act.put, List.setIfInBounds_toArray, List.set_cons_zero, List.set_cons_succ]
          refine wpAnyH_ready (rs := [9]) (by kernel_rfl) (by simp) ?_
          refine AllReadyH.consL (i := 9) rfl (fun K hK => ?_) AllReadyH.nil
          go_simp
          refine (append_any _ co' cc' C1 _ HD5.out.sc (zz_fit _) hcl1).mono ?_; rintro e w7 ⟨c2, cc2, rfl, hs7, hf7, hx7⟩; have HD7 := Lib.hid (by have h := HD5.out.app6 hs7 hf7 hx7; rw [List.length_append] at h; exact h : DifI s go c2 gc cc2 G (C1 ++ varN (zz (wrap64 (p.av - p.bv)))) ng (nc + 1) pg p.ai (w7.setCell ⟨s + 1, 0, none⟩ (.slice c2 (C1.length + (varN (zz (wrap64 (p.av - p.bv)))).length) cc2))); have HX7 := Lib.hid (hf7.blk HX5.out HBC5.out); have hno : ∀ k, k < s + 10 → k ∉ blk co' := fun k hk hm => (by have := HD5.out.cn k hm; omega); have HS7 := Lib.hid (HS5.out.app HN.out HD5.out.sc HCN5.out hf7); have c6e : w7.cell? ⟨s + 1, 0, none⟩ = some (.slice co' C1.length cc') := cell_blk (hf7.blk HD5.out.h6 (hno _ (by omega))) 0; have f6e : w7.frozen? ⟨s + 1, 0, none⟩ = false := frozen_blk (hf7.blk HD5.out.h6 (hno _ (by omega))) 0; clear hs7 hf7 hx7 hno
          refine hK.out _ _ (⟨cell_blk HX7.out 3, cell_blk HX7.out 1⟩) (fun hHeld => ?_)
          clear hK K
          try simp only [Act.put, List.setIfInBounds_toArray, List.set_cons_zero, List.set_cons_succ]
          refine wpAnyH_ready (rs := [10]) (by kernel_rfl) (by simp) ?_
          refine AllReadyH.consL (i := 10) rfl (fun K hK => ?_) AllReadyH.nil
          go_simp
          skip
          refine hK.out _ _ (⟨cell_blk ((setCell_ne (by simp; omega)).trans HX7.out) 3, cell_blk ((setCell_ne (by simp; omega)).trans HX7.out) 1⟩) (fun hHeld => ?_)
          clear hK K
          try simp only [Act.put, List.setIfInBounds_toArray, List.set_cons_zero, List.set_cons_succ]
          refine wpAnyH_done (by kernel_rfl) ?_ _
          refine ⟨rfl, ?_⟩
          go_wp2
          exact HFIN.out _ (HS7.out.set (by simp) _) (HCHG.out HCH.out _ _ _ (by rw [← HC1.out]; exact HD7.out))
        refine AllReadyH.consL (i := 8) rfl (fun K hK => ?_) AllReadyH.nil
        go_simp
        rw [HWR.out]; refine (zigzag_any _ (wrap64 (p.av - p.bv)) (wrap64_bd _).1 (wrap64_bd _).2).mono ?_; rintro e w6 ⟨rfl, rfl⟩
        refine hK.out _ _ (⟨cell_blk HX5.out 3, cell_blk HX5.out 1⟩) (fun hHeld => ?_)
        clear hK K
        try simp only [Act.put, List.setIfInBounds_toArray, List.set_cons_zero, List.set_cons_succ]
        refine wpAnyH_ready (rs := [0]) (by kernel_rfl) (by simp) ?_
        refine AllReadyH.consL (i := 0) rfl (fun K hK => ?_) AllReadyH.nil
        go_simp
        skip
        refine hK.out _ _ (⟨cell_blk HX5.out 3, cell_blk HX5.out 1⟩) (fun hHeld => ?_)
        clear hK K
        try simp only [Act.put, List.setIfInBounds_toArray, List.set_cons_zero, List.set_cons_succ]
        refine wpAnyH_ready (rs := [9]) (by kernel_rfl) (by simp) ?_
        refine AllReadyH.consL (i := 9) rfl (fun K hK => ?_) AllReadyH.nil
        go_simp
        refine (append_any _ co' cc' C1 _ HD5.out.sc (zz_fit _) hcl1).mono ?_; rintro e w7 ⟨c2, cc2, rfl, hs7, hf7, hx7⟩; have HD7 := Lib.hid (by have h := HD5.out.app6 hs7 hf7 hx7; rw [List.length_append] at h; exact h : DifI s go c2 gc cc2 G (C1 ++ varN (zz (wrap64 (p.av - p.bv)))) ng (nc + 1) pg p.ai (w7.setCell ⟨s + 1, 0, none⟩ (.slice c2 (C1.length + (varN (zz (wrap64 (p.av - p.bv)))).length) cc2))); have HX7 := Lib.hid (hf7.blk HX5.out HBC5.out); have hno : ∀ k, k < s + 10 → k ∉ blk co' := fun k hk hm => (by have := HD5.out.cn k hm; omega); have HS7 := Lib.hid (HS5.out.app HN.out HD5.out.sc HCN5.out hf7); have c6e : w7.cell? ⟨s + 1, 0, none⟩ = some (.slice co' C1.length cc') := cell_blk (hf7.blk HD5.out.h6 (hno _ (by omega))) 0; have f6e : w7.frozen? ⟨s + 1, 0, none⟩ = false := frozen_blk (hf7.blk HD5.out.h6 (hno _ (by omega))) 0; clear hs7 hf7 hx7 hno
        refine hK.out _ _ (⟨cell_blk HX7.out 3, cell_blk HX7.out 1⟩) (fun hHeld => ?_)
        clear hK K
        try simp only [Act.put, List.setIfInBounds_toArray, List.set_cons_zero, List.set_cons_succ]
        refine wpAnyH_ready (rs := [10]) (by kernel_rfl) (by simp) ?_
        refine AllReadyH.consL (i := 10) rfl (fun K hK => ?_) AllReadyH.nil
        go_simp
        skip
        refine hK.out _ _ (⟨cell_blk ((setCell_ne (by simp; omega)).trans HX7.out) 3, cell_blk ((setCell_ne (by simp; omega)).trans HX7.out) 1⟩) (fun hHeld => ?_)
        clear hK K
        try simp only [Act.put, List.setIfInBounds_toArray, List.set_cons_zero, List.set_cons_succ]
        refine wpAnyH_done (by kernel_rfl) ?_ _
        refine ⟨rfl, ?_⟩
        go_wp2
        exact HFIN.out _ (HS7.out.set (by simp) _) (HCHG.out HCH.out _ _ _ (by rw [← HC1.out]; exact HD7.out))
  case done =>
    rintro D ys W hD rfl ⟨hI, h3⟩ hK
    rw [fw_map] at hI
    obtain ⟨go, co, gc, cc, h1⟩ := hI
    rw [HT.out, mg_gone a b HVA.out.srt HVB.out.srt, mg_chg a b HVA.out.srt HVB.out.srt] at h1
    have hgr := gone_rise (a := a) (b := b) HVA.out
    have hcr := chg_rise (a := a) (b := b) HVB.out
    have e1 : gG (-1) (goneL a b) = encG (-1) (goneL a b) := gG_enc _ _ (by omega) hgr.2 (fun k hk => hgr.1 k hk)
    have e2 : gD (-1) (withOld a (chgL a b)) = encC a (-1) (chgL a b) := by
      unfold encC
      refine gD_enc _ _ (by omega) ?_ (fun y hy => ?_)
      · have h := hcr.2
        unfold keys at h
        unfold withOld
        rw [List.pairwise_map] at h ⊢
        exact h
      · unfold withOld at hy
        obtain ⟨z, hz, rfl⟩ := List.mem_map.1 hy
        exact hcr.1 z.1 (List.mem_map.2 ⟨z, hz, rfl⟩)
    have gl := gG_len (goneL a b) (-1)
    have cl := gD_len (withOld a (chgL a b)) (-1)
    have el : (withOld a (chgL a b)).length = (chgL a b).length := by unfold withOld; rw [List.length_map]
    rw [el] at h1 cl
    rw [e1] at h1 gl
    rw [e2] at h1 cl
    have gl2 := gone_len (a := a) (b := b)
    have cl2 := chg_len (a := a) (b := b)
    have hla := HLA.out
    have hlb := HLB.out
    have hdiff : diffL a b = varN (goneL a b).length ++ encG (-1) (goneL a b) ++ varN (chgL a b).length ++ encC a (-1) (chgL a b) := rfl
    obtain ⟨G, eG⟩ : ∃ G, G = encG (-1) (goneL a b) := ⟨_, rfl⟩
    obtain ⟨C, eC⟩ : ∃ C, C = encC a (-1) (chgL a b) := ⟨_, rfl⟩
    obtain ⟨ng, eng⟩ : ∃ n, n = (goneL a b).length := ⟨_, rfl⟩
    obtain ⟨nc, enc⟩ : ∃ n, n = (chgL a b).length := ⟨_, rfl⟩
    rw [← eG, ← eC, ← eng, ← enc] at h1 hdiff
    rw [← eG, ← eng] at gl
    rw [← eC, ← enc] at cl
    have hng : ng < 1000000 := by omega
    have hnc : nc < 1000000 := by omega
    have hGl : G.length ≤ 20000000 := by omega
    have hCl : C.length ≤ 40000000 := by omega
    have wg : IntKind.u64.wrap ((ng : Nat) : Int) = (ng : Int) := IntWalk.u64_in _ (by omega)
    have wc : IntKind.u64.wrap ((nc : Nat) : Int) = (nc : Int) := IntWalk.u64_in _ (by omega)
    have vg := varN_len (show ng < 18446744073709551616 by omega)
    have vc := varN_len (show nc < 18446744073709551616 by omega)
    have hFW : Fr [] w W := ⟨h3.os.trans HF0.out.os, h3.tape.trans HF0.out.tape, h3.output.trans HF0.out.output, Nat.le_trans HF0.out.size h3.size, fun k hk _ => (h3.block k (by have := HF0.out.size; omega) (by have := HS.out; simp; omega)).trans (HF0.out.block k hk (by simp))⟩
    have hDw : w.heap.size ≤ D := by have := HF0.out.size; omega
    have HDW := Lib.hid hDw
    have HFW := Lib.hid hFW
    have HDI := Lib.hid hdiff
    have HI := Lib.hid h1
    have HK := Lib.hid hK
    obtain ⟨ib, hib, hb0, hb1, hb2⟩ := info_parts infoByte
    have c7 : W.cell? ⟨s + 2, 0, none⟩ = some (.int .i64 (ng : Int)) := cell_blk h1.h7 0
    clear eG eC eng enc gl cl gl2 cl2 hla hlb hdiff hgr hcr e1 e2 el h1 h3 hK hFW hDw
    gi_upto_region 14 with (refine ⟨trivial, ?_⟩; gi_at_call 42; refine (callsIn_wide.2 (append_any W none 0 [] ng (Seg.nil _ _ _) (by omega) (by simp))).mono ?_; rintro e w1 ⟨o1, k1, rfl, hs1, hf1, hx1⟩; rw [List.nil_append] at hs1)
    have HI1 := Lib.hid (HI.out.fr hf1)
    have HF1 : Hid (Fr [] W w1) := Lib.hid hf1
    have HX1 : Hid (Ext [] W (blk o1)) := Lib.hid hx1
    have HS1 := Lib.hid hs1
    have c5 : w1.cell? ⟨s, 0, none⟩ = some (.slice go G.length gc) := cell_blk HI1.out.h5 0
    clear hf1 hx1 hs1 c7
    refine wpIn_wide.2 ?_
    go_wp2_with (at_builtin; refine wpList_append_rd rfl _ _ 33 rfl 5 ib _ 1 1 Try.underlying33 hib hb0 hb1 hb2 rfl (by decide) o1 (varN ng).length k1 (bts (varN ng)) rfl HS1.out go G.length gc (bts G) rfl HI1.out.sg.rd (bts_one _) (by unfold maxLen; omega) (by omega) ?_; intro o2 k2 w2 hs2 hf2 hx2)
    obtain ⟨A2, hA2⟩ : ∃ A2, A2 = varN ng ++ G := ⟨_, rfl⟩
    have hl2 : (varN ng).length + G.length = A2.length := by rw [hA2, List.length_append]
    rw [← bts_append, ← hA2, hl2] at hs2
    rw [hl2]
    have HF2 := Lib.hid (HF1.out.trans hf2 HX1.out)
    have HX2 := Lib.hid (HX1.out.trans hx2 HF1.out.size)
    have HI2 := Lib.hid (HI.out.fr HF2.out)
    have HS2 := Lib.hid hs2
    have HA2 := Lib.hid hA2
    have c8 : w2.cell? ⟨s + 3, 0, none⟩ = some (.int .i64 (nc : Int)) := cell_blk HI2.out.h8 0
    have hl2' : A2.length ≤ 30000000 := by omega
    clear hs2 hf2 hx2 hA2 hl2 c5
    gi_upto_region 16 with (refine ⟨trivial, ?_⟩; gi_at_call 42; refine (callsIn_wide.2 (append_any w2 o2 k2 A2 nc HS2.out (by omega) (by omega))).mono ?_; rintro e w3 ⟨o3, k3, rfl, hs3, hf3, hx3⟩)
    obtain ⟨A3, hA3⟩ : ∃ A3, A3 = A2 ++ varN nc := ⟨_, rfl⟩
    have hl3 : A2.length + (varN nc).length = A3.length := by rw [hA3, List.length_append]
    rw [← hA3] at hs3
    rw [hl3]
    have HF3 := Lib.hid (HF2.out.trans hf3 HX2.out)
    have HX3 := Lib.hid (HX2.out.trans hx3 HF2.out.size)
    have HI3 := Lib.hid (HI.out.fr HF3.out)
    have HS3 := Lib.hid hs3
    have HA3 := Lib.hid hA3
    have c6 : w3.cell? ⟨s + 1, 0, none⟩ = some (.slice co C.length cc) := cell_blk HI3.out.h6 0
    have hl3' : A3.length ≤ 30000010 := by omega
    clear hs3 hf3 hx3 hA3 hl3 c8
    refine wpIn_wide.2 ?_
    go_wp2_with (at_builtin; refine wpList_append_rd rfl _ _ 33 rfl 5 ib _ 1 1 Try.underlying33 hib hb0 hb1 hb2 rfl (by decide) o3 A3.length k3 (bts A3) rfl HS3.out co C.length cc (bts C) rfl HI3.out.sc.rd (bts_one _) (by unfold maxLen; omega) (by omega) ?_; intro o4 k4 w4 hs4 hf4 hx4)
    rw [← bts_append] at hs4
    have HF4 := Lib.hid (HF3.out.trans hf4 HX3.out)
    have HX4 := Lib.hid (HX3.out.trans hx4 HF3.out.size)
    have HS4 := Lib.hid hs4
    clear hs4 hf4 hx4 c6
    gi_wp2
    have hK' := HF4.out.blk HK.out (by simp)
    refine ⟨by simp, .inl ⟨_, _, rfl, run_takeDeferred hK', ?_⟩⟩
    have hdl : diffL a b = A3 ++ C := by rw [HDI.out, HA3.out, HA2.out]
    have hlen : A3.length + C.length = (diffL a b).length := by rw [hdl, List.length_append]
    refine ⟨_, results_tmp rfl _ _ _, o4, k4, by rw [← hlen]; rfl, ?_, ?_, ?_⟩
    · rw [← hlen, hdl]
      refine HS4.out.same (fun k hk => World.putObj_heap_other ?_)
      have q1 := (HX4.out k hk).resolve_left (by simp)
      have q2 := lt_of_blk HK.out
      omega
    · exact (HFW.out.trans HF4.out (by simp [Ext])).putObjD HDW.out _
    · intro k hk
      have q1 := (HX4.out k hk).resolve_left (by simp)
      have q2 := HFW.out.size
      omega
  case stop =>
    rintro D c pre W _ _ h _
    exact h.elim
end Go.Proofs.Ytodfeaipoagphaa
