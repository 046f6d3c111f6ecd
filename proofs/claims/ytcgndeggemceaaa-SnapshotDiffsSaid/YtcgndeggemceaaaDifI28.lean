/- Package snapshot: what Diff's loop keeps; append of what a slice reads as. -/
import Derived.Test.YtcgndeggemceaaaMgS28
import Derived.Test.YtcgndeggemceaaaDifP28
import Derived.Test.YtcgndeggemceaaaRoundH
import Derived.Test.YtcgndeggemceaaaDec28
namespace Go.Proofs.Ytcgndeggemceaaa
open Go.RowKit Go.Shelf

/-! ### append(x, y...) where y is any slice that reads as some cells -/
theorem run_append_rd {P : Program} (w : World) (t ty e : TypeId) (i : TypeInfo) (z : Value) (size bytes : Nat) (ht : P.underlying t = some (.slice e)) (hi : P.info? e = some i) (hz : i.zero = some z)
    (hsize : i.size = size) (hby : i.bytes = bytes) (hzs : z.cells.size = size) (hsz : 0 < size)
    (ao : Option Addr) (n cap : Nat) (xs : List Value) (hseg : Seg w e size ao n cap xs)
    (xo : Option Addr) (m c : Nat) (news : List Value) (hx : Rd w size xo m news) (h1 : ∀ u ∈ news, u.oneCell' = true)
    (h63 : n + m ≤ maxLen) (hbytes : (n + m) * bytes ≤ 140737488355328) :
    ∃ ao' cap' w', (Builtin.append_ #[t, t] ty #[.slice ao n cap, .slice xo m c]).run P w = .ok (.slice ao' (n + m) cap') w' ∧ Seg w' e size ao' (n + m) cap' (xs ++ news) ∧
      Fr (blk ao) w w' ∧ Ext (blk ao) w (blk ao') := by
  rcases Nat.eq_zero_or_pos m with h0 | h0
  · subst h0
    have hn : news = [] := List.eq_nil_of_length_eq_zero (by simpa using hx.1)
    subst hn
    refine ⟨ao, cap, w, ?_, by simpa using hseg, Fr.refl _ _, Ext.refl _ _⟩
    have hc : n ≤ cap := hseg.2.2.1
    cases ao <;> cases xo <;> simp [Builtin.append_, run_underlying ht, sizeOf, typeInfo, hi, Builtin.lenOf, Builtin.firstCells, loadCells, loadCellsFrom, hc, storeCells]
  · obtain ⟨g, off, rfl, hg, hc⟩ := hx.at h0
    refine run_append_seg w t ty e i z size bytes ht hi hz hsize hby hzs hsz ao n cap xs hseg ⟨g, off, none⟩ m c news hx.1 (fun j u hu => ?_) h1 h63 hbytes
    have hj : j < m * size := by have := (List.getElem?_eq_some_iff.1 hu).1; rw [hx.1] at this; exact this
    rw [Addr.add_mid, hc j hj]; exact hu
theorem wpList_append_rd {P : Program} {ops : Array Oper} {rest : List Oper} {o : Oper} {a : Act} {w : World} {Q : Exit → Act → World → Prop} (hgd : o.guard = none) (s x : Operand) (t : TypeId)
    (ho : o.op = .call { callee := .builtin .append, args := #[s, x], argTypes := #[t, t] })
    (e : TypeId) (i : TypeInfo) (z : Value) (size bytes : Nat) (ht : P.underlying t = some (.slice e)) (hi : P.info? e = some i) (hz : i.zero = some z)
    (hsize : i.size = size) (hby : i.bytes = bytes) (hzs : z.cells.size = size) (hsz : 0 < size)
    (ao : Option Addr) (n cap : Nat) (xs : List Value) (hs : a.eval s = .slice ao n cap) (hseg : Seg w e size ao n cap xs)
    (xo : Option Addr) (m c : Nat) (news : List Value) (hx : a.eval x = .slice xo m c) (hr : Rd w size xo m news) (h1 : ∀ u ∈ news, u.oneCell' = true)
    (h63 : n + m ≤ maxLen) (hbytes : (n + m) * bytes ≤ 140737488355328)
    (h : ∀ ao' cap' w', Seg w' e size ao' (n + m) cap' (xs ++ news) → Fr (blk ao) w w' → Ext (blk ao) w (blk ao') → wpList P ops Q rest (a.put o.dst (.slice ao' (n + m) cap')) w') :
    wpList P ops Q (o :: rest) a w := by
  refine wpList_plain hgd fun K hK => ?_
  obtain ⟨ao', cap', w', hrun, h2, h3, h4⟩ := run_append_rd (P := P) w t o.type e i z size bytes ht hi hz hsize hby hzs hsz ao n cap xs hseg xo m c news hr h1 h63 hbytes
  unfold Oper.wp execOp
  simp only [ho, resolve, invoke, builtin, Sem.run_bind, Sem.run_pure, Result.andThen_ok, List.map_toArray, List.map_cons, List.map_nil, hs, hx, hrun]
  exact hK _ _ (h ao' cap' w' h2 h3 h4)

/-! ### what the loop keeps -/
structure DifI (s : Nat) (go co : Option Addr) (gc cc : Nat) (G C : List Nat) (ng nc : Nat) (pg pc : Int) (W : World) : Prop where
  h5 : W.heap[s]? = some (.cells #[.slice go G.length gc] 26 (0, 0))
  h6 : W.heap[s + 1]? = some (.cells #[.slice co C.length cc] 26 (0, 0))
  h7 : W.heap[s + 2]? = some (.cells #[.int .i64 (ng : Int)] 3 (0, 0))
  h8 : W.heap[s + 3]? = some (.cells #[.int .i64 (nc : Int)] 3 (0, 0))
  hg : W.heap[s + 4]? = some (.cells #[.int .i64 pg] 3 (0, 0))
  hc : W.heap[s + 5]? = some (.cells #[.int .i64 pc] 3 (0, 0))
  h9 : W.heap[s + 6]? = some (.cells #[.func (.func 50) #[] #[.pointer (some ⟨s + 4, 0, none⟩)]] 60 (0, 0))
  h10 : W.heap[s + 7]? = some (.cells #[.func (.func 50) #[] #[.pointer (some ⟨s + 5, 0, none⟩)]] 60 (0, 0))
  sg : Seg W 5 1 go G.length gc (bts G)
  sc : Seg W 5 1 co C.length cc (bts C)
  gn : ∀ k ∈ blk go, s + 10 ≤ k
  cn : ∀ k ∈ blk co, s + 10 ≤ k
  dis : ∀ k ∈ blk go, k ∉ blk co
  sz : s + 10 ≤ W.heap.size

section
variable {s : Nat} {go co : Option Addr} {gc cc : Nat} {G C : List Nat} {ng nc : Nat} {pg pc : Int} {W W' : World}
/-- all the blocks that DifI tells of are blocks of cells and are kept -/
theorem DifI.kept (h : DifI s go co gc cc G C ng nc pg pc W) (hz : W.heap.size ≤ W'.heap.size) (hk : ∀ (k : Nat) (o : Obj), W.heap[k]? = some o → o.isCells = true → k ≠ s + 8 → W'.heap[k]? = some o) : DifI s go co gc cc G C ng nc pg pc W' :=
  have hs : ∀ {e : TypeId} {ao : Option Addr} {n cap : Nat} {xs : List Value}, Seg W e 1 ao n cap xs → (∀ k ∈ blk ao, s + 10 ≤ k) → Seg W' e 1 ao n cap xs := fun hs hb => by
    rcases hs.2.2.2 with ⟨rfl, h1⟩ | ⟨g, off, cur, rfl, hg, h1⟩
    · exact hs.same (fun k hk => by simp [blk] at hk)
    · refine hs.same (fun k hk' => ?_)
      simp [blk] at hk'
      subst hk'
      rw [hg]; exact hk _ _ hg rfl (by have := hb k (by simp [blk]); omega)
  ⟨hk _ _ h.h5 rfl (by omega), hk _ _ h.h6 rfl (by omega), hk _ _ h.h7 rfl (by omega), hk _ _ h.h8 rfl (by omega), hk _ _ h.hg rfl (by omega), hk _ _ h.hc rfl (by omega), hk _ _ h.h9 rfl (by omega), hk _ _ h.h10 rfl (by omega), hs h.sg h.gn, hs h.sc h.cn, h.gn, h.cn, h.dis, Nat.le_trans h.sz hz⟩
theorem DifI.fr (h : DifI s go co gc cc G C ng nc pg pc W) (hf : Fr [] W W') : DifI s go co gc cc G C ng nc pg pc W' := h.kept hf.size fun _ _ hk _ _ => hf.blk hk (by simp)
theorem DifI.set7 (h : DifI s go co gc cc G C ng nc pg pc W) (m : Nat) : DifI s go co gc cc G C m nc pg pc (W.setCell ⟨s + 2, 0, none⟩ (.int .i64 (m : Int))) := by
  refine ⟨(setCell_ne (by simp)).trans h.h5, (setCell_ne (by simp)).trans h.h6, setCell_blk h.h7 0 _, (setCell_ne (by simp)).trans h.h8, (setCell_ne (by simp)).trans h.hg, (setCell_ne (by simp)).trans h.hc, (setCell_ne (by simp)).trans h.h9, (setCell_ne (by simp)).trans h.h10, h.sg.setCell_other (fun hm => ?_), h.sc.setCell_other (fun hm => ?_), h.gn, h.cn, h.dis, by simpa using h.sz⟩
  · have := h.gn _ hm; simp at this
  · have := h.cn _ hm; simp at this
theorem DifI.set8 (h : DifI s go co gc cc G C ng nc pg pc W) (m : Nat) : DifI s go co gc cc G C ng m pg pc (W.setCell ⟨s + 3, 0, none⟩ (.int .i64 (m : Int))) := by
  refine ⟨(setCell_ne (by simp)).trans h.h5, (setCell_ne (by simp)).trans h.h6, (setCell_ne (by simp)).trans h.h7, setCell_blk h.h8 0 _, (setCell_ne (by simp)).trans h.hg, (setCell_ne (by simp)).trans h.hc, (setCell_ne (by simp)).trans h.h9, (setCell_ne (by simp)).trans h.h10, h.sg.setCell_other (fun hm => ?_), h.sc.setCell_other (fun hm => ?_), h.gn, h.cn, h.dis, by simpa using h.sz⟩
  · have := h.gn _ hm; simp at this
  · have := h.cn _ hm; simp at this
theorem DifI.setg (h : DifI s go co gc cc G C ng nc pg pc W) (k : Int) : DifI s go co gc cc G C ng nc k pc (W.setCell ⟨s + 4, 0, none⟩ (.int .i64 k)) := by
  refine ⟨(setCell_ne (by simp)).trans h.h5, (setCell_ne (by simp)).trans h.h6, (setCell_ne (by simp)).trans h.h7, (setCell_ne (by simp)).trans h.h8, setCell_blk h.hg 0 _, (setCell_ne (by simp)).trans h.hc, (setCell_ne (by simp)).trans h.h9, (setCell_ne (by simp)).trans h.h10, h.sg.setCell_other (fun hm => ?_), h.sc.setCell_other (fun hm => ?_), h.gn, h.cn, h.dis, by simpa using h.sz⟩
  · have := h.gn _ hm; simp at this
  · have := h.cn _ hm; simp at this
theorem DifI.setc (h : DifI s go co gc cc G C ng nc pg pc W) (k : Int) : DifI s go co gc cc G C ng nc pg k (W.setCell ⟨s + 5, 0, none⟩ (.int .i64 k)) := by
  refine ⟨(setCell_ne (by simp)).trans h.h5, (setCell_ne (by simp)).trans h.h6, (setCell_ne (by simp)).trans h.h7, (setCell_ne (by simp)).trans h.h8, (setCell_ne (by simp)).trans h.hg, setCell_blk h.hc 0 _, (setCell_ne (by simp)).trans h.h9, (setCell_ne (by simp)).trans h.h10, h.sg.setCell_other (fun hm => ?_), h.sc.setCell_other (fun hm => ?_), h.gn, h.cn, h.dis, by simpa using h.sz⟩
  · have := h.gn _ hm; simp at this
  · have := h.cn _ hm; simp at this
theorem DifI.app5 (h : DifI s go co gc cc G C ng nc pg pc W) {go' : Option Addr} {gc' : Nat} {G' : List Nat} (hs : Seg W' 5 1 go' G'.length gc' (bts G')) (hf : Fr (blk go) W W') (hx : Ext (blk go) W (blk go')) :
    DifI s go' co gc' cc G' C ng nc pg pc (W'.setCell ⟨s, 0, none⟩ (.slice go' G'.length gc')) := by
  have hsz := h.sz
  have hb : ∀ k, k < s + 10 → k ∉ blk go := fun k hk hm => by have := h.gn k hm; omega
  have gn' : ∀ k ∈ blk go', s + 10 ≤ k := fun k hk => by
    rcases hx k hk with h1 | h1
    · exact h.gn k h1
    · omega
  refine ⟨setCell_blk (hf.blk h.h5 (hb _ (by omega))) 0 _, (setCell_ne (by simp)).trans (hf.blk h.h6 (hb _ (by omega))), (setCell_ne (by simp)).trans (hf.blk h.h7 (hb _ (by omega))), (setCell_ne (by simp)).trans (hf.blk h.h8 (hb _ (by omega))), (setCell_ne (by simp)).trans (hf.blk h.hg (hb _ (by omega))), (setCell_ne (by simp)).trans (hf.blk h.hc (hb _ (by omega))), (setCell_ne (by simp)).trans (hf.blk h.h9 (hb _ (by omega))), (setCell_ne (by simp)).trans (hf.blk h.h10 (hb _ (by omega))), hs.setCell_other (fun hm => ?_), (h.sc.fr hf (fun k hk hm => h.dis k hm hk)).setCell_other (fun hm => ?_), gn', h.cn, fun k hk hm => ?_, by simp; have := hf.size; omega⟩
  · have := gn' _ hm; simp at this; omega
  · have := h.cn _ hm; simp at this; omega
  · rcases hx k hk with h1 | h1
    · exact h.dis k h1 hm
    · have := h.sc.lt k hm; omega
theorem DifI.app6 (h : DifI s go co gc cc G C ng nc pg pc W) {co' : Option Addr} {cc' : Nat} {C' : List Nat} (hs : Seg W' 5 1 co' C'.length cc' (bts C')) (hf : Fr (blk co) W W') (hx : Ext (blk co) W (blk co')) :
    DifI s go co' gc cc' G C' ng nc pg pc (W'.setCell ⟨s + 1, 0, none⟩ (.slice co' C'.length cc')) := by
  have hsz := h.sz
  have hb : ∀ k, k < s + 10 → k ∉ blk co := fun k hk hm => by have := h.cn k hm; omega
  have cn' : ∀ k ∈ blk co', s + 10 ≤ k := fun k hk => by
    rcases hx k hk with h1 | h1
    · exact h.cn k h1
    · omega
  refine ⟨(setCell_ne (by simp)).trans (hf.blk h.h5 (hb _ (by omega))), setCell_blk (hf.blk h.h6 (hb _ (by omega))) 0 _, (setCell_ne (by simp)).trans (hf.blk h.h7 (hb _ (by omega))), (setCell_ne (by simp)).trans (hf.blk h.h8 (hb _ (by omega))), (setCell_ne (by simp)).trans (hf.blk h.hg (hb _ (by omega))), (setCell_ne (by simp)).trans (hf.blk h.hc (hb _ (by omega))), (setCell_ne (by simp)).trans (hf.blk h.h9 (hb _ (by omega))), (setCell_ne (by simp)).trans (hf.blk h.h10 (hb _ (by omega))), (h.sg.fr hf (fun k hk hm => h.dis k hk hm)).setCell_other (fun hm => ?_), hs.setCell_other (fun hm => ?_), h.gn, cn', fun k hk hm => ?_, by simp; have := hf.size; omega⟩
  · have := h.gn _ hm; simp at this
  · have := cn' _ hm; simp at this
  · rcases hx k hm with h1 | h1
    · exact h.dis k hk h1
    · have := h.sg.lt k hk; omega
end
theorem Fr.others {S : List Nat} {w w' : World} (h : Fr S w w') (hS : ∀ k ∈ S, ∀ o, w.heap[k]? = some o → o.isCells = true) : KeepsOthers w w' := ⟨h.size, fun k o hk ho => h.blk hk (fun hm => by rw [hS k hm o hk] at ho; cases ho)⟩

/-! ### plain: the numbers are in range; one pair more -/
theorem goneP_snoc (T : List Pr) (p : Pr) : goneP (T ++ [p]) = goneP T ++ (if isGone p then [p.bi] else []) := by
  unfold goneP
  rw [List.filter_append, List.map_append]
  congr 1
  by_cases h : isGone p = true <;> simp [h]
theorem chgP_snoc (T : List Pr) (p : Pr) : chgP' (T ++ [p]) = chgP' T ++ (if isChg p then [(p.ai, p.av, p.bv)] else []) := by
  unfold chgP'
  rw [List.filter_append, List.map_append]
  congr 1
  by_cases h : isChg p = true <;> simp [h]
structure PrOk (p : Pr) : Prop where
  b : p.ia = false → idxOk p.bi
  a : p.ia = true → idxOk p.ai
  v : bd64 p.av ∧ bd64 p.bv
theorem bd0 : bd64 0 := by unfold bd64; omega
theorem mg_ok : ∀ (a b : List (Int × Int)), (∀ x ∈ a, idxOk x.1 ∧ bd64 x.2) → (∀ x ∈ b, idxOk x.1 ∧ bd64 x.2) → ∀ p ∈ mg a b, PrOk p
  | [], b, _, hb, p, hp => by
    rw [mg_nil] at hp
    obtain ⟨y, hy, rfl⟩ := List.mem_map.1 hp
    exact ⟨fun h => (by cases h), fun _ => (hb y hy).1, (hb y hy).2, bd0⟩
  | x :: a, [], ha, _, p, hp => by
    rw [mg_nil'] at hp
    obtain ⟨y, hy, rfl⟩ := List.mem_map.1 hp
    exact ⟨fun _ => (ha y hy).1, fun h => (by cases h), bd0, (ha y hy).2⟩
  | x :: a, y :: b, ha, hb, p, hp => by
    have ha' : ∀ z ∈ a, idxOk z.1 ∧ bd64 z.2 := fun z hz => ha z (by simp [hz])
    have hb' : ∀ z ∈ b, idxOk z.1 ∧ bd64 z.2 := fun z hz => hb z (by simp [hz])
    have hx := ha x (by simp)
    have hy := hb y (by simp)
    rcases Int.lt_trichotomy x.1 y.1 with h | h | h
    · rw [mg_lt h] at hp
      rcases List.mem_cons.1 hp with rfl | hp
      · exact ⟨fun _ => hx.1, fun h => (by cases h), bd0, hx.2⟩
      · exact mg_ok a (y :: b) ha' hb p hp
    · rw [mg_eq h] at hp
      rcases List.mem_cons.1 hp with rfl | hp
      · exact ⟨fun h => (by cases h), fun _ => hy.1, hy.2, hx.2⟩
      · exact mg_ok a b ha' hb' p hp
    · rw [mg_gt h] at hp
      rcases List.mem_cons.1 hp with rfl | hp
      · exact ⟨fun h => (by cases h), fun _ => hy.1, hy.2, bd0⟩
      · exact mg_ok (x :: a) b ha hb' p hp
termination_by a b => a.length + b.length
theorem gG_len : ∀ (l : List Int) (prev : Int), (gG prev l).length ≤ 10 * l.length
  | [], _ => by simp [gG]
  | k :: l, prev => by rw [gG, List.length_append, List.length_cons]; have := gG_len l k; have := varN_len (gpN_lt prev k); omega
theorem gD_len : ∀ (l : List (Int × Int × Int)) (prev : Int), (gD prev l).length ≤ 20 * l.length
  | [], _ => by simp [gD]
  | k :: l, prev => by rw [gD, List.length_append, List.length_append, List.length_cons]; have := gD_len l k.1; have := varN_len (gpN_lt prev k.1); have := varN_len (zz_fit (k.2.1 - k.2.2)); omega
theorem lastI_bd : ∀ (l : List Int), (∀ k ∈ l, idxOk k) → -1 ≤ lastI (-1) l ∧ lastI (-1) l ≤ 2147483647 := fun l h => by
  rcases List.eq_nil_or_concat l with rfl | ⟨m, k, rfl⟩
  · simp [lastI]
  · have := h k (by simp)
    rw [List.concat_eq_append, lastI_snoc]
    unfold idxOk at this
    omega
theorem goneP_len (T : List Pr) : (goneP T).length ≤ T.length := by unfold goneP; rw [List.length_map]; exact List.length_filter_le _ _
theorem chgP_len (T : List Pr) : (chgP' T).length ≤ T.length := by unfold chgP'; rw [List.length_map]; exact List.length_filter_le _ _
theorem goneP_ok {T : List Pr} (h : ∀ p ∈ T, PrOk p) : ∀ k ∈ goneP T, idxOk k := fun k hk => by
  obtain ⟨p, hp, rfl⟩ := List.mem_map.1 hk
  have h2 := List.mem_filter.1 hp
  exact (h p h2.1).b (by simpa [isGone] using h2.2)
theorem chgP_ok {T : List Pr} (h : ∀ p ∈ T, PrOk p) : ∀ k ∈ (chgP' T).map (·.1), idxOk k := fun k hk => by
  obtain ⟨y, hy, rfl⟩ := List.mem_map.1 hk
  obtain ⟨p, hp, rfl⟩ := List.mem_map.1 hy
  have h2 := List.mem_filter.1 hp
  have h3 : p.ia = true := by
    have := h2.2
    unfold isChg at this
    simp only [Bool.and_eq_true] at this
    exact this.1
  exact (h p h2.1).a h3
theorem fw_map {α : Type} (t : List α) : (fw t.length t.length).map (fun i => t[i]) = t := by
  unfold fw
  rw [List.take_of_length_le (by simp)]
  apply List.ext_getElem
  · simp
  · intro i h1 h2; simp
end Go.Proofs.Ytcgndeggemceaaa
