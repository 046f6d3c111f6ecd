/- What arenanetref12.Bent holds while it works: copies of the setup's slices, one value changed. -/
import Derived.Test.YtlfomhknfpmhbaaRv12
import Derived.Test.YtlfomhknfpmhbaaAppRd
namespace Go.Proofs.Ytlfomhknfpmhbaa
open Go.RowKit

theorem infoBoxZ : (Try.prog.info? 25).map (fun i => (i.zero, i.size, i.bytes)) = some (some (.agg #[.int .i64 0, .int .i64 0, .int .i64 0, .int .i64 0]), 4, 32) := by kernel_rfl
theorem infoDoorZ : (Try.prog.info? 68).map (fun i => (i.zero, i.size, i.bytes)) = some (some (.agg #[.int .i64 0, .int .i64 0]), 2, 16) := by kernel_rfl
theorem infoVecZ : (Try.prog.info? 29).map (fun i => (i.zero, i.size, i.bytes)) = some (some (.agg #[.int .i64 0, .int .i64 0]), 2, 16) := by kernel_rfl
theorem bd_one (l : List Bd) : ∀ u ∈ l.flatMap Bd.cells, u.oneCell' = true := by
  intro u hu
  obtain ⟨d, -, h⟩ := List.mem_flatMap.1 hu
  simp [Bd.cells] at h
  rcases h with h | h | h | h | h | h | h | h | h <;> (rw [h]; rfl)
theorem bx_one (l : List Bx) : ∀ u ∈ l.flatMap Bx.cells, u.oneCell' = true := by
  intro u hu
  obtain ⟨d, -, h⟩ := List.mem_flatMap.1 hu
  simp [Bx.cells] at h
  rcases h with h | h | h | h <;> (rw [h]; rfl)
theorem dr_one (l : List (Int × Int)) : ∀ u ∈ l.flatMap drCells, u.oneCell' = true := by
  intro u hu
  obtain ⟨d, -, h⟩ := List.mem_flatMap.1 hu
  simp [drCells] at h
  rcases h with h | h <;> (rw [h]; rfl)

/-- the blocks that may change -/
def St.own (bx : Nat) (s : St) : List Nat := bx :: (bx + 1) :: (blk s.bo ++ (blk s.ro ++ blk s.dO))

structure BT (w : World) (bx N : Nat) (Z : Array Value) (s : St) (bodies : List Bd) (polys : List (List (Int × Int))) (rooms : List Bx) (doors : List (Int × Int)) (wc : World) : Prop where
  box : wc.heap[bx]? = some (.cells (stCells s) 31 (0, 0))
  rx : wc.heap[bx + 1]? = some (.cells Z 31 (0, 0))
  nb : s.nb = bodies.length
  rn : s.rn = rooms.length
  dn : s.dn = doors.length
  sb : Seg wc 52 9 s.bo bodies.length s.bc (bodies.flatMap Bd.cells)
  sr : Seg wc 25 4 s.ro rooms.length s.rc (rooms.flatMap Bx.cells)
  sd : Seg wc 68 2 s.dO doors.length s.dc (doors.flatMap drCells)
  pl : polys.length = bodies.length
  sh : ∀ (j : Nat) (h1 : j < bodies.length) (h2 : j < polys.length), bodies[j].pn = polys[j].length ∧ polys[j].length ≤ N ∧ Rd wc 2 bodies[j].po polys[j].length (vecs polys[j]) ∧ (polys[j].length = 0 ∨ ∀ k ∈ blk bodies[j].po, k ∉ s.own bx)
  fr : Fr [] w wc
  fresh : ∀ k ∈ s.own bx, w.heap.size ≤ k

theorem Rd.fr0 {w w' : World} {S : List Nat} {size : Nat} {ao : Option Addr} {n : Nat} {xs : List Value} (h : Rd w size ao n xs) (hf : Fr S w w') (hS : n = 0 ∨ ∀ k ∈ blk ao, k ∉ S) : Rd w' size ao n xs := by
  rcases hS with h0 | hS
  · exact ⟨h.1, h.2.1, .inl h0⟩
  · exact h.fr hf hS

variable {w wc wx : World} {bx N : Nat} {Z : Array Value} {s s' : St} {bodies : List Bd} {polys : List (List (Int × Int))} {rooms : List Bx} {doors : List (Int × Int)}
theorem BT.bxb (h : BT w bx N Z s bodies polys rooms doors wc) : bx ∉ blk s.bo := h.sb.ne_ty h.box (by decide)
theorem BT.bxr (h : BT w bx N Z s bodies polys rooms doors wc) : bx ∉ blk s.ro := h.sr.ne_ty h.box (by decide)
theorem BT.bxd (h : BT w bx N Z s bodies polys rooms doors wc) : bx ∉ blk s.dO := h.sd.ne_ty h.box (by decide)
theorem BT.rxb (h : BT w bx N Z s bodies polys rooms doors wc) : bx + 1 ∉ blk s.bo := h.sb.ne_ty h.rx (by decide)
theorem BT.rxr (h : BT w bx N Z s bodies polys rooms doors wc) : bx + 1 ∉ blk s.ro := h.sr.ne_ty h.rx (by decide)
theorem BT.rxd (h : BT w bx N Z s bodies polys rooms doors wc) : bx + 1 ∉ blk s.dO := h.sd.ne_ty h.rx (by decide)
theorem Seg.disjTy {w : World} {e e' : TypeId} {size size' : Nat} {ao ao' : Option Addr} {n cap n' cap' : Nat} {xs xs' : List Value} (h : Seg w e size ao n cap xs) (h' : Seg w e' size' ao' n' cap' xs') (hT : e ≠ e') : ∀ k ∈ blk ao, k ∉ blk ao' := by
  intro k hk
  rcases h.2.2.2 with ⟨rfl, _⟩ | ⟨g, off, cur, rfl, hg, _⟩
  · simp [blk] at hk
  · simp [blk] at hk
    subst hk
    exact h'.ne_ty hg hT

/-- a number of the setup itself -/
theorem BT.num (h : BT w bx N Z s bodies polys rooms doors wc) (i : Nat) (v : Int) (hs : stCells s' = (stCells s).setIfInBounds i (.int .i64 v)) (h1 : s'.bo = s.bo) (h2 : s'.nb = s.nb) (h3 : s'.bc = s.bc) (h4 : s'.ro = s.ro) (h5 : s'.rn = s.rn) (h6 : s'.rc = s.rc)
    (h7 : s'.dO = s.dO) (h8 : s'.dn = s.dn) (h9 : s'.dc = s.dc) : BT w bx N Z s' bodies polys rooms doors (wc.setCell ⟨bx, i, none⟩ (.int .i64 v)) := by
  have ho : s'.own bx = s.own bx := by unfold St.own; rw [h1, h4, h7]
  have hf : Fr [bx] wc (wc.setCell ⟨bx, i, none⟩ (.int .i64 v)) := (Fr.refl _ _).setCell (.inl (by simp)) _
  have hbx : w.heap.size ≤ bx := h.fresh bx (by simp [St.own])
  refine ⟨by rw [hs]; exact setCell_blk h.box i _, (setCell_ne (by simp)).trans h.rx, h2.trans h.nb, h5.trans h.rn, h8.trans h.dn, ?_, ?_, ?_, h.pl, fun j k1 k2 => ?_, h.fr.trans hf (fun k hk => .inr (by simp at hk; omega)), by rw [ho]; exact h.fresh⟩
  · rw [h1, h3]; exact h.sb.fr hf (fun k hk hm => h.bxb (by simp at hm; rw [← hm]; exact hk))
  · rw [h4, h6]; exact h.sr.fr hf (fun k hk hm => h.bxr (by simp at hm; rw [← hm]; exact hk))
  · rw [h7, h9]; exact h.sd.fr hf (fun k hk hm => h.bxd (by simp at hm; rw [← hm]; exact hk))
  · obtain ⟨q1, q2, q3, q4⟩ := h.sh j k1 k2
    exact ⟨q1, q2, q3.fr0 hf (q4.imp id fun q k hk hm => q k hk (by simp at hm; rw [hm]; simp [St.own])), by rw [ho]; exact q4⟩

/-- one cell of a body that is not its polygon -/
theorem BT.body (h : BT w bx N Z s bodies polys rooms doors wc) {g off k j : Nat} {v : Value} {d d' : Bd} (hbo : s.bo = some ⟨g, off, none⟩) (hk : k < bodies.length) (hj : j < 9) (hd : d = bodies[k]) (hd' : d'.cells = d.cells.set j v) (hp : d'.po = d.po) (hn : d'.pn = d.pn) :
    BT w bx N Z s (bodies.set k d') polys rooms doors (wc.setCell ⟨g, off + (k * 9 + j), none⟩ v) := by
  have hgo : g ∈ s.own bx := by simp [St.own, hbo, blk]
  have hf : Fr [g] wc (wc.setCell ⟨g, off + (k * 9 + j), none⟩ v) := (Fr.refl _ _).setCell (.inl (by simp)) _
  have hgb : bx ≠ g := fun e => h.bxb (by rw [hbo, e]; simp [blk])
  refine ⟨hf.blk h.box (by simpa using hgb), hf.blk h.rx (fun hm => h.rxb (by simp at hm; rw [hbo, ← hm]; simp [blk])), by rw [List.length_set]; exact h.nb, h.rn, h.dn, ?_, ?_, ?_, by rw [List.length_set]; exact h.pl, fun q k1 k2 => ?_, h.fr.trans hf (fun k hk => .inr (by simp at hk; rw [hk]; exact h.fresh g hgo)), h.fresh⟩
  · have h1 := h.sb
    rw [hbo] at h1 ⊢
    rw [List.length_set, flat_set Bd.cells 9 (fun _ => rfl) bodies k j d' v hk hj (by rw [hd', hd])]
    exact h1.store (by omega) v
  · exact h.sr.fr hf (fun q hq hm => by simp at hm; subst hm; exact h.sr.disjTy h.sb (by decide) q hq (by rw [hbo]; simp [blk]))
  · exact h.sd.fr hf (fun q hq hm => by simp at hm; subst hm; exact h.sd.disjTy h.sb (by decide) q hq (by rw [hbo]; simp [blk]))
  · have hq : q < bodies.length := by rw [List.length_set] at k1; exact k1
    obtain ⟨q1, q2, q3, q4⟩ := h.sh q hq k2
    have hr : Rd (wc.setCell ⟨g, off + (k * 9 + j), none⟩ v) 2 bodies[q].po polys[q].length (vecs polys[q]) := q3.fr0 hf (q4.imp id fun q k hk hm => q k hk (by simp at hm; rw [hm]; exact hgo))
    by_cases e : q = k
    · subst e
      have e1 : (bodies.set q d')[q] = d' := List.getElem_set_self _
      rw [e1, hp, hn, hd]
      exact ⟨q1, q2, hr, q4⟩
    · have e1 : (bodies.set k d')[q] = bodies[q] := List.getElem_set_ne (fun e' => e e'.symm) _
      rw [e1]
      exact ⟨q1, q2, hr, q4⟩

/-- one cell of a room -/
theorem BT.room (h : BT w bx N Z s bodies polys rooms doors wc) {g off k j : Nat} {v : Value} {r r' : Bx} (hro : s.ro = some ⟨g, off, none⟩) (hk : k < rooms.length) (hj : j < 4) (hr : r = rooms[k]) (hr' : r'.cells = r.cells.set j v) :
    BT w bx N Z s bodies polys (rooms.set k r') doors (wc.setCell ⟨g, off + (k * 4 + j), none⟩ v) := by
  have hgo : g ∈ s.own bx := by simp [St.own, hro, blk]
  have hf : Fr [g] wc (wc.setCell ⟨g, off + (k * 4 + j), none⟩ v) := (Fr.refl _ _).setCell (.inl (by simp)) _
  have hgb : bx ≠ g := fun e => h.bxr (by rw [hro, e]; simp [blk])
  refine ⟨hf.blk h.box (by simpa using hgb), hf.blk h.rx (fun hm => h.rxr (by simp at hm; rw [hro, ← hm]; simp [blk])), h.nb, by rw [List.length_set]; exact h.rn, h.dn, ?_, ?_, ?_, h.pl, fun q k1 k2 => ?_, h.fr.trans hf (fun k hk => .inr (by simp at hk; rw [hk]; exact h.fresh g hgo)), h.fresh⟩
  · exact h.sb.fr hf (fun q hq hm => by simp at hm; subst hm; exact h.sb.disjTy h.sr (by decide) q hq (by rw [hro]; simp [blk]))
  · have h1 := h.sr
    rw [hro] at h1 ⊢
    rw [List.length_set, flat_set Bx.cells 4 (fun _ => rfl) rooms k j r' v hk hj (by rw [hr', hr])]
    exact h1.store (by omega) v
  · exact h.sd.fr hf (fun q hq hm => by simp at hm; subst hm; exact h.sd.disjTy h.sr (by decide) q hq (by rw [hro]; simp [blk]))
  · obtain ⟨q1, q2, q3, q4⟩ := h.sh q k1 k2
    exact ⟨q1, q2, q3.fr0 hf (q4.imp id fun q k hk hm => q k hk (by simp at hm; rw [hm]; exact hgo)), q4⟩

/-- a world in which nothing of the setup changed -/
theorem BT.old (h : BT w bx N Z s bodies polys rooms doors wc) (hf : Fr [] wc wx) : BT w bx N Z s bodies polys rooms doors wx :=
  ⟨hf.blk h.box (by simp), hf.blk h.rx (by simp), h.nb, h.rn, h.dn, h.sb.fr hf (by simp), h.sr.fr hf (by simp), h.sd.fr hf (by simp), h.pl, fun j k1 k2 => by
    obtain ⟨q1, q2, q3, q4⟩ := h.sh j k1 k2
    exact ⟨q1, q2, q3.fr hf (by simp), q4⟩, h.fr.trans hf (by simp [Ext]), h.fresh⟩
theorem BT.more (h : BT w bx N Z s bodies polys rooms doors wc) {M : Nat} (hM : N ≤ M) : BT w bx M Z s bodies polys rooms doors wc :=
  ⟨h.box, h.rx, h.nb, h.rn, h.dn, h.sb, h.sr, h.sd, h.pl, fun j k1 k2 => by
    obtain ⟨q1, q2, q3, q4⟩ := h.sh j k1 k2
    exact ⟨q1, by omega, q3, q4⟩, h.fr, h.fresh⟩

/-- a body's polygon -/
theorem BT.poly (h0 : BT w bx N Z s bodies polys rooms doors wc) (hf0 : Fr [] wc wx) {g off k : Nat} {d d' : Bd} (hbo : s.bo = some ⟨g, off, none⟩) (hk : k < bodies.length) (hd : d = bodies[k]) {po : Option Addr} {n pc : Nat} {l : List (Int × Int)}
    (hs : Seg wx 29 2 po n pc (vecs l)) (hl : l.length = n) (hn : n ≤ N + 1) (hd' : d' = { d with po := po, pn := n, pc := pc }) :
    BT w bx (N + 1) Z s (bodies.set k d') (polys.set k l) rooms doors (wx.setCell ⟨g, off + (k * 9 + 1), none⟩ (.slice po n pc)) := by
  have h := (h0.old hf0).more (Nat.le_succ N)
  have hgo : g ∈ s.own bx := by simp [St.own, hbo, blk]
  have hf : Fr [g] wx (wx.setCell ⟨g, off + (k * 9 + 1), none⟩ (.slice po n pc)) := (Fr.refl _ _).setCell (.inl (by simp)) _
  have hgb : bx ≠ g := fun e => h.bxb (by rw [hbo, e]; simp [blk])
  have hpo : ∀ q ∈ blk po, q ∉ s.own bx := by
    intro q hq hm
    simp only [St.own, List.mem_cons, List.mem_append] at hm
    rcases hm with e | e | e | e | e
    · exact hs.ne_ty h.box (by decide) (e ▸ hq)
    · exact hs.ne_ty h.rx (by decide) (e ▸ hq)
    · exact hs.disjTy h.sb (by decide) q hq e
    · exact hs.disjTy h.sr (by decide) q hq e
    · exact hs.disjTy h.sd (by decide) q hq e
  refine ⟨hf.blk h.box (by simpa using hgb), hf.blk h.rx (fun hm => h.rxb (by simp at hm; rw [hbo, ← hm]; simp [blk])), by rw [List.length_set]; exact h.nb, h.rn, h.dn, ?_, ?_, ?_, by rw [List.length_set, List.length_set]; exact h.pl, fun q k1 k2 => ?_, h.fr.trans hf (fun k hk => .inr (by simp at hk; rw [hk]; exact h.fresh g hgo)), h.fresh⟩
  · have h1 := h.sb
    rw [hbo] at h1 ⊢
    rw [List.length_set, flat_set Bd.cells 9 (fun _ => rfl) bodies k 1 d' (.slice po n pc) hk (by omega) (by rw [hd', hd]; simp [Bd.cells])]
    exact h1.store (by omega) _
  · exact h.sr.fr hf (fun q hq hm => by simp at hm; subst hm; exact h.sr.disjTy h.sb (by decide) q hq (by rw [hbo]; simp [blk]))
  · exact h.sd.fr hf (fun q hq hm => by simp at hm; subst hm; exact h.sd.disjTy h.sb (by decide) q hq (by rw [hbo]; simp [blk]))
  · have hq : q < bodies.length := by rw [List.length_set] at k1; exact k1
    have hq2 : q < polys.length := by rw [List.length_set] at k2; exact k2
    by_cases e : q = k
    · subst e
      have e1 : (bodies.set q d')[q] = d' := List.getElem_set_self _
      have e2 : (polys.set q l)[q] = l := List.getElem_set_self _
      rw [e1, e2, hd', hl]
      have hr := (hs.fr hf (fun k hk hm => by simp at hm; subst hm; exact hpo k hk hgo)).rd
      exact ⟨rfl, hn, hr, .inr hpo⟩
    · have e1 : (bodies.set k d')[q] = bodies[q] := List.getElem_set_ne (fun e' => e e'.symm) _
      have e2 : (polys.set k l)[q] = polys[q] := List.getElem_set_ne (fun e' => e e'.symm) _
      rw [e1, e2]
      obtain ⟨q1, q2, q3, q4⟩ := h.sh q hq hq2
      exact ⟨q1, q2, q3.fr0 hf (q4.imp id fun q k hk hm => q k hk (by simp at hm; rw [hm]; exact hgo)), q4⟩

/-- another slice of bodies -/
theorem BT.bods (h : BT w bx N Z s bodies polys rooms doors wc) {bodies' : List Bd} {polys' : List (List (Int × Int))} {S : List Nat} {bo : Option Addr} {n bc : Nat} (hF : Fr S wc wx) (hS : ∀ k ∈ S, k ∈ blk s.bo)
    (hs : Seg wx 52 9 bo n bc (bodies'.flatMap Bd.cells)) (hn : bodies'.length = n) (hpl : polys'.length = n) (hbw : ∀ k ∈ blk bo, k ∈ blk s.bo ∨ w.heap.size ≤ k)
    (hsh : ∀ (j : Nat) (h1 : j < bodies'.length) (h2 : j < polys'.length), bodies'[j].pn = polys'[j].length ∧ polys'[j].length ≤ N ∧ Rd wx 2 bodies'[j].po polys'[j].length (vecs polys'[j]) ∧ (polys'[j].length = 0 ∨ ∀ k ∈ blk bodies'[j].po, k ∉ St.own bx { s with bo := bo })) :
    BT w bx N Z { s with bo := bo, nb := n, bc := bc } bodies' polys' rooms doors (wx.setCell ⟨bx, 1, none⟩ (.slice bo n bc)) := by
  have hbx : w.heap.size ≤ bx := h.fresh bx (by simp [St.own])
  have hf : Fr [bx] wx (wx.setCell ⟨bx, 1, none⟩ (.slice bo n bc)) := (Fr.refl _ _).setCell (.inl (by simp)) _
  have hbS : bx ∉ S := fun hm => h.bxb (hS bx hm)
  have hbox : wx.heap[bx]? = some (.cells (stCells s) 31 (0, 0)) := hF.blk h.box hbS
  have hsr : Seg wx 25 4 s.ro rooms.length s.rc (rooms.flatMap Bx.cells) := h.sr.fr hF (fun k hk hm => h.sr.disjTy h.sb (by decide) k hk (hS k hm))
  have hsd : Seg wx 68 2 s.dO doors.length s.dc (doors.flatMap drCells) := h.sd.fr hF (fun k hk hm => h.sd.disjTy h.sb (by decide) k hk (hS k hm))
  have hwb : ∀ k ∈ blk s.bo, w.heap.size ≤ k := fun k hk => h.fresh k (by simp [St.own, hk])
  subst hn
  refine ⟨by simpa [stCells] using setCell_blk hbox 1 (.slice bo bodies'.length bc), (setCell_ne (by simp)).trans (hF.blk h.rx (fun hm => h.rxb (hS _ hm))), rfl, h.rn, h.dn, hs.fr hf (fun k hk hm => hs.ne_ty hbox (by decide) (by simp at hm; rw [← hm]; exact hk)), hsr.fr hf (fun k hk hm => h.bxr (by simp at hm; rw [← hm]; exact hk)), hsd.fr hf (fun k hk hm => h.bxd (by simp at hm; rw [← hm]; exact hk)), hpl, fun j k1 k2 => ?_, (h.fr.trans hF (fun k hk => .inr (hwb k (hS k hk)))).trans hf (fun k hk => .inr (by simp at hk; omega)), fun k hk => ?_⟩
  · obtain ⟨q1, q2, q3, q4⟩ := hsh j k1 k2
    exact ⟨q1, q2, q3.fr0 hf (q4.imp id fun q k hk hm => q k hk (by simp at hm; rw [hm]; simp [St.own])), q4⟩
  · simp only [St.own, List.mem_cons, List.mem_append] at hk
    rcases hk with e | e | e | e | e
    · omega
    · omega
    · rcases hbw k e with e | e
      · exact hwb k e
      · exact e
    · exact h.fresh k (by simp [St.own, e])
    · exact h.fresh k (by simp [St.own, e])

/-- one door more -/
theorem BT.door (h : BT w bx N Z s bodies polys rooms doors wc) {doors' : List (Int × Int)} {dO : Option Addr} {n dc : Nat} (hF : Fr (blk s.dO) wc wx)
    (hs : Seg wx 68 2 dO n dc (doors'.flatMap drCells)) (hn : doors'.length = n) (hbw : Ext (blk s.dO) wc (blk dO)) :
    BT w bx N Z { s with dO := dO, dn := n, dc := dc } bodies polys rooms doors' (wx.setCell ⟨bx, 7, none⟩ (.slice dO n dc)) := by
  have hbx : w.heap.size ≤ bx := h.fresh bx (by simp [St.own])
  have hf : Fr [bx] wx (wx.setCell ⟨bx, 7, none⟩ (.slice dO n dc)) := (Fr.refl _ _).setCell (.inl (by simp)) _
  have hbox : wx.heap[bx]? = some (.cells (stCells s) 31 (0, 0)) := hF.blk h.box h.bxd
  have hsb := h.sb.fr hF (fun k hk hm => h.sb.disjTy h.sd (by decide) k hk hm)
  have hsr := h.sr.fr hF (fun k hk hm => h.sr.disjTy h.sd (by decide) k hk hm)
  have hwd : ∀ k ∈ blk s.dO, w.heap.size ≤ k := fun k hk => h.fresh k (by simp [St.own, hk])
  subst hn
  refine ⟨by simpa [stCells] using setCell_blk hbox 7 (.slice dO doors'.length dc), (setCell_ne (by simp)).trans (hF.blk h.rx h.rxd), h.nb, h.rn, rfl, hsb.fr hf (fun k hk hm => h.bxb (by simp at hm; rw [← hm]; exact hk)), hsr.fr hf (fun k hk hm => h.bxr (by simp at hm; rw [← hm]; exact hk)), hs.fr hf (fun k hk hm => hs.ne_ty hbox (by decide) (by simp at hm; rw [← hm]; exact hk)), h.pl, fun j k1 k2 => ?_, (h.fr.trans hF (fun k hk => .inr (hwd k hk))).trans hf (fun k hk => .inr (by simp at hk; omega)), fun k hk => ?_⟩
  · obtain ⟨q1, q2, q3, q4⟩ := h.sh j k1 k2
    have hr : Rd wx 2 bodies[j].po polys[j].length (vecs polys[j]) := q3.fr0 hF (q4.imp id fun q k hk hm => q k hk (by simp [St.own, hm]))
    refine ⟨q1, q2, hr.fr0 hf (q4.imp id fun q k hk hm => q k hk (by simp at hm; rw [hm]; simp [St.own])), ?_⟩
    rcases Nat.eq_zero_or_pos polys[j].length with e0 | e0
    · exact .inl e0
    · refine .inr fun k hk hm => ?_
      have q5 : ∀ k ∈ blk bodies[j].po, k ∉ s.own bx := by rcases q4 with q | q; omega; exact q
      simp only [St.own, List.mem_cons, List.mem_append] at hm
      have hq := q5 k hk
      simp only [St.own, List.mem_cons, List.mem_append, not_or] at hq
      rcases hm with e | e | e | e | e
      · exact hq.1 e
      · exact hq.2.1 e
      · exact hq.2.2.1 e
      · exact hq.2.2.2.1 e
      · rcases hbw k e with e | e
        · exact hq.2.2.2.2 e
        · obtain ⟨g, off, ea, hg, -⟩ := q3.at e0
          rw [ea] at hk
          simp [blk] at hk
          omega
  · simp only [St.own, List.mem_cons, List.mem_append] at hk
    rcases hk with e | e | e | e | e
    · omega
    · omega
    · exact h.fresh k (by simp [St.own, e])
    · exact h.fresh k (by simp [St.own, e])
    · rcases hbw k e with e | e
      · exact hwd k e
      · have := h.fr.size; omega

/-- the bodies cut short -/
theorem BT.cut (h : BT w bx N Z s bodies polys rooms doors wc) {k : Nat} (hk : k ≤ bodies.length) :
    BT w bx N Z { s with nb := k } (bodies.take k) (polys.take k) rooms doors (wc.setCell ⟨bx, 1, none⟩ (.slice s.bo k s.bc)) := by
  have hs := h.sb.take hk
  have ht : (bodies.flatMap Bd.cells).take (k * 9) = (bodies.take k).flatMap Bd.cells := by
    conv => lhs; rw [← List.take_append_drop k bodies, List.flatMap_append]
    rw [List.take_left' (by rw [flat_len Bd.cells 9 (fun _ => rfl), List.length_take]; rw [Nat.min_eq_left hk])]
  rw [ht] at hs
  refine h.bods (S := []) (Fr.refl _ _) (by simp) hs (by rw [List.length_take]; omega) (by rw [List.length_take]; have := h.pl; omega) (fun k hk => .inl hk) (fun j h1 h2 => ?_)
  have hj : j < bodies.length := by rw [List.length_take] at h1; omega
  have hj2 : j < polys.length := by rw [List.length_take] at h2; omega
  have e1 : (bodies.take k)[j] = bodies[j] := List.getElem_take
  have e2 : (polys.take k)[j] = polys[j] := List.getElem_take
  rw [e1, e2]
  exact h.sh j hj hj2
theorem BT.sk (h : BT w bx N Z s bodies polys rooms doors wc) (hN : N ≤ 1000000) {wf : World} (hf : Fr [bx + 1] wc wf) : SK wf s bodies polys rooms doors :=
  ⟨⟨h.rn, h.dn, (h.sr.fr hf (fun k hk hm => h.rxr (by simp at hm; rw [← hm]; exact hk))).rd, (h.sd.fr hf (fun k hk hm => h.rxd (by simp at hm; rw [← hm]; exact hk))).rd⟩, ⟨h.nb, (h.sb.fr hf (fun k hk hm => h.rxb (by simp at hm; rw [← hm]; exact hk))).rd⟩, h.pl, fun j h1 h2 => by
    obtain ⟨q1, q2, q3, q4⟩ := h.sh j h1 h2
    exact ⟨q1, by omega, q3.fr0 hf (q4.imp id fun q k hk hm => q k hk (by simp at hm; rw [hm]; simp [St.own]))⟩⟩
theorem BT.short (h : BT w bx N Z s bodies polys rooms doors wc) : ∀ p ∈ polys, p.length ≤ N := by
  intro p hp
  obtain ⟨j, hj, rfl⟩ := List.mem_iff_getElem.1 hp
  exact (h.sh j (by rw [← h.pl]; exact hj) hj).2.1
end Go.Proofs.Ytlfomhknfpmhbaa
