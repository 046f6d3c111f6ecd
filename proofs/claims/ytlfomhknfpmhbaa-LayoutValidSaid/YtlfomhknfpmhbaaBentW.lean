/- arenanetref12.Bent. -/
import Derived.Deep.DeepCutAuto
import Derived.Deep.CutBlock
import Derived.Test.YtlfomhknfpmhbaaBentP
namespace Go.Proofs.Ytlfomhknfpmhbaa
open Go.RowKit

attribute [local irreducible] wpStill

theorem step_append_rd {P : Program} {ops : Array Oper} {o : Oper} {a : Act} {w : World} {K : Act → World → Prop} {Q : Exit → Act → World → Prop} {E : Prop} (hgd : o.guard = none) (s x : Operand) (t : TypeId)
    (ho : o.op = .call { callee := .builtin .append, args := #[s, x], argTypes := #[t, t] })
    (e : TypeId) (i : TypeInfo) (z : Value) (size bytes : Nat) (ht : P.underlying t = some (.slice e)) (hi : P.info? e = some i) (hz : i.zero = some z)
    (hsize : i.size = size) (hby : i.bytes = bytes) (hzs : z.cells.size = size) (hsz : 0 < size)
    (ao : Option Addr) (n cap : Nat) (xs : List Value) (hs : a.eval s = .slice ao n cap) (hseg : Seg w e size ao n cap xs)
    (xo : Option Addr) (m c : Nat) (news : List Value) (hx : a.eval x = .slice xo m c) (hr : Rd w size xo m news) (h1 : ∀ u ∈ news, u.oneCell' = true)
    (h63 : n + m ≤ maxLen) (hbytes : (n + m) * bytes ≤ 140737488355328)
    (h : ∀ ao' cap' w', Seg w' e size ao' (n + m) cap' (xs ++ news) → Fr (blk ao) w w' → Ext (blk ao) w (blk ao') → K (a.put o.dst (.slice ao' (n + m) cap')) w') :
    if Region.wanted o (yielded ops a.tmps) = true then Oper.wp P o a w K Q else E := by
  rw [if_pos (by simp [Region.wanted, hgd])]
  obtain ⟨ao', cap', w', hrun, h2, h3, h4⟩ := run_append_rd (P := P) w t o.type e i z size bytes ht hi hz hsize hby hzs hsz ao n cap xs hseg xo m c news hr h1 h63 hbytes
  unfold Oper.wp execOp
  simp only [ho, resolve, invoke, builtin, Sem.run_bind, Sem.run_pure, Result.andThen_ok, List.map_toArray, List.map_cons, List.map_nil, hs, hx, hrun]
  exact h ao' cap' w' h2 h3 h4
def News (w : World) (b : Nat) (x y : Value) : Prop := ∀ j u, [x, y][j]? = some u → w.cell? ((⟨b, 0, none⟩ : Addr).add j) = some u
theorem News.one (w : World) (x y : Value) (T : TypeId) : News (w.alloc (.cells #[x, y] T)) w.heap.size x y := fun j u hu => by rw [Addr.add_mid, Nat.zero_add, World.cell?_alloc_new]; simpa using hu
theorem News.kept {w w' : World} {S : List Nat} {b : Nat} {x y : Value} (h : News w b x y) (hf : Fr S w w') (hb : b < w.heap.size) (hS : b ∉ S) : News w' b x y := fun j u hu => by
  have h1 := h j u hu
  rw [Addr.add_mid] at h1 ⊢
  rw [World.cell?_of_block (a := ⟨b, 0 + j, none⟩) (hf.block b hb hS)]
  exact h1
theorem vec_one (l : List (Int × Int)) : ∀ u ∈ vecs l, u.oneCell' = true := dr_one l

def BentTo (w : World) (N nb rn dn : Nat) (e : Ending) (w' : World) : Prop := ∃ s' bodies' polys' rooms' doors', e = .returned (St.val s') ∧ SK w' s' bodies' polys' rooms' doors' ∧ (∀ p ∈ polys', p.length ≤ N + 1) ∧ bodies'.length ≤ nb ∧ rooms'.length = rn ∧ doors'.length ≤ dn + 1 ∧ Fr [] w w'
/-- the setup's block at the end -/
def BentQ (w : World) (bx N nb rn dn : Nat) (ZS : Array Value) (wc : World) : Prop := ∃ s' bodies' polys' rooms' doors', BT w bx (N + 1) ZS s' bodies' polys' rooms' doors' wc ∧ bodies'.length ≤ nb ∧ rooms'.length = rn ∧ doors'.length ≤ dn + 1

set_option maxRecDepth 100000 in
set_option maxHeartbeats 32000000 in
theorem bent_any (w : World) (s : St) (bodies : List Bd) (polys : List (List (Int × Int))) (rooms : List Bx) (doors : List (Int × Int)) (N : Nat) (h : SK w s bodies polys rooms doors) (hN : ∀ p ∈ polys, p.length ≤ N) (hN1 : N ≤ 100) (hb1 : 1 ≤ bodies.length) (hb2 : bodies.length ≤ 24)
    (hr1 : 1 ≤ rooms.length) (hr2 : rooms.length ≤ 24) (hd1 : doors.length ≤ 100) (how n : Int) (hw : bounded how) (hn : bounded n) :
    Calls Try.prog 12 #[s.val, .int .i64 how, .int .i64 n] w (BentTo w N bodies.length rooms.length doors.length) := by
  obtain ⟨ib, hib, hib0, hib1, hib2⟩ := info_parts infoBodyZ
  obtain ⟨ir, hir, hir0, hir1, hir2⟩ := info_parts infoBoxZ
  obtain ⟨id, hid, hid0, hid1, hid2⟩ := info_parts infoDoorZ
  obtain ⟨iv, hiv, hiv0, hiv1, hiv2⟩ := info_parts infoVecZ
  have hnb : s.nb = bodies.length := h.bod.nb
  have hrn : s.rn = rooms.length := h.map.rn
  have hdn : s.dn = doors.length := h.map.dn
  have HK := Lib.hid h
  have HN := Lib.hid hN
  obtain ⟨ZS, hZS⟩ : ∃ ZS : Array Value, ZS = #[.int .i64 0, .slice none 0 0, .int .i64 0, .int .i64 0, .int .i64 0, .int .i64 0, .slice none 0 0, .slice none 0 0, .int .i64 0, .int .i64 0, .int .i64 0, .int .i64 0, .int .i64 0, .int .i64 0, .int .i64 0, .int .i64 0] := ⟨_, rfl⟩
  have hZ16 : ZS.size = 16 := by rw [hZS]; rfl
  obtain ⟨C0, hC0⟩ : ∃ C : Array Value, C = #[.int .i64 s.players, .slice s.bo bodies.length s.bc, .int .i64 s.x0, .int .i64 s.y0, .int .i64 s.x1, .int .i64 s.y1, .slice s.ro rooms.length s.rc, .slice s.dO doors.length s.dc, .int .i64 s.fog, .int .i64 s.gx, .int .i64 s.gy, .int .i64 s.push, .int .i64 s.drag, .int .i64 s.rest, .int .i64 s.rounds, .int .i64 s.fuel] := ⟨_, rfl⟩
  obtain ⟨bx, hbx⟩ : ∃ bx, bx = w.heap.size := ⟨_, rfl⟩
  obtain ⟨w1, hw1⟩ : ∃ w1, w1 = (w.alloc (.cells C0 31)).alloc (.cells ZS 31) := ⟨_, rfl⟩
  have hB1 : w1.heap[bx]? = some (.cells C0 31 (0, 0)) := by rw [hw1, hbx]; exact alloc_old (alloc_new w _)
  have hR1 : w1.heap[bx + 1]? = some (.cells ZS 31 (0, 0)) := by rw [hw1, hbx]; exact alloc_new2 w _ _
  have hF1 : Fr [] w w1 := by rw [hw1]; exact ((Fr.refl [] w).alloc _).alloc _
  have hz1 : w1.heap.size = bx + 2 := by rw [hw1, hbx]; simp
  have c1 : (w1.alloc (.cells #[] 52)).cell? ⟨bx, 1, none⟩ = some (.slice s.bo bodies.length s.bc) := by rw [cell_blk (alloc_old hB1), hC0]; rfl
  have HO := Lib.hid (by have h := Seg.one w1.heap.size #[] 52 9 0 (alloc_new w1 (.cells #[] 52)) rfl (by unfold maxLen; omega); exact h : Seg (w1.alloc (.cells #[] 52)) 52 9 (some ⟨w1.heap.size, 0, none⟩) 0 0 [])
  have HQ := Lib.hid (by rw [hC0]; rfl : C0[1]? = some (.slice s.bo bodies.length s.bc))
  have HBX := Lib.hid hbx
  have HB1 := Lib.hid hB1
  have HR1 := Lib.hid hR1
  have HF1 := Lib.hid hF1
  have HZ1 := Lib.hid hz1
  have HC0 := Lib.hid hC0
  have HZS := Lib.hid hZS
  have HZ16 := Lib.hid hZ16
  have HW1 := Lib.hid (by rw [hw1, hC0, hZS] : w1 = (w.alloc (.cells #[.int .i64 s.players, .slice s.bo bodies.length s.bc, .int .i64 s.x0, .int .i64 s.y0, .int .i64 s.x1, .int .i64 s.y1, .slice s.ro rooms.length s.rc, .slice s.dO doors.length s.dc, .int .i64 s.fog, .int .i64 s.gx, .int .i64 s.gy, .int .i64 s.push, .int .i64 s.drag, .int .i64 s.rest, .int .i64 s.rounds, .int .i64 s.fuel] 31)).alloc (.cells #[.int .i64 0, .slice none 0 0, .int .i64 0, .int .i64 0, .int .i64 0, .int .i64 0, .slice none 0 0, .slice none 0 0, .int .i64 0, .int .i64 0, .int .i64 0, .int .i64 0, .int .i64 0, .int .i64 0, .int .i64 0, .int .i64 0] 31))
  have HNB := Lib.hid hnb
  have HRN := Lib.hid hrn
  have HDN := Lib.hid hdn
  have HRB := Lib.hid (h.bod.rd : Rd w 9 s.bo bodies.length (bodies.flatMap Bd.cells))
  have HRR := Lib.hid (h.map.rr : Rd w 4 s.ro rooms.length (rooms.flatMap Bx.cells))
  have HRD := Lib.hid (h.map.dr : Rd w 2 s.dO doors.length (doors.flatMap drCells))
  have HAH := Lib.hid hw
  have HAN := Lib.hid hn
  unfold St.val
  rw [hnb, hrn, hdn]
  clear hbx hB1 hR1 hF1 hz1 hC0 hZS hZ16 hw1 hnb hrn hdn hw hn h hN
  go_enter Try.func12, Try.ntmps12
  go_upto_region 1 with fail
  rw [← HBX.out, ← HW1.out]
  go_upto_region 2 with (at_builtin; refine wpList_append_rd rfl _ _ 23 rfl 52 ib _ 9 88 Try.underlying23 hib hib0 hib1 hib2 rfl (by decide) (some ⟨w1.heap.size, 0, none⟩) 0 0 [] rfl HO.out s.bo bodies.length s.bc (bodies.flatMap Bd.cells) rfl ((HRB.out.fr HF1.out (by simp)).fr ((Fr.refl [] _).alloc _) (by simp)) (bd_one bodies) (by unfold maxLen; omega) (by omega) ?_; intro bO bC wb hs hf hx; have hb : wb.heap[bx]? = some (.cells C0 31 (0, 0)) := hf.blk (alloc_old HB1.out) (by intro hm; simp [blk] at hm; have h1 := HZ1.out; omega); have cq : wb.cell? ⟨bx, 1, none⟩ = some (.slice s.bo bodies.length s.bc) := (cell_blk hb 1).trans HQ.out; have fq : wb.frozen? ⟨bx, 1, none⟩ = false := frozen_blk hb _; have HSN := Lib.hid hs; have HFN := Lib.hid hf; have HXN := Lib.hid hx; have HBN := Lib.hid hb; clear hs hf hx hb)
  obtain ⟨C1, hC1⟩ : ∃ C : Array Value, C = #[.int .i64 s.players, .slice bO bodies.length bC, .int .i64 s.x0, .int .i64 s.y0, .int .i64 s.x1, .int .i64 s.y1, .slice s.ro rooms.length s.rc, .slice s.dO doors.length s.dc, .int .i64 s.fog, .int .i64 s.gx, .int .i64 s.gy, .int .i64 s.push, .int .i64 s.drag, .int .i64 s.rest, .int .i64 s.rounds, .int .i64 s.fuel] := ⟨_, rfl⟩
  obtain ⟨w2, hnw⟩ : ∃ u, u = wb.setCell ⟨bx, 1, none⟩ (.slice bO bodies.length bC) := ⟨_, rfl⟩
  rw [← hnw]
  have HB2 := Lib.hid (by rw [hnw, hC1]; have h := setCell_blk HBN.out 1 (.slice bO bodies.length bC); rw [HC0.out] at h; exact h : w2.heap[bx]? = some (.cells C1 31 (0, 0)))
  have hfn : Fr [] w1 wb := ((Fr.refl [] _).alloc _).trans HFN.out (fun q hq => .inr (by simp [blk] at hq; have h1 := HZ1.out; omega))
  have HR2 := Lib.hid (by rw [hnw]; exact (setCell_ne (by simp)).trans (hfn.blk HR1.out (by simp)) : w2.heap[bx + 1]? = some (.cells ZS 31 (0, 0)))
  have HF2 := Lib.hid (by rw [hnw]; exact (HF1.out.trans hfn (by simp [Ext])).setCell (.inr (by simp; have h1 := HBX.out; omega)) _ : Fr [] w w2)
  have HG2 := Lib.hid (by rw [hnw]; exact (hfn.mono (by simp)).setCell (.inl (by simp)) _ : Fr [bx] w1 w2)
  have HW2 := Lib.hid (fun q hq => by
    have h2 := HZ1.out
    have h3 := lt_of_blk HR1.out
    rcases HXN.out q hq with h1 | h1
    · simp [blk] at h1; omega
    · simp at h1; omega : ∀ q ∈ blk bO, bx + 1 < q)
  have HS2 := Lib.hid (by rw [hnw]; have h := HSN.out; rw [Nat.zero_add, List.nil_append] at h; exact h.setCell_other (fun hm => by have hq := HW2.out _ hm; simp at hq; omega) : Seg w2 52 9 bO bodies.length bC (bodies.flatMap Bd.cells))
  have HC1 := Lib.hid hC1
  clear hnw hfn hC1 c1 cq fq HQ HO HSN HFN HXN HBN
  obtain ⟨z3, hz3⟩ : ∃ z, z = w2.heap.size := ⟨_, rfl⟩
  have HO := Lib.hid (by have h := Seg.one w2.heap.size #[] 25 4 0 (alloc_new w2 (.cells #[] 25)) rfl (by unfold maxLen; omega); exact h : Seg (w2.alloc (.cells #[] 25)) 25 4 (some ⟨w2.heap.size, 0, none⟩) 0 0 [])
  have HZZ3 := Lib.hid hz3
  have HQ := Lib.hid (by rw [HC1.out]; rfl : C1[6]? = some (.slice s.ro rooms.length s.rc))
  have c1 : (w2.alloc (.cells #[] 25)).cell? ⟨bx, 6, none⟩ = some (.slice s.ro rooms.length s.rc) := by rw [cell_blk (alloc_old HB2.out), HC1.out]; rfl
  clear hz3
  go_upto_region 3 with (at_builtin; refine wpList_append_rd rfl _ _ 26 rfl 25 ir _ 4 32 Try.underlying26 hir hir0 hir1 hir2 rfl (by decide) (some ⟨w2.heap.size, 0, none⟩) 0 0 [] rfl HO.out s.ro rooms.length s.rc (rooms.flatMap Bx.cells) rfl ((HRR.out.fr HF2.out (by simp)).fr ((Fr.refl [] _).alloc _) (by simp)) (bx_one rooms) (by unfold maxLen; omega) (by omega) ?_; intro rO rC wr hs hf hx; have hb : wr.heap[bx]? = some (.cells C1 31 (0, 0)) := hf.blk (alloc_old HB2.out) (by intro hm; simp [blk] at hm; have h1 := lt_of_blk HB2.out; have h2 := HZZ3.out; omega); have cq : wr.cell? ⟨bx, 6, none⟩ = some (.slice s.ro rooms.length s.rc) := (cell_blk hb 6).trans HQ.out; have fq : wr.frozen? ⟨bx, 6, none⟩ = false := frozen_blk hb _; have HSN := Lib.hid hs; have HFN := Lib.hid hf; have HXN := Lib.hid hx; have HBN := Lib.hid hb; clear hs hf hx hb)
  obtain ⟨C2, hC2⟩ : ∃ C : Array Value, C = #[.int .i64 s.players, .slice bO bodies.length bC, .int .i64 s.x0, .int .i64 s.y0, .int .i64 s.x1, .int .i64 s.y1, .slice rO rooms.length rC, .slice s.dO doors.length s.dc, .int .i64 s.fog, .int .i64 s.gx, .int .i64 s.gy, .int .i64 s.push, .int .i64 s.drag, .int .i64 s.rest, .int .i64 s.rounds, .int .i64 s.fuel] := ⟨_, rfl⟩
  obtain ⟨w3, hnw⟩ : ∃ u, u = wr.setCell ⟨bx, 6, none⟩ (.slice rO rooms.length rC) := ⟨_, rfl⟩
  rw [← hnw]
  have HB3 := Lib.hid (by rw [hnw, hC2]; have h := setCell_blk HBN.out 6 (.slice rO rooms.length rC); rw [HC1.out] at h; exact h : w3.heap[bx]? = some (.cells C2 31 (0, 0)))
  have hfn : Fr [] w2 wr := ((Fr.refl [] _).alloc _).trans HFN.out (fun q hq => .inr (by simp [blk] at hq; have h1 := HZZ3.out; omega))
  have HR3 := Lib.hid (by rw [hnw]; exact (setCell_ne (by simp)).trans (hfn.blk HR2.out (by simp)) : w3.heap[bx + 1]? = some (.cells ZS 31 (0, 0)))
  have HF3 := Lib.hid (by rw [hnw]; exact (HF2.out.trans hfn (by simp [Ext])).setCell (.inr (by simp; have h1 := HBX.out; omega)) _ : Fr [] w w3)
  have HG3 := Lib.hid (by rw [hnw]; exact (hfn.mono (by simp)).setCell (.inl (by simp)) _ : Fr [bx] w2 w3)
  have HW3 := Lib.hid (fun q hq => by
    have h2 := HZZ3.out
    have h3 := lt_of_blk HR2.out
    rcases HXN.out q hq with h1 | h1
    · simp [blk] at h1; omega
    · simp at h1; omega : ∀ q ∈ blk rO, bx + 1 < q)
  have HS3 := Lib.hid (by rw [hnw]; have h := HSN.out; rw [Nat.zero_add, List.nil_append] at h; exact h.setCell_other (fun hm => by have hq := HW3.out _ hm; simp at hq; omega) : Seg w3 25 4 rO rooms.length rC (rooms.flatMap Bx.cells))
  have HC2 := Lib.hid hC2
  clear hnw hfn hC2 c1 cq fq HQ HO HSN HFN HXN HBN
  obtain ⟨z4, hz4⟩ : ∃ z, z = w3.heap.size := ⟨_, rfl⟩
  have HO := Lib.hid (by have h := Seg.one w3.heap.size #[] 68 2 0 (alloc_new w3 (.cells #[] 68)) rfl (by unfold maxLen; omega); exact h : Seg (w3.alloc (.cells #[] 68)) 68 2 (some ⟨w3.heap.size, 0, none⟩) 0 0 [])
  have HZZ4 := Lib.hid hz4
  have HQ := Lib.hid (by rw [HC2.out]; rfl : C2[7]? = some (.slice s.dO doors.length s.dc))
  have c1 : (w3.alloc (.cells #[] 68)).cell? ⟨bx, 7, none⟩ = some (.slice s.dO doors.length s.dc) := by rw [cell_blk (alloc_old HB3.out), HC2.out]; rfl
  clear hz4
  go_upto_region 4 with (at_builtin; refine wpList_append_rd rfl _ _ 27 rfl 68 id _ 2 16 Try.underlying27 hid hid0 hid1 hid2 rfl (by decide) (some ⟨w3.heap.size, 0, none⟩) 0 0 [] rfl HO.out s.dO doors.length s.dc (doors.flatMap drCells) rfl ((HRD.out.fr HF3.out (by simp)).fr ((Fr.refl [] _).alloc _) (by simp)) (dr_one doors) (by unfold maxLen; omega) (by omega) ?_; intro dO dC wd hs hf hx; have hb : wd.heap[bx]? = some (.cells C2 31 (0, 0)) := hf.blk (alloc_old HB3.out) (by intro hm; simp [blk] at hm; have h1 := lt_of_blk HB3.out; have h2 := HZZ4.out; omega); have cq : wd.cell? ⟨bx, 7, none⟩ = some (.slice s.dO doors.length s.dc) := (cell_blk hb 7).trans HQ.out; have fq : wd.frozen? ⟨bx, 7, none⟩ = false := frozen_blk hb _; have HSN := Lib.hid hs; have HFN := Lib.hid hf; have HXN := Lib.hid hx; have HBN := Lib.hid hb; clear hs hf hx hb)
  obtain ⟨C3, hC3⟩ : ∃ C : Array Value, C = #[.int .i64 s.players, .slice bO bodies.length bC, .int .i64 s.x0, .int .i64 s.y0, .int .i64 s.x1, .int .i64 s.y1, .slice rO rooms.length rC, .slice dO doors.length dC, .int .i64 s.fog, .int .i64 s.gx, .int .i64 s.gy, .int .i64 s.push, .int .i64 s.drag, .int .i64 s.rest, .int .i64 s.rounds, .int .i64 s.fuel] := ⟨_, rfl⟩
  obtain ⟨w4, hnw⟩ : ∃ u, u = wd.setCell ⟨bx, 7, none⟩ (.slice dO doors.length dC) := ⟨_, rfl⟩
  rw [← hnw]
  have HB4 := Lib.hid (by rw [hnw, hC3]; have h := setCell_blk HBN.out 7 (.slice dO doors.length dC); rw [HC2.out] at h; exact h : w4.heap[bx]? = some (.cells C3 31 (0, 0)))
  have hfn : Fr [] w3 wd := ((Fr.refl [] _).alloc _).trans HFN.out (fun q hq => .inr (by simp [blk] at hq; have h1 := HZZ4.out; omega))
  have HR4 := Lib.hid (by rw [hnw]; exact (setCell_ne (by simp)).trans (hfn.blk HR3.out (by simp)) : w4.heap[bx + 1]? = some (.cells ZS 31 (0, 0)))
  have HF4 := Lib.hid (by rw [hnw]; exact (HF3.out.trans hfn (by simp [Ext])).setCell (.inr (by simp; have h1 := HBX.out; omega)) _ : Fr [] w w4)
  have HG4 := Lib.hid (by rw [hnw]; exact (hfn.mono (by simp)).setCell (.inl (by simp)) _ : Fr [bx] w3 w4)
  have HW4 := Lib.hid (fun q hq => by
    have h2 := HZZ4.out
    have h3 := lt_of_blk HR3.out
    rcases HXN.out q hq with h1 | h1
    · simp [blk] at h1; omega
    · simp at h1; omega : ∀ q ∈ blk dO, bx + 1 < q)
  have HS4 := Lib.hid (by rw [hnw]; have h := HSN.out; rw [Nat.zero_add, List.nil_append] at h; exact h.setCell_other (fun hm => by have hq := HW4.out _ hm; simp at hq; omega) : Seg w4 68 2 dO doors.length dC (doors.flatMap drCells))
  have HC3 := Lib.hid hC3
  clear hnw hfn hC3 c1 cq fq HQ HO HSN HFN HXN HBN
  obtain ⟨s4, hs4⟩ : ∃ s4 : St, s4 = { s with bo := bO, nb := bodies.length, bc := bC, ro := rO, rn := rooms.length, rc := rC, dO := dO, dn := doors.length, dc := dC } := ⟨_, rfl⟩
  have hown : ∀ q ∈ s4.own bx, w.heap.size ≤ q := by
    intro q hq
    rw [hs4] at hq
    simp only [St.own, List.mem_cons, List.mem_append] at hq
    have h0 := HBX.out
    rcases hq with e | e | e | e | e
    · omega
    · omega
    · have := HW2.out q e; omega
    · have := HW3.out q e; omega
    · have := HW4.out q e; omega
  have hne : ∀ (b : Nat) (S : List Nat), (∀ q ∈ S, bx + 1 < q) → ∀ q ∈ S, q ∉ [bx] := fun b S h q hq hm => by have := h q hq; simp at hm; omega
  have hbt : BT w bx N ZS s4 bodies polys rooms doors w4 := by
    refine ⟨by rw [hs4]; have h := HB4.out; rw [HC3.out] at h; exact h, HR4.out, by rw [hs4], by rw [hs4], by rw [hs4], by rw [hs4]; exact (HS2.out.fr HG3.out (hne 0 _ HW2.out)).fr HG4.out (hne 0 _ HW2.out), by rw [hs4]; exact HS3.out.fr HG4.out (hne 0 _ HW3.out), by rw [hs4]; exact HS4.out, HK.out.pl, fun j h1 h2 => ?_, HF4.out, hown⟩
    obtain ⟨q1, q2, q3⟩ := HK.out.sh j h1 h2
    refine ⟨q1, HN.out _ (List.getElem_mem h2), q3.fr HF4.out (by simp), ?_⟩
    rcases Nat.eq_zero_or_pos polys[j].length with e | e
    · exact .inl e
    · obtain ⟨g, off, ea, hg, -⟩ := q3.at e
      refine .inr fun q hq hm => ?_
      rw [ea] at hq
      simp [blk] at hq
      have := hown q hm
      omega
  have c1 : w4.cell? ⟨bx, 1, none⟩ = some (.slice bO bodies.length bC) := by rw [cell_blk HB4.out, HC3.out]; rfl
  obtain ⟨k, hk, -, hA⟩ := around_nat n bodies.length HAN.out hb1 (by omega)
  obtain ⟨q, hq, -, hA2⟩ := around_nat how 21 HAH.out (by omega) (by omega)
  have HA := Lib.hid hA
  have HA2 := Lib.hid hA2
  have HBT := Lib.hid hbt
  have HS4e := Lib.hid hs4
  clear hown hne hbt hA hA2 hs4 HS2 HS3 HS4 HG2 HG3 HG4 HW2 HW3 HW4 HRB HRR HRD HF1 HF2 HF3 HB1 HB2 HB3 HR1 HR2 HR3 HZ1 HZZ3 HZZ4
  go_wp2_with fail
  refine (HA.out _).mono ?_
  rintro e w' ⟨rfl, hw'⟩
  subst hw'
  go_upto_block 0 with (refine (HA2.out _).mono ?_; rintro e w' ⟨rfl, hw'⟩; subst hw')
  clear c1
  obtain ⟨g, off, cur, hbo, hg, -, -, hfz⟩ := HBT.out.sb.at (by have := HBT.out.sb.2.2.1; omega)
  obtain ⟨gr, offr, curr, hro, hgr, -, -, hfr⟩ := HBT.out.sr.at (by have := HBT.out.sr.2.2.1; omega)
  have hbo' : bO = some ⟨g, off, none⟩ := by rw [← hbo, HS4e.out]
  have hro' : rO = some ⟨gr, offr, none⟩ := by rw [← hro, HS4e.out]
  subst hbo'
  subst hro'
  have HBO := Lib.hid hbo
  have HRO := Lib.hid hro
  obtain ⟨d, hd⟩ : ∃ d, d = bodies[k] := ⟨_, rfl⟩
  obtain ⟨r, hr⟩ : ∃ r, r = rooms[0] := ⟨_, rfl⟩
  obtain ⟨_, _, e, -, k0, k1, k2, k3, k4, k5, k6, k7, k8⟩ := HBT.out.sb.rd.body hk hd
  rw [hbo] at e
  cases e
  obtain ⟨_, _, e, -, -, -, r2, -⟩ := HBT.out.sr.rd.room (i := 0) hr1
  rw [hro] at e
  cases e
  rw [← hr] at r2
  simp only [Nat.zero_mul, Nat.add_zero] at r2
  have HK0 := Lib.hid k0
  have HK1 := Lib.hid k1
  have HK2 := Lib.hid k2
  have HK3 := Lib.hid k3
  have HK4 := Lib.hid k4
  have HK5 := Lib.hid k5
  have HK6 := Lib.hid k6
  have HK7 := Lib.hid k7
  have HR2 := Lib.hid r2
  have HFZ := Lib.hid hfz
  have HFR := Lib.hid hfr
  have HD := Lib.hid hd
  have HRM := Lib.hid hr
  have HGB := Lib.hid (fun e => HBT.out.bxb (by rw [HBO.out, e]; simp [blk]) : bx ≠ g)
  have HKN := Lib.hid hk
  have hkn : (k : Int) < (bodies.length : Int) := by omega
  have hrn0 : (0 : Int) < (rooms.length : Int) := by omega
  have hrn00 : 0 < rooms.length := by omega
  have HGR := Lib.hid (lt_of_blk hg)
  have HGH := Lib.hid hg
  clear hfz hfr hd hr k0 k1 k2 k3 k4 k5 k6 k7 k8 r2 hbo hro hg hgr
  have cb : w4.cell? ⟨bx, 1, none⟩ = some (.slice (some ⟨g, off, none⟩) bodies.length bC) := by rw [cell_blk HB4.out, HC3.out]; rfl
  have cr : w4.cell? ⟨bx, 6, none⟩ = some (.slice (some ⟨gr, offr, none⟩) rooms.length rC) := by rw [cell_blk HB4.out, HC3.out]; rfl
  have cd : w4.cell? ⟨bx, 7, none⟩ = some (.slice dO doors.length dC) := by rw [cell_blk HB4.out, HC3.out]; rfl
  have HCB := Lib.hid cb
  have HCR := Lib.hid cr
  have HCD := Lib.hid cd
  clear cb cr cd
  go_cut [] from 30 to 180 (fun wc => BentQ w bx N bodies.length rooms.length doors.length ZS wc)
  case first =>
    rcases (show q = 0 ∨ q = 1 ∨ q = 2 ∨ q = 3 ∨ q = 4 ∨ q = 5 ∨ q = 6 ∨ q = 7 ∨ q = 8 ∨ q = 9 ∨ q = 10 ∨ q = 11 ∨ q = 12 ∨ q = 13 ∨ q = 14 ∨ q = 15 ∨ q = 16 ∨ q = 17 ∨ q = 18 ∨ q = 19 ∨ q = 20 by omega) with e | e | e | e | e | e | e | e | e | e | e | e | e | e | e | e | e | e | e | e | e
    · subst e
      have c0 : w4.cell? ⟨bx, 0, none⟩ = some (.int .i64 s.players) := by rw [cell_blk HB4.out, HC3.out]; rfl
      have f0 : w4.frozen? ⟨bx, 0, none⟩ = false := frozen_blk HB4.out _
      go_wp2_with fail
      go_meet
      exact ⟨{ s4 with players := n }, _, _, _, _, (HBT.out.num (s' := { s4 with players := n }) 0 n rfl rfl rfl rfl rfl rfl rfl rfl rfl rfl).more (Nat.le_succ N), Nat.le_refl _, rfl, Nat.le_succ _⟩
    · subst e
      have cb := HCB.out
      have kj := HK0.out
      have fj : w4.frozen? ⟨g, off + k * 9, none⟩ = false := HFZ.out _
      go_wp2_with fail
      go_meet
      have hbb : BT w bx N ZS s4 (bodies.set k { d with rad := n }) polys rooms doors (w4.setCell ⟨g, off + k * 9, none⟩ (.int .i64 n)) := by
        have h := HBT.out.body (j := 0) (v := .int .i64 n) (d' := { d with rad := n }) HBO.out HKN.out (by omega) HD.out rfl rfl rfl
        rw [← Nat.add_assoc] at h
        exact h
      exact ⟨_, _, _, _, _, hbb.more (Nat.le_succ N), by rw [List.length_set]; exact Nat.le_refl _, rfl, Nat.le_succ _⟩
    · subst e
      obtain ⟨pl, hpl⟩ : ∃ pl, pl = polys[k]'(by have := HBT.out.pl; have := HKN.out; omega) := ⟨_, rfl⟩
      obtain ⟨q1, q2, q3, q4⟩ := HBT.out.sh k HKN.out (by have := HBT.out.pl; have := HKN.out; omega)
      rw [← HD.out, ← hpl] at q1 q3 q4
      rw [← hpl] at q2
      have kj := HK1.out
      rw [q1] at kj
      have HQ1 := Lib.hid q1
      have HQ2 := Lib.hid q2
      have HQ3 := Lib.hid q3
      have HPL := Lib.hid hpl
      have HC31 := Lib.hid (by rw [HC3.out]; rfl : C3[1]? = some (.slice (some ⟨g, off, none⟩) bodies.length bC))
      have HGC := Lib.hid HGH.out
      have HGK := Lib.hid ((cell_blk HGH.out _).symm.trans kj : cur[off + k * 9 + 1]? = some (.slice d.po pl.length d.pc))
      have cb := HCB.out
      have fj : w4.frozen? ⟨g, off + k * 9 + 1, none⟩ = false := HFZ.out _
      clear q1 q2 q3 q4 hpl
      have HB4w := Lib.hid (fun (u : World) (hu : Fr [] w4 u) => ((cell_blk (hu.blk HB4.out (by simp)) 1).trans HC31.out : u.cell? ⟨bx, 1, none⟩ = some (.slice (some ⟨g, off, none⟩) bodies.length bC)))
      have HSK := Lib.hid HB4w.out
      have HGKw := Lib.hid (fun (u : World) (hu : Fr [] w4 u) => ((cell_blk (hu.blk HGC.out (by simp)) _).trans HGK.out : u.cell? ⟨g, off + k * 9 + 1, none⟩ = some (.slice d.po pl.length d.pc)))
      have fA := (Fr.refl [] w4).alloc (.cells #[] 29)
      have fB := (Fr.refl [] w4).alloc (.cells #[.int .i64 n, .int .i64 1] 29)
      have cbA := HB4w.out _ fA
      have cbB := HB4w.out _ fB
      have cbAB := HB4w.out _ (fA.alloc (.cells #[.int .i64 n, .int .i64 1] 29))
      have cbBA := HB4w.out _ (fB.alloc (.cells #[] 29))
      have kjA := HGKw.out _ fA
      have kjB := HGKw.out _ fB
      have kjAB := HGKw.out _ (fA.alloc (.cells #[.int .i64 n, .int .i64 1] 29))
      have kjBA := HGKw.out _ (fB.alloc (.cells #[] 29))
      clear fA fB cbA cbB cbAB cbBA
      have HNAB : Hid (News (((w4.alloc (.cells #[] 29)).alloc (.cells #[.int .i64 n, .int .i64 1] 29)).drew) (w4.heap.size + 1) (.int .i64 n) (.int .i64 1)) := Lib.hid (by have h := News.one (w4.alloc (.cells #[] 29)) (.int .i64 n) (.int .i64 1) 29; rw [World.size_alloc] at h; exact h)
      have HNBA : Hid (News (((w4.alloc (.cells #[.int .i64 n, .int .i64 1] 29)).alloc (.cells #[] 29)).drew) w4.heap.size (.int .i64 n) (.int .i64 1)) := Lib.hid ((News.one w4 (.int .i64 n) (.int .i64 1) 29).kept (((Fr.refl [] (w4.alloc (.cells #[.int .i64 n, .int .i64 1] 29))).alloc (.cells #[] 29)).drew) (by simp) (by simp))
      have HAZ := Lib.hid (fun (u : World) => Seg.one u.heap.size #[] 29 2 0 (alloc_new u (.cells #[] 29)) rfl (by unfold maxLen; omega))
      have HAZBA : Hid (Seg (((w4.alloc (.cells #[.int .i64 n, .int .i64 1] 29)).alloc (.cells #[] 29)).drew) 29 2 (some ⟨w4.heap.size + 1, 0, none⟩) 0 0 []) := Lib.hid (by have h := HAZ.out (w4.alloc (.cells #[.int .i64 n, .int .i64 1] 29)); rw [World.size_alloc] at h; exact h.drew)
      have hpl100 : pl.length ≤ 100 := by have := HQ2.out; omega
      go_upto_region 12 with fail
      refine wp_region_held_drew (S := (fun u => u.cell? ⟨bx, 1, none⟩ = some (.slice (some ⟨g, off, none⟩) bodies.length bC))) (by kernel_rfl) (HSK.out _ (Fr.refl [] w4).drew) (fun hHeld => ?_)
      refine wpAnyH_takeL (i := 0) (v := _) rfl (by kernel_rfl) (by kernel_rfl) (by kernel_rfl) (fun _ _ _ h => h) (Or.inl ⟨by rfl, (by intro w' hSw; (try dsimp only at hSw); skip; go_simp; try with_reducible rfl)⟩) (by assumption) ?_
      try simp only [Act.put, List.setIfInBounds_toArray, List.set_cons_zero, List.set_cons_succ]
      refine wpAnyH_takeL (i := 1) (v := _) rfl (by kernel_rfl) (by kernel_rfl) (by kernel_rfl) (fun _ _ _ h => h) (Or.inl ⟨by rfl, (by intro w' hSw; (try dsimp only at hSw); skip; go_simp; try with_reducible rfl)⟩) (by assumption) ?_
      try simp only [Act.put, List.setIfInBounds_toArray, List.set_cons_zero, List.set_cons_succ]
      refine wpAnyH_takeL (i := 2) (v := _) rfl (by kernel_rfl) (by kernel_rfl) (by kernel_rfl) (fun _ _ _ h => h) (Or.inl ⟨by rfl, (by intro w' hSw; (try dsimp only at hSw); skip; go_simp; try with_reducible rfl)⟩) (by assumption) ?_
      try simp only [Act.put, List.setIfInBounds_toArray, List.set_cons_zero, List.set_cons_succ]
      refine wpAnyH_takeL (i := 4) (v := _) rfl (by kernel_rfl) (by kernel_rfl) (by kernel_rfl) (fun _ _ _ h => h) (Or.inl ⟨by rfl, (by intro w' hSw; (try dsimp only at hSw); skip; go_simp; try with_reducible rfl)⟩) (by assumption) ?_
      try simp only [Act.put, List.setIfInBounds_toArray, List.set_cons_zero, List.set_cons_succ]
      refine wpAnyH_takeL (i := 5) (v := _) rfl (by kernel_rfl) (by kernel_rfl) (by kernel_rfl) (fun _ _ _ h => h) (Or.inl ⟨by rfl, (by intro w' hSw; (try dsimp only at hSw); skip; go_simp; try with_reducible rfl)⟩) (by assumption) ?_
      try simp only [Act.put, List.setIfInBounds_toArray, List.set_cons_zero, List.set_cons_succ]
      refine wpAnyH_takeL (i := 6) (v := _) rfl (by kernel_rfl) (by kernel_rfl) (by kernel_rfl) (fun _ _ _ h => h) (Or.inl ⟨by rfl, (by intro w' hSw; (try dsimp only at hSw); skip; go_simp; try with_reducible rfl)⟩) (by assumption) ?_
      try simp only [Act.put, List.setIfInBounds_toArray, List.set_cons_zero, List.set_cons_succ]
      refine wpAnyH_takeL (i := 7) (v := _) rfl (by kernel_rfl) (by kernel_rfl) (by kernel_rfl) (fun _ _ _ h => h) (Or.inl ⟨by rfl, (by intro w' hSw; (try dsimp only at hSw); skip; go_simp; try with_reducible rfl)⟩) (by assumption) ?_
      try simp only [Act.put, List.setIfInBounds_toArray, List.set_cons_zero, List.set_cons_succ]
      refine wpAnyH_takeL (i := 8) (v := _) rfl (by kernel_rfl) (by kernel_rfl) (by kernel_rfl) (fun _ _ _ h => h) (Or.inl ⟨by rfl, (by intro w' hSw; (try dsimp only at hSw); skip; go_simp; try with_reducible rfl)⟩) (by assumption) ?_
      try simp only [Act.put, List.setIfInBounds_toArray, List.set_cons_zero, List.set_cons_succ]
      refine wpAnyH_takeL (i := 9) (v := _) rfl (by kernel_rfl) (by kernel_rfl) (by kernel_rfl) (fun _ _ _ h => h) (Or.inl ⟨by rfl, (by intro w' hSw; (try dsimp only at hSw); skip; go_simp; try with_reducible rfl)⟩) (by assumption) ?_
      try simp only [Act.put, List.setIfInBounds_toArray, List.set_cons_zero, List.set_cons_succ]
      refine wpAnyH_takeL (i := 12) (v := _) rfl (by kernel_rfl) (by kernel_rfl) (by kernel_rfl) (fun _ _ _ h => h) (Or.inl ⟨by rfl, (by intro w' hSw; (try dsimp only at hSw); skip; go_simp; try with_reducible rfl)⟩) (by assumption) ?_
      try simp only [Act.put, List.setIfInBounds_toArray, List.set_cons_zero, List.set_cons_succ]
      refine wpAnyH_takeL (i := 13) (v := _) rfl (by kernel_rfl) (by kernel_rfl) (by kernel_rfl) (fun _ _ _ h => h) (Or.inl ⟨by rfl, (by intro w' hSw; (try dsimp only at hSw); skip; go_simp; try with_reducible rfl)⟩) (by assumption) ?_
      try simp only [Act.put, List.setIfInBounds_toArray, List.set_cons_zero, List.set_cons_succ]
      refine wpAnyH_ready (rs := [3, 10, 14]) (by kernel_rfl) (by simp) ?_
      refine AllReadyH.consL (i := 3) rfl (fun K hK => ?_) ?_
      · go_simp
        skip
        refine hK.out _ _ (HSK.out _ ((((Fr.refl [] w4).drew).alloc _))) (fun hHeld => ?_)
        clear hK K
        try simp only [Act.put, List.setIfInBounds_toArray, List.set_cons_zero, List.set_cons_succ]
        refine wpAnyH_ready (rs := [10, 14]) (by kernel_rfl) (by simp) ?_
        refine AllReadyH.consL (i := 10) rfl (fun K hK => ?_) ?_
        · go_simp
          skip
          refine hK.out _ _ (HSK.out _ ((((Fr.refl [] w4).drew).alloc _))) (fun hHeld => ?_)
          clear hK K
          try simp only [Act.put, List.setIfInBounds_toArray, List.set_cons_zero, List.set_cons_succ]
          refine wpAnyH_ready (rs := [11, 14]) (by kernel_rfl) (by simp) ?_
          refine AllReadyH.consL (i := 11) rfl (fun K hK => ?_) ?_
          · refine step_append_rd rfl _ _ 46 rfl 29 iv _ 2 16 Try.underlying46 hiv hiv0 hiv1 hiv2 rfl (by decide) (some ⟨_, 0, none⟩) 0 0 [] rfl (HAZ.out _) d.po pl.length d.pc (vecs pl) rfl (HQ3.out.fr ((((Fr.refl [] w4).drew).alloc _)) (by simp)) (vec_one pl) (by unfold maxLen; omega) (by omega) ?_; intro o6 c6 w6 hs6 hf6 hx6; have HS6 : Hid (Seg w6 29 2 o6 pl.length c6 (vecs pl)) := Lib.hid (by rw [Nat.zero_add, List.nil_append] at hs6; exact hs6); have HF6 : Hid (Fr [] w4 w6) := Lib.hid (((((Fr.refl [] w4).drew).alloc _)).trans hf6 (fun q hq => .inr (by simp [blk] at hq; omega))); have HB6 : Hid (∀ q ∈ blk o6, q ∈ ([] : List Nat) ∨ w4.heap.size ≤ q) := Lib.hid (fun q hq => .inr (by rcases hx6 q hq with h | h; (simp [blk] at h; omega); (simp at h; omega))); clear hs6 hf6 hx6; try simp only [Nat.zero_add]
            refine hK.out _ _ (HSK.out _ HF6.out) (fun hHeld => ?_)
            clear hK K
            try simp only [Act.put, List.setIfInBounds_toArray, List.set_cons_zero, List.set_cons_succ]
            refine wpAnyH_ready (rs := [14]) (by kernel_rfl) (by simp) ?_
            refine AllReadyH.consL (i := 14) rfl (fun K hK => ?_) AllReadyH.nil
            go_simp
            skip
            refine hK.out _ _ (HSK.out _ (((HF6.out).alloc _))) (fun hHeld => ?_)
            clear hK K
            try simp only [Act.put, List.setIfInBounds_toArray, List.set_cons_zero, List.set_cons_succ]
            refine wpAnyH_ready (rs := [15]) (by kernel_rfl) (by simp) ?_
            refine AllReadyH.consL (i := 15) rfl (fun K hK => ?_) AllReadyH.nil
            refine step_append_seg rfl _ _ 46 rfl 29 iv _ 2 16 Try.underlying46 hiv hiv0 hiv1 hiv2 rfl (by decide) o6 pl.length c6 (vecs pl) rfl (HS6.out.alloc _) ⟨_, 0, none⟩ 1 1 [.int .i64 n, .int .i64 1] rfl rfl (News.one w6 _ _ _) (by simp [Value.oneCell']) (by unfold maxLen; omega) (by omega) ?_; intro o8 c8 w8 hs8 hf8 hx8; have HS8 := Lib.hid hs8; have HF8 : Hid (Fr [] w4 w8) := Lib.hid ((HF6.out.alloc _).trans hf8 HB6.out); have hgr8 := HF8.out.blk HGC.out (by simp); have kj8 : w8.cell? ⟨g, off + k * 9 + 1, none⟩ = some (.slice d.po pl.length d.pc) := (cell_blk hgr8 _).trans HGK.out; have fj8 : w8.frozen? ⟨g, off + k * 9 + 1, none⟩ = false := frozen_blk hgr8 _; have HSS := Lib.hid (fun (v : Value) => (World.cell?_of_block (a := ⟨bx, 1, none⟩) (setCell_ne (w := w8) (a := ⟨g, off + k * 9 + 1, none⟩) (v := v) (by simpa using HGB.out))).trans (HSK.out _ HF8.out)); clear hs8 hf8 hx8 hgr8
            refine hK.out _ _ (HSK.out _ HF8.out) (fun hHeld => ?_)
            clear hK K
            try simp only [Act.put, List.setIfInBounds_toArray, List.set_cons_zero, List.set_cons_succ]
            refine wpAnyH_takeL (i := 16) (v := _) rfl (by kernel_rfl) (by kernel_rfl) (by kernel_rfl) (fun _ _ _ h => h) (Or.inl ⟨by rfl, (by intro w' hSw; (try dsimp only at hSw); skip; go_simp; try with_reducible rfl)⟩) (by assumption) ?_
            try simp only [Act.put, List.setIfInBounds_toArray, List.set_cons_zero, List.set_cons_succ]
            refine wpAnyH_takeL (i := 17) (v := _) rfl (by kernel_rfl) (by kernel_rfl) (by kernel_rfl) (fun _ _ _ h => h) (Or.inl ⟨by rfl, (by intro w' hSw; (try dsimp only at hSw); skip; go_simp; try with_reducible rfl)⟩) (by assumption) ?_
            try simp only [Act.put, List.setIfInBounds_toArray, List.set_cons_zero, List.set_cons_succ]
            refine wpAnyH_takeL (i := 18) (v := _) rfl (by kernel_rfl) (by kernel_rfl) (by kernel_rfl) (fun _ _ _ h => h) (Or.inl ⟨by rfl, (by intro w' hSw; (try dsimp only at hSw); skip; go_simp; try with_reducible rfl)⟩) (by assumption) ?_
            try simp only [Act.put, List.setIfInBounds_toArray, List.set_cons_zero, List.set_cons_succ]
            refine wpAnyH_ready (rs := [19]) (by kernel_rfl) (by simp) ?_
            refine AllReadyH.consL (i := 19) rfl (fun K hK => ?_) AllReadyH.nil
            go_simp
            skip
            refine hK.out _ _ (HSS.out _) (fun hHeld => ?_)
            clear hK K
            try simp only [Act.put, List.setIfInBounds_toArray, List.set_cons_zero, List.set_cons_succ]
            refine wpAnyH_done (by kernel_rfl) ?_ _
            go_wp2_with fail
            go_meet
            have hbb := HBT.out.poly HF8.out (d' := { d with po := o8, pn := pl.length + 1, pc := c8 }) HBO.out HKN.out HD.out (l := pl ++ [(n, 1)]) (by unfold vecs; rw [List.flatMap_append]; exact HS8.out) (by simp) (by have h := HQ2.out; omega) rfl
            rw [← Nat.add_assoc] at hbb
            exact ⟨_, _, _, _, _, hbb, by rw [List.length_set]; exact Nat.le_refl _, rfl, Nat.le_succ _⟩
          refine AllReadyH.consL (i := 14) rfl (fun K hK => ?_) AllReadyH.nil
          go_simp
          skip
          refine hK.out _ _ (HSK.out _ ((((((Fr.refl [] w4).drew).alloc _)).alloc _))) (fun hHeld => ?_)
          clear hK K
          try simp only [Act.put, List.setIfInBounds_toArray, List.set_cons_zero, List.set_cons_succ]
          refine wpAnyH_ready (rs := [11]) (by kernel_rfl) (by simp) ?_
          refine AllReadyH.consL (i := 11) rfl (fun K hK => ?_) AllReadyH.nil
          refine step_append_rd rfl _ _ 46 rfl 29 iv _ 2 16 Try.underlying46 hiv hiv0 hiv1 hiv2 rfl (by decide) (some ⟨_, 0, none⟩) 0 0 [] rfl ((HAZ.out _).alloc _) d.po pl.length d.pc (vecs pl) rfl (HQ3.out.fr ((((((Fr.refl [] w4).drew).alloc _)).alloc _)) (by simp)) (vec_one pl) (by unfold maxLen; omega) (by omega) ?_; intro o6 c6 w6 hs6 hf6 hx6; have HS6 : Hid (Seg w6 29 2 o6 pl.length c6 (vecs pl)) := Lib.hid (by rw [Nat.zero_add, List.nil_append] at hs6; exact hs6); have HF6 : Hid (Fr [] w4 w6) := Lib.hid (((((((Fr.refl [] w4).drew).alloc _)).alloc _)).trans hf6 (fun q hq => .inr (by simp [blk] at hq; omega))); have HB6 : Hid (∀ q ∈ blk o6, q ∈ ([] : List Nat) ∨ w4.heap.size ≤ q) := Lib.hid (fun q hq => .inr (by rcases hx6 q hq with h | h; (simp [blk] at h; omega); (simp at h; omega))); have HNB : Hid (News w6 (w4.heap.size + 1) (.int .i64 n) (.int .i64 1)) := Lib.hid (HNAB.out.kept hf6 (by simp) (by simp [blk])); clear hs6 hf6 hx6; try simp only [Nat.zero_add]
          refine hK.out _ _ (HSK.out _ HF6.out) (fun hHeld => ?_)
          clear hK K
          try simp only [Act.put, List.setIfInBounds_toArray, List.set_cons_zero, List.set_cons_succ]
          refine wpAnyH_ready (rs := [15]) (by kernel_rfl) (by simp) ?_
          refine AllReadyH.consL (i := 15) rfl (fun K hK => ?_) AllReadyH.nil
          refine step_append_seg rfl _ _ 46 rfl 29 iv _ 2 16 Try.underlying46 hiv hiv0 hiv1 hiv2 rfl (by decide) o6 pl.length c6 (vecs pl) rfl HS6.out ⟨_, 0, none⟩ 1 1 [.int .i64 n, .int .i64 1] rfl rfl HNB.out (by simp [Value.oneCell']) (by unfold maxLen; omega) (by omega) ?_; intro o8 c8 w8 hs8 hf8 hx8; have HS8 := Lib.hid hs8; have HF8 : Hid (Fr [] w4 w8) := Lib.hid (HF6.out.trans hf8 HB6.out); have hgr8 := HF8.out.blk HGC.out (by simp); have kj8 : w8.cell? ⟨g, off + k * 9 + 1, none⟩ = some (.slice d.po pl.length d.pc) := (cell_blk hgr8 _).trans HGK.out; have fj8 : w8.frozen? ⟨g, off + k * 9 + 1, none⟩ = false := frozen_blk hgr8 _; have HSS := Lib.hid (fun (v : Value) => (World.cell?_of_block (a := ⟨bx, 1, none⟩) (setCell_ne (w := w8) (a := ⟨g, off + k * 9 + 1, none⟩) (v := v) (by simpa using HGB.out))).trans (HSK.out _ HF8.out)); clear hs8 hf8 hx8 hgr8
          refine hK.out _ _ (HSK.out _ HF8.out) (fun hHeld => ?_)
          clear hK K
          try simp only [Act.put, List.setIfInBounds_toArray, List.set_cons_zero, List.set_cons_succ]
          refine wpAnyH_takeL (i := 16) (v := _) rfl (by kernel_rfl) (by kernel_rfl) (by kernel_rfl) (fun _ _ _ h => h) (Or.inl ⟨by rfl, (by intro w' hSw; (try dsimp only at hSw); skip; go_simp; try with_reducible rfl)⟩) (by assumption) ?_
          try simp only [Act.put, List.setIfInBounds_toArray, List.set_cons_zero, List.set_cons_succ]
          refine wpAnyH_takeL (i := 17) (v := _) rfl (by kernel_rfl) (by kernel_rfl) (by kernel_rfl) (fun _ _ _ h => h) (Or.inl ⟨by rfl, (by intro w' hSw; (try dsimp only at hSw); skip; go_simp; try with_reducible rfl)⟩) (by assumption) ?_
          try simp only [Act.put, List.setIfInBounds_toArray, List.set_cons_zero, List.set_cons_succ]
          refine wpAnyH_takeL (i := 18) (v := _) rfl (by kernel_rfl) (by kernel_rfl) (by kernel_rfl) (fun _ _ _ h => h) (Or.inl ⟨by rfl, (by intro w' hSw; (try dsimp only at hSw); skip; go_simp; try with_reducible rfl)⟩) (by assumption) ?_
          try simp only [Act.put, List.setIfInBounds_toArray, List.set_cons_zero, List.set_cons_succ]
          refine wpAnyH_ready (rs := [19]) (by kernel_rfl) (by simp) ?_
          refine AllReadyH.consL (i := 19) rfl (fun K hK => ?_) AllReadyH.nil
          go_simp
          skip
          refine hK.out _ _ (HSS.out _) (fun hHeld => ?_)
          clear hK K
          try simp only [Act.put, List.setIfInBounds_toArray, List.set_cons_zero, List.set_cons_succ]
          refine wpAnyH_done (by kernel_rfl) ?_ _
          go_wp2_with fail
          go_meet
          have hbb := HBT.out.poly HF8.out (d' := { d with po := o8, pn := pl.length + 1, pc := c8 }) HBO.out HKN.out HD.out (l := pl ++ [(n, 1)]) (by unfold vecs; rw [List.flatMap_append]; exact HS8.out) (by simp) (by have h := HQ2.out; omega) rfl
          rw [← Nat.add_assoc] at hbb
          exact ⟨_, _, _, _, _, hbb, by rw [List.length_set]; exact Nat.le_refl _, rfl, Nat.le_succ _⟩
        refine AllReadyH.consL (i := 14) rfl (fun K hK => ?_) AllReadyH.nil
        go_simp
        skip
        refine hK.out _ _ (HSK.out _ ((((((Fr.refl [] w4).drew).alloc _)).alloc _))) (fun hHeld => ?_)
        clear hK K
        try simp only [Act.put, List.setIfInBounds_toArray, List.set_cons_zero, List.set_cons_succ]
        refine wpAnyH_ready (rs := [10]) (by kernel_rfl) (by simp) ?_
        refine AllReadyH.consL (i := 10) rfl (fun K hK => ?_) AllReadyH.nil
        go_simp
        skip
        refine hK.out _ _ (HSK.out _ ((((((Fr.refl [] w4).drew).alloc _)).alloc _))) (fun hHeld => ?_)
        clear hK K
        try simp only [Act.put, List.setIfInBounds_toArray, List.set_cons_zero, List.set_cons_succ]
        refine wpAnyH_ready (rs := [11]) (by kernel_rfl) (by simp) ?_
        refine AllReadyH.consL (i := 11) rfl (fun K hK => ?_) AllReadyH.nil
        refine step_append_rd rfl _ _ 46 rfl 29 iv _ 2 16 Try.underlying46 hiv hiv0 hiv1 hiv2 rfl (by decide) (some ⟨_, 0, none⟩) 0 0 [] rfl ((HAZ.out _).alloc _) d.po pl.length d.pc (vecs pl) rfl (HQ3.out.fr ((((((Fr.refl [] w4).drew).alloc _)).alloc _)) (by simp)) (vec_one pl) (by unfold maxLen; omega) (by omega) ?_; intro o6 c6 w6 hs6 hf6 hx6; have HS6 : Hid (Seg w6 29 2 o6 pl.length c6 (vecs pl)) := Lib.hid (by rw [Nat.zero_add, List.nil_append] at hs6; exact hs6); have HF6 : Hid (Fr [] w4 w6) := Lib.hid (((((((Fr.refl [] w4).drew).alloc _)).alloc _)).trans hf6 (fun q hq => .inr (by simp [blk] at hq; omega))); have HB6 : Hid (∀ q ∈ blk o6, q ∈ ([] : List Nat) ∨ w4.heap.size ≤ q) := Lib.hid (fun q hq => .inr (by rcases hx6 q hq with h | h; (simp [blk] at h; omega); (simp at h; omega))); have HNB : Hid (News w6 (w4.heap.size + 1) (.int .i64 n) (.int .i64 1)) := Lib.hid (HNAB.out.kept hf6 (by simp) (by simp [blk])); clear hs6 hf6 hx6; try simp only [Nat.zero_add]
        refine hK.out _ _ (HSK.out _ HF6.out) (fun hHeld => ?_)
        clear hK K
        try simp only [Act.put, List.setIfInBounds_toArray, List.set_cons_zero, List.set_cons_succ]
        refine wpAnyH_ready (rs := [15]) (by kernel_rfl) (by simp) ?_
        refine AllReadyH.consL (i := 15) rfl (fun K hK => ?_) AllReadyH.nil
        refine step_append_seg rfl _ _ 46 rfl 29 iv _ 2 16 Try.underlying46 hiv hiv0 hiv1 hiv2 rfl (by decide) o6 pl.length c6 (vecs pl) rfl HS6.out ⟨_, 0, none⟩ 1 1 [.int .i64 n, .int .i64 1] rfl rfl HNB.out (by simp [Value.oneCell']) (by unfold maxLen; omega) (by omega) ?_; intro o8 c8 w8 hs8 hf8 hx8; have HS8 := Lib.hid hs8; have HF8 : Hid (Fr [] w4 w8) := Lib.hid (HF6.out.trans hf8 HB6.out); have hgr8 := HF8.out.blk HGC.out (by simp); have kj8 : w8.cell? ⟨g, off + k * 9 + 1, none⟩ = some (.slice d.po pl.length d.pc) := (cell_blk hgr8 _).trans HGK.out; have fj8 : w8.frozen? ⟨g, off + k * 9 + 1, none⟩ = false := frozen_blk hgr8 _; have HSS := Lib.hid (fun (v : Value) => (World.cell?_of_block (a := ⟨bx, 1, none⟩) (setCell_ne (w := w8) (a := ⟨g, off + k * 9 + 1, none⟩) (v := v) (by simpa using HGB.out))).trans (HSK.out _ HF8.out)); clear hs8 hf8 hx8 hgr8
        refine hK.out _ _ (HSK.out _ HF8.out) (fun hHeld => ?_)
        clear hK K
        try simp only [Act.put, List.setIfInBounds_toArray, List.set_cons_zero, List.set_cons_succ]
        refine wpAnyH_takeL (i := 16) (v := _) rfl (by kernel_rfl) (by kernel_rfl) (by kernel_rfl) (fun _ _ _ h => h) (Or.inl ⟨by rfl, (by intro w' hSw; (try dsimp only at hSw); skip; go_simp; try with_reducible rfl)⟩) (by assumption) ?_
        try simp only [Act.put, List.setIfInBounds_toArray, List.set_cons_zero, List.set_cons_succ]
        refine wpAnyH_takeL (i := 17) (v := _) rfl (by kernel_rfl) (by kernel_rfl) (by kernel_rfl) (fun _ _ _ h => h) (Or.inl ⟨by rfl, (by intro w' hSw; (try dsimp only at hSw); skip; go_simp; try with_reducible rfl)⟩) (by assumption) ?_
        try simp only [Act.put, List.setIfInBounds_toArray, List.set_cons_zero, List.set_cons_succ]
        refine wpAnyH_takeL (i := 18) (v := _) rfl (by kernel_rfl) (by kernel_rfl) (by kernel_rfl) (fun _ _ _ h => h) (Or.inl ⟨by rfl, (by intro w' hSw; (try dsimp only at hSw); skip; go_simp; try with_reducible rfl)⟩) (by assumption) ?_
        try simp only [Act.put, List.setIfInBounds_toArray, List.set_cons_zero, List.set_cons_succ]
        refine wpAnyH_ready (rs := [19]) (by kernel_rfl) (by simp) ?_
        refine AllReadyH.consL (i := 19) rfl (fun K hK => ?_) AllReadyH.nil
        go_simp
        skip
        refine hK.out _ _ (HSS.out _) (fun hHeld => ?_)
        clear hK K
        try simp only [Act.put, List.setIfInBounds_toArray, List.set_cons_zero, List.set_cons_succ]
        refine wpAnyH_done (by kernel_rfl) ?_ _
        go_wp2_with fail
        go_meet
        have hbb := HBT.out.poly HF8.out (d' := { d with po := o8, pn := pl.length + 1, pc := c8 }) HBO.out HKN.out HD.out (l := pl ++ [(n, 1)]) (by unfold vecs; rw [List.flatMap_append]; exact HS8.out) (by simp) (by have h := HQ2.out; omega) rfl
        rw [← Nat.add_assoc] at hbb
        exact ⟨_, _, _, _, _, hbb, by rw [List.length_set]; exact Nat.le_refl _, rfl, Nat.le_succ _⟩
      refine AllReadyH.consL (i := 10) rfl (fun K hK => ?_) ?_
      · go_simp
        skip
        refine hK.out _ _ (HSK.out _ ((Fr.refl [] w4).drew)) (fun hHeld => ?_)
        clear hK K
        try simp only [Act.put, List.setIfInBounds_toArray, List.set_cons_zero, List.set_cons_succ]
        refine wpAnyH_ready (rs := [3, 14]) (by kernel_rfl) (by simp) ?_
        refine AllReadyH.consL (i := 3) rfl (fun K hK => ?_) ?_
        · go_simp
          skip
          refine hK.out _ _ (HSK.out _ ((((Fr.refl [] w4).drew).alloc _))) (fun hHeld => ?_)
          clear hK K
          try simp only [Act.put, List.setIfInBounds_toArray, List.set_cons_zero, List.set_cons_succ]
          refine wpAnyH_ready (rs := [11, 14]) (by kernel_rfl) (by simp) ?_
          refine AllReadyH.consL (i := 11) rfl (fun K hK => ?_) ?_
          · refine step_append_rd rfl _ _ 46 rfl 29 iv _ 2 16 Try.underlying46 hiv hiv0 hiv1 hiv2 rfl (by decide) (some ⟨_, 0, none⟩) 0 0 [] rfl (HAZ.out _) d.po pl.length d.pc (vecs pl) rfl (HQ3.out.fr ((((Fr.refl [] w4).drew).alloc _)) (by simp)) (vec_one pl) (by unfold maxLen; omega) (by omega) ?_; intro o6 c6 w6 hs6 hf6 hx6; have HS6 : Hid (Seg w6 29 2 o6 pl.length c6 (vecs pl)) := Lib.hid (by rw [Nat.zero_add, List.nil_append] at hs6; exact hs6); have HF6 : Hid (Fr [] w4 w6) := Lib.hid (((((Fr.refl [] w4).drew).alloc _)).trans hf6 (fun q hq => .inr (by simp [blk] at hq; omega))); have HB6 : Hid (∀ q ∈ blk o6, q ∈ ([] : List Nat) ∨ w4.heap.size ≤ q) := Lib.hid (fun q hq => .inr (by rcases hx6 q hq with h | h; (simp [blk] at h; omega); (simp at h; omega))); clear hs6 hf6 hx6; try simp only [Nat.zero_add]
            refine hK.out _ _ (HSK.out _ HF6.out) (fun hHeld => ?_)
            clear hK K
            try simp only [Act.put, List.setIfInBounds_toArray, List.set_cons_zero, List.set_cons_succ]
            refine wpAnyH_ready (rs := [14]) (by kernel_rfl) (by simp) ?_
            refine AllReadyH.consL (i := 14) rfl (fun K hK => ?_) AllReadyH.nil
            go_simp
            skip
            refine hK.out _ _ (HSK.out _ (((HF6.out).alloc _))) (fun hHeld => ?_)
            clear hK K
            try simp only [Act.put, List.setIfInBounds_toArray, List.set_cons_zero, List.set_cons_succ]
            refine wpAnyH_ready (rs := [15]) (by kernel_rfl) (by simp) ?_
            refine AllReadyH.consL (i := 15) rfl (fun K hK => ?_) AllReadyH.nil
            refine step_append_seg rfl _ _ 46 rfl 29 iv _ 2 16 Try.underlying46 hiv hiv0 hiv1 hiv2 rfl (by decide) o6 pl.length c6 (vecs pl) rfl (HS6.out.alloc _) ⟨_, 0, none⟩ 1 1 [.int .i64 n, .int .i64 1] rfl rfl (News.one w6 _ _ _) (by simp [Value.oneCell']) (by unfold maxLen; omega) (by omega) ?_; intro o8 c8 w8 hs8 hf8 hx8; have HS8 := Lib.hid hs8; have HF8 : Hid (Fr [] w4 w8) := Lib.hid ((HF6.out.alloc _).trans hf8 HB6.out); have hgr8 := HF8.out.blk HGC.out (by simp); have kj8 : w8.cell? ⟨g, off + k * 9 + 1, none⟩ = some (.slice d.po pl.length d.pc) := (cell_blk hgr8 _).trans HGK.out; have fj8 : w8.frozen? ⟨g, off + k * 9 + 1, none⟩ = false := frozen_blk hgr8 _; have HSS := Lib.hid (fun (v : Value) => (World.cell?_of_block (a := ⟨bx, 1, none⟩) (setCell_ne (w := w8) (a := ⟨g, off + k * 9 + 1, none⟩) (v := v) (by simpa using HGB.out))).trans (HSK.out _ HF8.out)); clear hs8 hf8 hx8 hgr8
            refine hK.out _ _ (HSK.out _ HF8.out) (fun hHeld => ?_)
            clear hK K
            try simp only [Act.put, List.setIfInBounds_toArray, List.set_cons_zero, List.set_cons_succ]
            refine wpAnyH_takeL (i := 16) (v := _) rfl (by kernel_rfl) (by kernel_rfl) (by kernel_rfl) (fun _ _ _ h => h) (Or.inl ⟨by rfl, (by intro w' hSw; (try dsimp only at hSw); skip; go_simp; try with_reducible rfl)⟩) (by assumption) ?_
            try simp only [Act.put, List.setIfInBounds_toArray, List.set_cons_zero, List.set_cons_succ]
            refine wpAnyH_takeL (i := 17) (v := _) rfl (by kernel_rfl) (by kernel_rfl) (by kernel_rfl) (fun _ _ _ h => h) (Or.inl ⟨by rfl, (by intro w' hSw; (try dsimp only at hSw); skip; go_simp; try with_reducible rfl)⟩) (by assumption) ?_
            try simp only [Act.put, List.setIfInBounds_toArray, List.set_cons_zero, List.set_cons_succ]
            refine wpAnyH_takeL (i := 18) (v := _) rfl (by kernel_rfl) (by kernel_rfl) (by kernel_rfl) (fun _ _ _ h => h) (Or.inl ⟨by rfl, (by intro w' hSw; (try dsimp only at hSw); skip; go_simp; try with_reducible rfl)⟩) (by assumption) ?_
            try simp only [Act.put, List.setIfInBounds_toArray, List.set_cons_zero, List.set_cons_succ]
            refine wpAnyH_ready (rs := [19]) (by kernel_rfl) (by simp) ?_
            refine AllReadyH.consL (i := 19) rfl (fun K hK => ?_) AllReadyH.nil
            go_simp
            skip
            refine hK.out _ _ (HSS.out _) (fun hHeld => ?_)
            clear hK K
            try simp only [Act.put, List.setIfInBounds_toArray, List.set_cons_zero, List.set_cons_succ]
            refine wpAnyH_done (by kernel_rfl) ?_ _
            go_wp2_with fail
            go_meet
            have hbb := HBT.out.poly HF8.out (d' := { d with po := o8, pn := pl.length + 1, pc := c8 }) HBO.out HKN.out HD.out (l := pl ++ [(n, 1)]) (by unfold vecs; rw [List.flatMap_append]; exact HS8.out) (by simp) (by have h := HQ2.out; omega) rfl
            rw [← Nat.add_assoc] at hbb
            exact ⟨_, _, _, _, _, hbb, by rw [List.length_set]; exact Nat.le_refl _, rfl, Nat.le_succ _⟩
          refine AllReadyH.consL (i := 14) rfl (fun K hK => ?_) AllReadyH.nil
          go_simp
          skip
          refine hK.out _ _ (HSK.out _ ((((((Fr.refl [] w4).drew).alloc _)).alloc _))) (fun hHeld => ?_)
          clear hK K
          try simp only [Act.put, List.setIfInBounds_toArray, List.set_cons_zero, List.set_cons_succ]
          refine wpAnyH_ready (rs := [11]) (by kernel_rfl) (by simp) ?_
          refine AllReadyH.consL (i := 11) rfl (fun K hK => ?_) AllReadyH.nil
          refine step_append_rd rfl _ _ 46 rfl 29 iv _ 2 16 Try.underlying46 hiv hiv0 hiv1 hiv2 rfl (by decide) (some ⟨_, 0, none⟩) 0 0 [] rfl ((HAZ.out _).alloc _) d.po pl.length d.pc (vecs pl) rfl (HQ3.out.fr ((((((Fr.refl [] w4).drew).alloc _)).alloc _)) (by simp)) (vec_one pl) (by unfold maxLen; omega) (by omega) ?_; intro o6 c6 w6 hs6 hf6 hx6; have HS6 : Hid (Seg w6 29 2 o6 pl.length c6 (vecs pl)) := Lib.hid (by rw [Nat.zero_add, List.nil_append] at hs6; exact hs6); have HF6 : Hid (Fr [] w4 w6) := Lib.hid (((((((Fr.refl [] w4).drew).alloc _)).alloc _)).trans hf6 (fun q hq => .inr (by simp [blk] at hq; omega))); have HB6 : Hid (∀ q ∈ blk o6, q ∈ ([] : List Nat) ∨ w4.heap.size ≤ q) := Lib.hid (fun q hq => .inr (by rcases hx6 q hq with h | h; (simp [blk] at h; omega); (simp at h; omega))); have HNB : Hid (News w6 (w4.heap.size + 1) (.int .i64 n) (.int .i64 1)) := Lib.hid (HNAB.out.kept hf6 (by simp) (by simp [blk])); clear hs6 hf6 hx6; try simp only [Nat.zero_add]
          refine hK.out _ _ (HSK.out _ HF6.out) (fun hHeld => ?_)
          clear hK K
          try simp only [Act.put, List.setIfInBounds_toArray, List.set_cons_zero, List.set_cons_succ]
          refine wpAnyH_ready (rs := [15]) (by kernel_rfl) (by simp) ?_
          refine AllReadyH.consL (i := 15) rfl (fun K hK => ?_) AllReadyH.nil
          refine step_append_seg rfl _ _ 46 rfl 29 iv _ 2 16 Try.underlying46 hiv hiv0 hiv1 hiv2 rfl (by decide) o6 pl.length c6 (vecs pl) rfl HS6.out ⟨_, 0, none⟩ 1 1 [.int .i64 n, .int .i64 1] rfl rfl HNB.out (by simp [Value.oneCell']) (by unfold maxLen; omega) (by omega) ?_; intro o8 c8 w8 hs8 hf8 hx8; have HS8 := Lib.hid hs8; have HF8 : Hid (Fr [] w4 w8) := Lib.hid (HF6.out.trans hf8 HB6.out); have hgr8 := HF8.out.blk HGC.out (by simp); have kj8 : w8.cell? ⟨g, off + k * 9 + 1, none⟩ = some (.slice d.po pl.length d.pc) := (cell_blk hgr8 _).trans HGK.out; have fj8 : w8.frozen? ⟨g, off + k * 9 + 1, none⟩ = false := frozen_blk hgr8 _; have HSS := Lib.hid (fun (v : Value) => (World.cell?_of_block (a := ⟨bx, 1, none⟩) (setCell_ne (w := w8) (a := ⟨g, off + k * 9 + 1, none⟩) (v := v) (by simpa using HGB.out))).trans (HSK.out _ HF8.out)); clear hs8 hf8 hx8 hgr8
          refine hK.out _ _ (HSK.out _ HF8.out) (fun hHeld => ?_)
          clear hK K
          try simp only [Act.put, List.setIfInBounds_toArray, List.set_cons_zero, List.set_cons_succ]
          refine wpAnyH_takeL (i := 16) (v := _) rfl (by kernel_rfl) (by kernel_rfl) (by kernel_rfl) (fun _ _ _ h => h) (Or.inl ⟨by rfl, (by intro w' hSw; (try dsimp only at hSw); skip; go_simp; try with_reducible rfl)⟩) (by assumption) ?_
          try simp only [Act.put, List.setIfInBounds_toArray, List.set_cons_zero, List.set_cons_succ]
          refine wpAnyH_takeL (i := 17) (v := _) rfl (by kernel_rfl) (by kernel_rfl) (by kernel_rfl) (fun _ _ _ h => h) (Or.inl ⟨by rfl, (by intro w' hSw; (try dsimp only at hSw); skip; go_simp; try with_reducible rfl)⟩) (by assumption) ?_
          try simp only [Act.put, List.setIfInBounds_toArray, List.set_cons_zero, List.set_cons_succ]
          refine wpAnyH_takeL (i := 18) (v := _) rfl (by kernel_rfl) (by kernel_rfl) (by kernel_rfl) (fun _ _ _ h => h) (Or.inl ⟨by rfl, (by intro w' hSw; (try dsimp only at hSw); skip; go_simp; try with_reducible rfl)⟩) (by assumption) ?_
          try simp only [Act.put, List.setIfInBounds_toArray, List.set_cons_zero, List.set_cons_succ]
          refine wpAnyH_ready (rs := [19]) (by kernel_rfl) (by simp) ?_
          refine AllReadyH.consL (i := 19) rfl (fun K hK => ?_) AllReadyH.nil
          go_simp
          skip
          refine hK.out _ _ (HSS.out _) (fun hHeld => ?_)
          clear hK K
          try simp only [Act.put, List.setIfInBounds_toArray, List.set_cons_zero, List.set_cons_succ]
          refine wpAnyH_done (by kernel_rfl) ?_ _
          go_wp2_with fail
          go_meet
          have hbb := HBT.out.poly HF8.out (d' := { d with po := o8, pn := pl.length + 1, pc := c8 }) HBO.out HKN.out HD.out (l := pl ++ [(n, 1)]) (by unfold vecs; rw [List.flatMap_append]; exact HS8.out) (by simp) (by have h := HQ2.out; omega) rfl
          rw [← Nat.add_assoc] at hbb
          exact ⟨_, _, _, _, _, hbb, by rw [List.length_set]; exact Nat.le_refl _, rfl, Nat.le_succ _⟩
        refine AllReadyH.consL (i := 14) rfl (fun K hK => ?_) AllReadyH.nil
        go_simp
        skip
        refine hK.out _ _ (HSK.out _ ((((Fr.refl [] w4).drew).alloc _))) (fun hHeld => ?_)
        clear hK K
        try simp only [Act.put, List.setIfInBounds_toArray, List.set_cons_zero, List.set_cons_succ]
        refine wpAnyH_ready (rs := [3]) (by kernel_rfl) (by simp) ?_
        refine AllReadyH.consL (i := 3) rfl (fun K hK => ?_) AllReadyH.nil
        go_simp
        skip
        refine hK.out _ _ (HSK.out _ ((((((Fr.refl [] w4).drew).alloc _)).alloc _))) (fun hHeld => ?_)
        clear hK K
        try simp only [Act.put, List.setIfInBounds_toArray, List.set_cons_zero, List.set_cons_succ]
        refine wpAnyH_ready (rs := [11]) (by kernel_rfl) (by simp) ?_
        refine AllReadyH.consL (i := 11) rfl (fun K hK => ?_) AllReadyH.nil
        refine step_append_rd rfl _ _ 46 rfl 29 iv _ 2 16 Try.underlying46 hiv hiv0 hiv1 hiv2 rfl (by decide) (some ⟨_, 0, none⟩) 0 0 [] rfl HAZBA.out d.po pl.length d.pc (vecs pl) rfl (HQ3.out.fr ((((((Fr.refl [] w4).drew).alloc _)).alloc _)) (by simp)) (vec_one pl) (by unfold maxLen; omega) (by omega) ?_; intro o6 c6 w6 hs6 hf6 hx6; have HS6 : Hid (Seg w6 29 2 o6 pl.length c6 (vecs pl)) := Lib.hid (by rw [Nat.zero_add, List.nil_append] at hs6; exact hs6); have HF6 : Hid (Fr [] w4 w6) := Lib.hid (((((((Fr.refl [] w4).drew).alloc _)).alloc _)).trans hf6 (fun q hq => .inr (by simp [blk] at hq; omega))); have HB6 : Hid (∀ q ∈ blk o6, q ∈ ([] : List Nat) ∨ w4.heap.size ≤ q) := Lib.hid (fun q hq => .inr (by rcases hx6 q hq with h | h; (simp [blk] at h; omega); (simp at h; omega))); have HNB : Hid (News w6 w4.heap.size (.int .i64 n) (.int .i64 1)) := Lib.hid (HNBA.out.kept hf6 (by simp; omega) (by simp [blk])); clear hs6 hf6 hx6; try simp only [Nat.zero_add]
        refine hK.out _ _ (HSK.out _ HF6.out) (fun hHeld => ?_)
        clear hK K
        try simp only [Act.put, List.setIfInBounds_toArray, List.set_cons_zero, List.set_cons_succ]
        refine wpAnyH_ready (rs := [15]) (by kernel_rfl) (by simp) ?_
        refine AllReadyH.consL (i := 15) rfl (fun K hK => ?_) AllReadyH.nil
        refine step_append_seg rfl _ _ 46 rfl 29 iv _ 2 16 Try.underlying46 hiv hiv0 hiv1 hiv2 rfl (by decide) o6 pl.length c6 (vecs pl) rfl HS6.out ⟨_, 0, none⟩ 1 1 [.int .i64 n, .int .i64 1] rfl rfl HNB.out (by simp [Value.oneCell']) (by unfold maxLen; omega) (by omega) ?_; intro o8 c8 w8 hs8 hf8 hx8; have HS8 := Lib.hid hs8; have HF8 : Hid (Fr [] w4 w8) := Lib.hid (HF6.out.trans hf8 HB6.out); have hgr8 := HF8.out.blk HGC.out (by simp); have kj8 : w8.cell? ⟨g, off + k * 9 + 1, none⟩ = some (.slice d.po pl.length d.pc) := (cell_blk hgr8 _).trans HGK.out; have fj8 : w8.frozen? ⟨g, off + k * 9 + 1, none⟩ = false := frozen_blk hgr8 _; have HSS := Lib.hid (fun (v : Value) => (World.cell?_of_block (a := ⟨bx, 1, none⟩) (setCell_ne (w := w8) (a := ⟨g, off + k * 9 + 1, none⟩) (v := v) (by simpa using HGB.out))).trans (HSK.out _ HF8.out)); clear hs8 hf8 hx8 hgr8
        refine hK.out _ _ (HSK.out _ HF8.out) (fun hHeld => ?_)
        clear hK K
        try simp only [Act.put, List.setIfInBounds_toArray, List.set_cons_zero, List.set_cons_succ]
        refine wpAnyH_takeL (i := 16) (v := _) rfl (by kernel_rfl) (by kernel_rfl) (by kernel_rfl) (fun _ _ _ h => h) (Or.inl ⟨by rfl, (by intro w' hSw; (try dsimp only at hSw); skip; go_simp; try with_reducible rfl)⟩) (by assumption) ?_
        try simp only [Act.put, List.setIfInBounds_toArray, List.set_cons_zero, List.set_cons_succ]
        refine wpAnyH_takeL (i := 17) (v := _) rfl (by kernel_rfl) (by kernel_rfl) (by kernel_rfl) (fun _ _ _ h => h) (Or.inl ⟨by rfl, (by intro w' hSw; (try dsimp only at hSw); skip; go_simp; try with_reducible rfl)⟩) (by assumption) ?_
        try simp only [Act.put, List.setIfInBounds_toArray, List.set_cons_zero, List.set_cons_succ]
        refine wpAnyH_takeL (i := 18) (v := _) rfl (by kernel_rfl) (by kernel_rfl) (by kernel_rfl) (fun _ _ _ h => h) (Or.inl ⟨by rfl, (by intro w' hSw; (try dsimp only at hSw); skip; go_simp; try with_reducible rfl)⟩) (by assumption) ?_
        try simp only [Act.put, List.setIfInBounds_toArray, List.set_cons_zero, List.set_cons_succ]
        refine wpAnyH_ready (rs := [19]) (by kernel_rfl) (by simp) ?_
        refine AllReadyH.consL (i := 19) rfl (fun K hK => ?_) AllReadyH.nil
        go_simp
        skip
        refine hK.out _ _ (HSS.out _) (fun hHeld => ?_)
        clear hK K
        try simp only [Act.put, List.setIfInBounds_toArray, List.set_cons_zero, List.set_cons_succ]
        refine wpAnyH_done (by kernel_rfl) ?_ _
        go_wp2_with fail
        go_meet
        have hbb := HBT.out.poly HF8.out (d' := { d with po := o8, pn := pl.length + 1, pc := c8 }) HBO.out HKN.out HD.out (l := pl ++ [(n, 1)]) (by unfold vecs; rw [List.flatMap_append]; exact HS8.out) (by simp) (by have h := HQ2.out; omega) rfl
        rw [← Nat.add_assoc] at hbb
        exact ⟨_, _, _, _, _, hbb, by rw [List.length_set]; exact Nat.le_refl _, rfl, Nat.le_succ _⟩
      refine AllReadyH.consL (i := 14) rfl (fun K hK => ?_) AllReadyH.nil
      go_simp
      skip
      refine hK.out _ _ (HSK.out _ ((((Fr.refl [] w4).drew).alloc _))) (fun hHeld => ?_)
      clear hK K
      try simp only [Act.put, List.setIfInBounds_toArray, List.set_cons_zero, List.set_cons_succ]
      refine wpAnyH_ready (rs := [3, 10]) (by kernel_rfl) (by simp) ?_
      refine AllReadyH.consL (i := 3) rfl (fun K hK => ?_) ?_
      · go_simp
        skip
        refine hK.out _ _ (HSK.out _ ((((((Fr.refl [] w4).drew).alloc _)).alloc _))) (fun hHeld => ?_)
        clear hK K
        try simp only [Act.put, List.setIfInBounds_toArray, List.set_cons_zero, List.set_cons_succ]
        refine wpAnyH_ready (rs := [10]) (by kernel_rfl) (by simp) ?_
        refine AllReadyH.consL (i := 10) rfl (fun K hK => ?_) AllReadyH.nil
        go_simp
        skip
        refine hK.out _ _ (HSK.out _ ((((((Fr.refl [] w4).drew).alloc _)).alloc _))) (fun hHeld => ?_)
        clear hK K
        try simp only [Act.put, List.setIfInBounds_toArray, List.set_cons_zero, List.set_cons_succ]
        refine wpAnyH_ready (rs := [11]) (by kernel_rfl) (by simp) ?_
        refine AllReadyH.consL (i := 11) rfl (fun K hK => ?_) AllReadyH.nil
        refine step_append_rd rfl _ _ 46 rfl 29 iv _ 2 16 Try.underlying46 hiv hiv0 hiv1 hiv2 rfl (by decide) (some ⟨_, 0, none⟩) 0 0 [] rfl HAZBA.out d.po pl.length d.pc (vecs pl) rfl (HQ3.out.fr ((((((Fr.refl [] w4).drew).alloc _)).alloc _)) (by simp)) (vec_one pl) (by unfold maxLen; omega) (by omega) ?_; intro o6 c6 w6 hs6 hf6 hx6; have HS6 : Hid (Seg w6 29 2 o6 pl.length c6 (vecs pl)) := Lib.hid (by rw [Nat.zero_add, List.nil_append] at hs6; exact hs6); have HF6 : Hid (Fr [] w4 w6) := Lib.hid (((((((Fr.refl [] w4).drew).alloc _)).alloc _)).trans hf6 (fun q hq => .inr (by simp [blk] at hq; omega))); have HB6 : Hid (∀ q ∈ blk o6, q ∈ ([] : List Nat) ∨ w4.heap.size ≤ q) := Lib.hid (fun q hq => .inr (by rcases hx6 q hq with h | h; (simp [blk] at h; omega); (simp at h; omega))); have HNB : Hid (News w6 w4.heap.size (.int .i64 n) (.int .i64 1)) := Lib.hid (HNBA.out.kept hf6 (by simp; omega) (by simp [blk])); clear hs6 hf6 hx6; try simp only [Nat.zero_add]
        refine hK.out _ _ (HSK.out _ HF6.out) (fun hHeld => ?_)
        clear hK K
        try simp only [Act.put, List.setIfInBounds_toArray, List.set_cons_zero, List.set_cons_succ]
        refine wpAnyH_ready (rs := [15]) (by kernel_rfl) (by simp) ?_
        refine AllReadyH.consL (i := 15) rfl (fun K hK => ?_) AllReadyH.nil
        refine step_append_seg rfl _ _ 46 rfl 29 iv _ 2 16 Try.underlying46 hiv hiv0 hiv1 hiv2 rfl (by decide) o6 pl.length c6 (vecs pl) rfl HS6.out ⟨_, 0, none⟩ 1 1 [.int .i64 n, .int .i64 1] rfl rfl HNB.out (by simp [Value.oneCell']) (by unfold maxLen; omega) (by omega) ?_; intro o8 c8 w8 hs8 hf8 hx8; have HS8 := Lib.hid hs8; have HF8 : Hid (Fr [] w4 w8) := Lib.hid (HF6.out.trans hf8 HB6.out); have hgr8 := HF8.out.blk HGC.out (by simp); have kj8 : w8.cell? ⟨g, off + k * 9 + 1, none⟩ = some (.slice d.po pl.length d.pc) := (cell_blk hgr8 _).trans HGK.out; have fj8 : w8.frozen? ⟨g, off + k * 9 + 1, none⟩ = false := frozen_blk hgr8 _; have HSS := Lib.hid (fun (v : Value) => (World.cell?_of_block (a := ⟨bx, 1, none⟩) (setCell_ne (w := w8) (a := ⟨g, off + k * 9 + 1, none⟩) (v := v) (by simpa using HGB.out))).trans (HSK.out _ HF8.out)); clear hs8 hf8 hx8 hgr8
        refine hK.out _ _ (HSK.out _ HF8.out) (fun hHeld => ?_)
        clear hK K
        try simp only [Act.put, List.setIfInBounds_toArray, List.set_cons_zero, List.set_cons_succ]
        refine wpAnyH_takeL (i := 16) (v := _) rfl (by kernel_rfl) (by kernel_rfl) (by kernel_rfl) (fun _ _ _ h => h) (Or.inl ⟨by rfl, (by intro w' hSw; (try dsimp only at hSw); skip; go_simp; try with_reducible rfl)⟩) (by assumption) ?_
        try simp only [Act.put, List.setIfInBounds_toArray, List.set_cons_zero, List.set_cons_succ]
        refine wpAnyH_takeL (i := 17) (v := _) rfl (by kernel_rfl) (by kernel_rfl) (by kernel_rfl) (fun _ _ _ h => h) (Or.inl ⟨by rfl, (by intro w' hSw; (try dsimp only at hSw); skip; go_simp; try with_reducible rfl)⟩) (by assumption) ?_
        try simp only [Act.put, List.setIfInBounds_toArray, List.set_cons_zero, List.set_cons_succ]
        refine wpAnyH_takeL (i := 18) (v := _) rfl (by kernel_rfl) (by kernel_rfl) (by kernel_rfl) (fun _ _ _ h => h) (Or.inl ⟨by rfl, (by intro w' hSw; (try dsimp only at hSw); skip; go_simp; try with_reducible rfl)⟩) (by assumption) ?_
        try simp only [Act.put, List.setIfInBounds_toArray, List.set_cons_zero, List.set_cons_succ]
        refine wpAnyH_ready (rs := [19]) (by kernel_rfl) (by simp) ?_
        refine AllReadyH.consL (i := 19) rfl (fun K hK => ?_) AllReadyH.nil
        go_simp
        skip
        refine hK.out _ _ (HSS.out _) (fun hHeld => ?_)
        clear hK K
        try simp only [Act.put, List.setIfInBounds_toArray, List.set_cons_zero, List.set_cons_succ]
        refine wpAnyH_done (by kernel_rfl) ?_ _
        go_wp2_with fail
        go_meet
        have hbb := HBT.out.poly HF8.out (d' := { d with po := o8, pn := pl.length + 1, pc := c8 }) HBO.out HKN.out HD.out (l := pl ++ [(n, 1)]) (by unfold vecs; rw [List.flatMap_append]; exact HS8.out) (by simp) (by have h := HQ2.out; omega) rfl
        rw [← Nat.add_assoc] at hbb
        exact ⟨_, _, _, _, _, hbb, by rw [List.length_set]; exact Nat.le_refl _, rfl, Nat.le_succ _⟩
      refine AllReadyH.consL (i := 10) rfl (fun K hK => ?_) AllReadyH.nil
      go_simp
      skip
      refine hK.out _ _ (HSK.out _ ((((Fr.refl [] w4).drew).alloc _))) (fun hHeld => ?_)
      clear hK K
      try simp only [Act.put, List.setIfInBounds_toArray, List.set_cons_zero, List.set_cons_succ]
      refine wpAnyH_ready (rs := [3]) (by kernel_rfl) (by simp) ?_
      refine AllReadyH.consL (i := 3) rfl (fun K hK => ?_) AllReadyH.nil
      go_simp
      skip
      refine hK.out _ _ (HSK.out _ ((((((Fr.refl [] w4).drew).alloc _)).alloc _))) (fun hHeld => ?_)
      clear hK K
      try simp only [Act.put, List.setIfInBounds_toArray, List.set_cons_zero, List.set_cons_succ]
      refine wpAnyH_ready (rs := [11]) (by kernel_rfl) (by simp) ?_
      refine AllReadyH.consL (i := 11) rfl (fun K hK => ?_) AllReadyH.nil
      refine step_append_rd rfl _ _ 46 rfl 29 iv _ 2 16 Try.underlying46 hiv hiv0 hiv1 hiv2 rfl (by decide) (some ⟨_, 0, none⟩) 0 0 [] rfl HAZBA.out d.po pl.length d.pc (vecs pl) rfl (HQ3.out.fr ((((((Fr.refl [] w4).drew).alloc _)).alloc _)) (by simp)) (vec_one pl) (by unfold maxLen; omega) (by omega) ?_; intro o6 c6 w6 hs6 hf6 hx6; have HS6 : Hid (Seg w6 29 2 o6 pl.length c6 (vecs pl)) := Lib.hid (by rw [Nat.zero_add, List.nil_append] at hs6; exact hs6); have HF6 : Hid (Fr [] w4 w6) := Lib.hid (((((((Fr.refl [] w4).drew).alloc _)).alloc _)).trans hf6 (fun q hq => .inr (by simp [blk] at hq; omega))); have HB6 : Hid (∀ q ∈ blk o6, q ∈ ([] : List Nat) ∨ w4.heap.size ≤ q) := Lib.hid (fun q hq => .inr (by rcases hx6 q hq with h | h; (simp [blk] at h; omega); (simp at h; omega))); have HNB : Hid (News w6 w4.heap.size (.int .i64 n) (.int .i64 1)) := Lib.hid (HNBA.out.kept hf6 (by simp; omega) (by simp [blk])); clear hs6 hf6 hx6; try simp only [Nat.zero_add]
      refine hK.out _ _ (HSK.out _ HF6.out) (fun hHeld => ?_)
      clear hK K
      try simp only [Act.put, List.setIfInBounds_toArray, List.set_cons_zero, List.set_cons_succ]
      refine wpAnyH_ready (rs := [15]) (by kernel_rfl) (by simp) ?_
      refine AllReadyH.consL (i := 15) rfl (fun K hK => ?_) AllReadyH.nil
      refine step_append_seg rfl _ _ 46 rfl 29 iv _ 2 16 Try.underlying46 hiv hiv0 hiv1 hiv2 rfl (by decide) o6 pl.length c6 (vecs pl) rfl HS6.out ⟨_, 0, none⟩ 1 1 [.int .i64 n, .int .i64 1] rfl rfl HNB.out (by simp [Value.oneCell']) (by unfold maxLen; omega) (by omega) ?_; intro o8 c8 w8 hs8 hf8 hx8; have HS8 := Lib.hid hs8; have HF8 : Hid (Fr [] w4 w8) := Lib.hid (HF6.out.trans hf8 HB6.out); have hgr8 := HF8.out.blk HGC.out (by simp); have kj8 : w8.cell? ⟨g, off + k * 9 + 1, none⟩ = some (.slice d.po pl.length d.pc) := (cell_blk hgr8 _).trans HGK.out; have fj8 : w8.frozen? ⟨g, off + k * 9 + 1, none⟩ = false := frozen_blk hgr8 _; have HSS := Lib.hid (fun (v : Value) => (World.cell?_of_block (a := ⟨bx, 1, none⟩) (setCell_ne (w := w8) (a := ⟨g, off + k * 9 + 1, none⟩) (v := v) (by simpa using HGB.out))).trans (HSK.out _ HF8.out)); clear hs8 hf8 hx8 hgr8
      refine hK.out _ _ (HSK.out _ HF8.out) (fun hHeld => ?_)
      clear hK K
      try simp only [Act.put, List.setIfInBounds_toArray, List.set_cons_zero, List.set_cons_succ]
      refine wpAnyH_takeL (i := 16) (v := _) rfl (by kernel_rfl) (by kernel_rfl) (by kernel_rfl) (fun _ _ _ h => h) (Or.inl ⟨by rfl, (by intro w' hSw; (try dsimp only at hSw); skip; go_simp; try with_reducible rfl)⟩) (by assumption) ?_
      try simp only [Act.put, List.setIfInBounds_toArray, List.set_cons_zero, List.set_cons_succ]
      refine wpAnyH_takeL (i := 17) (v := _) rfl (by kernel_rfl) (by kernel_rfl) (by kernel_rfl) (fun _ _ _ h => h) (Or.inl ⟨by rfl, (by intro w' hSw; (try dsimp only at hSw); skip; go_simp; try with_reducible rfl)⟩) (by assumption) ?_
      try simp only [Act.put, List.setIfInBounds_toArray, List.set_cons_zero, List.set_cons_succ]
      refine wpAnyH_takeL (i := 18) (v := _) rfl (by kernel_rfl) (by kernel_rfl) (by kernel_rfl) (fun _ _ _ h => h) (Or.inl ⟨by rfl, (by intro w' hSw; (try dsimp only at hSw); skip; go_simp; try with_reducible rfl)⟩) (by assumption) ?_
      try simp only [Act.put, List.setIfInBounds_toArray, List.set_cons_zero, List.set_cons_succ]
      refine wpAnyH_ready (rs := [19]) (by kernel_rfl) (by simp) ?_
      refine AllReadyH.consL (i := 19) rfl (fun K hK => ?_) AllReadyH.nil
      go_simp
      skip
      refine hK.out _ _ (HSS.out _) (fun hHeld => ?_)
      clear hK K
      try simp only [Act.put, List.setIfInBounds_toArray, List.set_cons_zero, List.set_cons_succ]
      refine wpAnyH_done (by kernel_rfl) ?_ _
      go_wp2_with fail
      go_meet
      have hbb := HBT.out.poly HF8.out (d' := { d with po := o8, pn := pl.length + 1, pc := c8 }) HBO.out HKN.out HD.out (l := pl ++ [(n, 1)]) (by unfold vecs; rw [List.flatMap_append]; exact HS8.out) (by simp) (by have h := HQ2.out; omega) rfl
      rw [← Nat.add_assoc] at hbb
      exact ⟨_, _, _, _, _, hbb, by rw [List.length_set]; exact Nat.le_refl _, rfl, Nat.le_succ _⟩
    · subst e
      have cb := HCB.out
      have kj := HK6.out
      have fj : w4.frozen? ⟨g, off + k * 9 + 6, none⟩ = false := HFZ.out _
      go_wp2_with fail
      go_meet
      have hbb : BT w bx N ZS s4 (bodies.set k { d with im := n }) polys rooms doors (w4.setCell ⟨g, off + k * 9 + 6, none⟩ (.int .i64 n)) := by
        have h := HBT.out.body (j := 6) (v := .int .i64 n) (d' := { d with im := n }) HBO.out HKN.out (by omega) HD.out rfl rfl rfl
        rw [← Nat.add_assoc] at h
        exact h
      exact ⟨_, _, _, _, _, hbb.more (Nat.le_succ N), by rw [List.length_set]; exact Nat.le_refl _, rfl, Nat.le_succ _⟩
    · subst e
      have cb := HCB.out
      have kj := HK4.out
      have fj : w4.frozen? ⟨g, off + k * 9 + 4, none⟩ = false := HFZ.out _
      go_wp2_with fail
      go_meet
      have hbb : BT w bx N ZS s4 (bodies.set k { d with vx := n }) polys rooms doors (w4.setCell ⟨g, off + k * 9 + 4, none⟩ (.int .i64 n)) := by
        have h := HBT.out.body (j := 4) (v := .int .i64 n) (d' := { d with vx := n }) HBO.out HKN.out (by omega) HD.out rfl rfl rfl
        rw [← Nat.add_assoc] at h
        exact h
      exact ⟨_, _, _, _, _, hbb.more (Nat.le_succ N), by rw [List.length_set]; exact Nat.le_refl _, rfl, Nat.le_succ _⟩
    · subst e
      have cb := HCB.out
      have kj := HK5.out
      have fj : w4.frozen? ⟨g, off + k * 9 + 5, none⟩ = false := HFZ.out _
      go_wp2_with fail
      go_meet
      have hbb : BT w bx N ZS s4 (bodies.set k { d with vy := n }) polys rooms doors (w4.setCell ⟨g, off + k * 9 + 5, none⟩ (.int .i64 n)) := by
        have h := HBT.out.body (j := 5) (v := .int .i64 n) (d' := { d with vy := n }) HBO.out HKN.out (by omega) HD.out rfl rfl rfl
        rw [← Nat.add_assoc] at h
        exact h
      exact ⟨_, _, _, _, _, hbb.more (Nat.le_succ N), by rw [List.length_set]; exact Nat.le_refl _, rfl, Nat.le_succ _⟩
    · subst e
      have cb := HCB.out
      have kj := HK2.out
      have fj : w4.frozen? ⟨g, off + k * 9 + 2, none⟩ = false := HFZ.out _
      go_wp2_with fail
      go_meet
      have hbb : BT w bx N ZS s4 (bodies.set k { d with px := n }) polys rooms doors (w4.setCell ⟨g, off + k * 9 + 2, none⟩ (.int .i64 n)) := by
        have h := HBT.out.body (j := 2) (v := .int .i64 n) (d' := { d with px := n }) HBO.out HKN.out (by omega) HD.out rfl rfl rfl
        rw [← Nat.add_assoc] at h
        exact h
      exact ⟨_, _, _, _, _, hbb.more (Nat.le_succ N), by rw [List.length_set]; exact Nat.le_refl _, rfl, Nat.le_succ _⟩
    · subst e
      have cb := HCB.out
      have kj := HK3.out
      have fj : w4.frozen? ⟨g, off + k * 9 + 3, none⟩ = false := HFZ.out _
      go_wp2_with fail
      go_meet
      have hbb : BT w bx N ZS s4 (bodies.set k { d with py := n }) polys rooms doors (w4.setCell ⟨g, off + k * 9 + 3, none⟩ (.int .i64 n)) := by
        have h := HBT.out.body (j := 3) (v := .int .i64 n) (d' := { d with py := n }) HBO.out HKN.out (by omega) HD.out rfl rfl rfl
        rw [← Nat.add_assoc] at h
        exact h
      exact ⟨_, _, _, _, _, hbb.more (Nat.le_succ N), by rw [List.length_set]; exact Nat.le_refl _, rfl, Nat.le_succ _⟩
    · subst e
      have cb := HCB.out
      have kj := HK7.out
      have fj : w4.frozen? ⟨g, off + k * 9 + 7, none⟩ = false := HFZ.out _
      go_wp2_with fail
      go_meet
      have hbb : BT w bx N ZS s4 (bodies.set k { d with a := n }) polys rooms doors (w4.setCell ⟨g, off + k * 9 + 7, none⟩ (.int .i64 n)) := by
        have h := HBT.out.body (j := 7) (v := .int .i64 n) (d' := { d with a := n }) HBO.out HKN.out (by omega) HD.out rfl rfl rfl
        rw [← Nat.add_assoc] at h
        exact h
      exact ⟨_, _, _, _, _, hbb.more (Nat.le_succ N), by rw [List.length_set]; exact Nat.le_refl _, rfl, Nat.le_succ _⟩
    · subst e
      have c2 : w4.cell? ⟨bx, 2, none⟩ = some (.int .i64 s.x0) := by rw [cell_blk HB4.out, HC3.out]; rfl
      have f2 : w4.frozen? ⟨bx, 2, none⟩ = false := frozen_blk HB4.out _
      go_wp2_with fail
      go_meet
      exact ⟨{ s4 with x0 := n }, _, _, _, _, (HBT.out.num (s' := { s4 with x0 := n }) 2 n rfl rfl rfl rfl rfl rfl rfl rfl rfl rfl).more (Nat.le_succ N), Nat.le_refl _, rfl, Nat.le_succ _⟩
    · subst e
      have c5 : w4.cell? ⟨bx, 5, none⟩ = some (.int .i64 s.y1) := by rw [cell_blk HB4.out, HC3.out]; rfl
      have f5 : w4.frozen? ⟨bx, 5, none⟩ = false := frozen_blk HB4.out _
      go_wp2_with fail
      go_meet
      exact ⟨{ s4 with y1 := n }, _, _, _, _, (HBT.out.num (s' := { s4 with y1 := n }) 5 n rfl rfl rfl rfl rfl rfl rfl rfl rfl rfl).more (Nat.le_succ N), Nat.le_refl _, rfl, Nat.le_succ _⟩
    · subst e
      have cr := HCR.out
      have kj := HR2.out
      have fj : w4.frozen? ⟨gr, offr + 2, none⟩ = false := HFR.out _
      go_wp2_with fail
      go_meet
      have hbb : BT w bx N ZS s4 bodies polys (rooms.set 0 { r with x1 := n }) doors (w4.setCell ⟨gr, offr + 2, none⟩ (.int .i64 n)) := by
        have h := HBT.out.room (k := 0) (j := 2) (v := .int .i64 n) (r' := { r with x1 := n }) HRO.out hr1 (by omega) HRM.out rfl
        simp only [Nat.zero_mul, Nat.zero_add] at h
        exact h
      exact ⟨_, _, _, _, _, hbb.more (Nat.le_succ N), Nat.le_refl _, by rw [List.length_set], Nat.le_succ _⟩
    · subst e
      have cd := HCD.out
      have HC37 := Lib.hid (by rw [HC3.out]; rfl : C3[7]? = some (.slice dO doors.length dC))
      have HBD := Lib.hid (by have h := HBT.out.bxd; rw [HS4e.out] at h; exact h : bx ∉ blk dO)
      have HSD := Lib.hid (by have h := HBT.out.sd; rw [HS4e.out] at h; exact h : Seg w4 68 2 dO doors.length dC (doors.flatMap drCells))
      go_wp2_with (at_builtin; refine wpList_append_seg rfl _ _ 27 rfl 68 id _ 2 16 Try.underlying27 hid hid0 hid1 hid2 rfl (by decide) dO doors.length dC (doors.flatMap drCells) rfl (HSD.out.alloc _) ⟨_, 0, none⟩ 1 1 [.int .i64 n, .int .i64 1] rfl rfl (News.one w4 _ _ _) (by simp [Value.oneCell']) (by unfold maxLen; omega) (by omega) ?_; intro eO eC w6 hs6 hf6 hx6; have hbx6 := hf6.blk (alloc_old HB4.out) HBD.out; have c7 : w6.cell? ⟨bx, 7, none⟩ = some (.slice dO doors.length dC) := (cell_blk hbx6 7).trans HC37.out; have f7 : w6.frozen? ⟨bx, 7, none⟩ = false := frozen_blk hbx6 _; have HS6 := Lib.hid hs6; have HF6 := Lib.hid hf6; have HX6 := Lib.hid hx6; clear hs6 hf6 hx6 hbx6)
      go_meet
      have hF6 : Fr (blk s4.dO) w4 w6 := by rw [HS4e.out]; exact ((Fr.refl _ w4).alloc _).trans HF6.out (Ext.refl _ _)
      have hbb := HBT.out.door (doors' := doors ++ [(n, 1)]) (dO := eO) (n := doors.length + 1) (dc := eC) hF6 (by rw [List.flatMap_append]; exact HS6.out) (by simp) (by
        rw [HS4e.out]
        intro q hq
        rcases HX6.out q hq with h | h
        · exact .inl h
        · right; simp at h; omega)
      exact ⟨_, _, _, _, _, hbb.more (Nat.le_succ N), Nat.le_refl _, rfl, by simp⟩
    · subst e
      have c8 : w4.cell? ⟨bx, 8, none⟩ = some (.int .i64 s.fog) := by rw [cell_blk HB4.out, HC3.out]; rfl
      have f8 : w4.frozen? ⟨bx, 8, none⟩ = false := frozen_blk HB4.out _
      go_wp2_with fail
      go_meet
      exact ⟨{ s4 with fog := n }, _, _, _, _, (HBT.out.num (s' := { s4 with fog := n }) 8 n rfl rfl rfl rfl rfl rfl rfl rfl rfl rfl).more (Nat.le_succ N), Nat.le_refl _, rfl, Nat.le_succ _⟩
    · subst e
      have c10 : w4.cell? ⟨bx, 10, none⟩ = some (.int .i64 s.gy) := by rw [cell_blk HB4.out, HC3.out]; rfl
      have f10 : w4.frozen? ⟨bx, 10, none⟩ = false := frozen_blk HB4.out _
      go_wp2_with fail
      go_meet
      exact ⟨{ s4 with gy := n }, _, _, _, _, (HBT.out.num (s' := { s4 with gy := n }) 10 n rfl rfl rfl rfl rfl rfl rfl rfl rfl rfl).more (Nat.le_succ N), Nat.le_refl _, rfl, Nat.le_succ _⟩
    · subst e
      have c11 : w4.cell? ⟨bx, 11, none⟩ = some (.int .i64 s.push) := by rw [cell_blk HB4.out, HC3.out]; rfl
      have f11 : w4.frozen? ⟨bx, 11, none⟩ = false := frozen_blk HB4.out _
      go_wp2_with fail
      go_meet
      exact ⟨{ s4 with push := n }, _, _, _, _, (HBT.out.num (s' := { s4 with push := n }) 11 n rfl rfl rfl rfl rfl rfl rfl rfl rfl rfl).more (Nat.le_succ N), Nat.le_refl _, rfl, Nat.le_succ _⟩
    · subst e
      have c12 : w4.cell? ⟨bx, 12, none⟩ = some (.int .i64 s.drag) := by rw [cell_blk HB4.out, HC3.out]; rfl
      have f12 : w4.frozen? ⟨bx, 12, none⟩ = false := frozen_blk HB4.out _
      go_wp2_with fail
      go_meet
      exact ⟨{ s4 with drag := n }, _, _, _, _, (HBT.out.num (s' := { s4 with drag := n }) 12 n rfl rfl rfl rfl rfl rfl rfl rfl rfl rfl).more (Nat.le_succ N), Nat.le_refl _, rfl, Nat.le_succ _⟩
    · subst e
      have c13 : w4.cell? ⟨bx, 13, none⟩ = some (.int .i64 s.rest) := by rw [cell_blk HB4.out, HC3.out]; rfl
      have f13 : w4.frozen? ⟨bx, 13, none⟩ = false := frozen_blk HB4.out _
      go_wp2_with fail
      go_meet
      exact ⟨{ s4 with rest := n }, _, _, _, _, (HBT.out.num (s' := { s4 with rest := n }) 13 n rfl rfl rfl rfl rfl rfl rfl rfl rfl rfl).more (Nat.le_succ N), Nat.le_refl _, rfl, Nat.le_succ _⟩
    · subst e
      have c14 : w4.cell? ⟨bx, 14, none⟩ = some (.int .i64 s.rounds) := by rw [cell_blk HB4.out, HC3.out]; rfl
      have f14 : w4.frozen? ⟨bx, 14, none⟩ = false := frozen_blk HB4.out _
      go_wp2_with fail
      go_meet
      exact ⟨{ s4 with rounds := n }, _, _, _, _, (HBT.out.num (s' := { s4 with rounds := n }) 14 n rfl rfl rfl rfl rfl rfl rfl rfl rfl rfl).more (Nat.le_succ N), Nat.le_refl _, rfl, Nat.le_succ _⟩
    · subst e
      have c15 : w4.cell? ⟨bx, 15, none⟩ = some (.int .i64 s.fuel) := by rw [cell_blk HB4.out, HC3.out]; rfl
      have f15 : w4.frozen? ⟨bx, 15, none⟩ = false := frozen_blk HB4.out _
      go_wp2_with fail
      go_meet
      exact ⟨{ s4 with fuel := n }, _, _, _, _, (HBT.out.num (s' := { s4 with fuel := n }) 15 n rfl rfl rfl rfl rfl rfl rfl rfl rfl rfl).more (Nat.le_succ N), Nat.le_refl _, rfl, Nat.le_succ _⟩
    · subst e
      have cb := HCB.out
      have fb : w4.frozen? ⟨bx, 1, none⟩ = false := frozen_blk HB4.out _
      have hto := run_slice_to (P := Try.prog) 23 52 Try.underlying23 9 (by kernel_rfl) (some ⟨g, off, none⟩) bodies.length bC k (by have h := HBT.out.sb.2.2.1; rw [HS4e.out] at h; have h2 := HKN.out; simp only at h; omega)
      go_wp2_with fail
      go_meet
      have hbb := HBT.out.cut (Nat.le_of_lt HKN.out)
      rw [HBO.out, show s4.bc = bC by rw [HS4e.out]] at hbb
      exact ⟨_, _, _, _, _, hbb.more (Nat.le_succ N), by rw [List.length_take]; omega, rfl, Nat.le_succ _⟩
  case rest =>
    obtain ⟨s', bodies', polys', rooms', doors', hb', h1', h2', h3'⟩ := hcut
    obtain ⟨C', hC'⟩ : ∃ C : Array Value, C = stCells s' := ⟨_, rfl⟩
    have HBB := Lib.hid (by rw [hC']; exact hb'.box : wc.heap[bx]? = some (.cells C' 31 (0, 0)))
    have HRR := Lib.hid hb'.rx
    have HCS := Lib.hid (by rw [hC']; rfl : C'.size = 16)
    have HC1 := Lib.hid (by rw [hC']; simp [stCells, Value.oneCell'] : C'.all (·.oneCell') = true)
    have HBT' := Lib.hid hb'
    have HLE := Lib.hid (And.intro h1' (And.intro h2' h3'))
    have HCE := Lib.hid hC'
    clear hb' h1' h2' h3' hC'
    go_wp2_with (first | (refine wpList_storeB rfl 31 (Operand.tmp 6) (Operand.tmp 181) rfl (bx + 1) 16 C' rfl rfl ZS 31 HRR.out HZ16.out HCS.out infoSetup HC1.out ?_; intro wf hbf hff; have HBF := Lib.hid hbf; have HFF := Lib.hid hff; clear hbf hff) | (refine wpList_loadB rfl 31 (Operand.tmp 3) rfl bx 16 rfl C' 31 (0, 0) HBB.out _ Try.underlying31 rfl HCS.out infoSetup ?_))
    have hbf := HBF.out
    rw [HCE.out] at hbf
    unfold stCells at hbf
    have q0 : wf.cell? ⟨bx + 1, 0, none⟩ = some (.int .i64 s'.players) := cell_blk hbf 0
    have q1 : wf.cell? ⟨bx + 1, 1, none⟩ = some (.slice s'.bo s'.nb s'.bc) := cell_blk hbf 1
    have q2 : wf.cell? ⟨bx + 1, 2, none⟩ = some (.int .i64 s'.x0) := cell_blk hbf 2
    have q3 : wf.cell? ⟨bx + 1, 3, none⟩ = some (.int .i64 s'.y0) := cell_blk hbf 3
    have q4 : wf.cell? ⟨bx + 1, 4, none⟩ = some (.int .i64 s'.x1) := cell_blk hbf 4
    have q5 : wf.cell? ⟨bx + 1, 5, none⟩ = some (.int .i64 s'.y1) := cell_blk hbf 5
    have q6 : wf.cell? ⟨bx + 1, 6, none⟩ = some (.slice s'.ro s'.rn s'.rc) := cell_blk hbf 6
    have q7 : wf.cell? ⟨bx + 1, 7, none⟩ = some (.slice s'.dO s'.dn s'.dc) := cell_blk hbf 7
    have q8 : wf.cell? ⟨bx + 1, 8, none⟩ = some (.int .i64 s'.fog) := cell_blk hbf 8
    have q9 : wf.cell? ⟨bx + 1, 9, none⟩ = some (.int .i64 s'.gx) := cell_blk hbf 9
    have q10 : wf.cell? ⟨bx + 1, 10, none⟩ = some (.int .i64 s'.gy) := cell_blk hbf 10
    have q11 : wf.cell? ⟨bx + 1, 11, none⟩ = some (.int .i64 s'.push) := cell_blk hbf 11
    have q12 : wf.cell? ⟨bx + 1, 12, none⟩ = some (.int .i64 s'.drag) := cell_blk hbf 12
    have q13 : wf.cell? ⟨bx + 1, 13, none⟩ = some (.int .i64 s'.rest) := cell_blk hbf 13
    have q14 : wf.cell? ⟨bx + 1, 14, none⟩ = some (.int .i64 s'.rounds) := cell_blk hbf 14
    have q15 : wf.cell? ⟨bx + 1, 15, none⟩ = some (.int .i64 s'.fuel) := cell_blk hbf 15
    refine bodyPost_ret (v := s'.val) (by simp [results, Try.results12, go_sem, q0, q1, q2, q3, q4, q5, q6, q7, q8, q9, q10, q11, q12, q13, q14, q15]; rfl) rfl ?_
    exact ⟨s', bodies', polys', rooms', doors', rfl, HBT'.out.sk (by omega) HFF.out, HBT'.out.short, HLE.out.1, HLE.out.2.1, HLE.out.2.2, HBT'.out.fr.trans HFF.out (fun q hq => .inr (by simp at hq; rw [hq]; have h0 := HBX.out; omega))⟩
end Go.Proofs.Ytlfomhknfpmhbaa
