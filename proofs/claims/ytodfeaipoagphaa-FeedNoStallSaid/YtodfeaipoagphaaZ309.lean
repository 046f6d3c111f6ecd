/- FeedM2, FeedPut, App30, Rcm (merged by merge.py). -/
import Derived.Test.YtodfeaipoagphaaZ308
import Derived.Deep.RegionHeld3
import Derived.Test.YtodfeaipoagphaaZ301
import Derived.Test.YtodfeaipoagphaaProg
import Derived.Test.YtodfeaipoagphaaZ300
import Derived.Test.YtodfeaipoagphaaZ303
import Derived.Test.YtodfeaipoagphaaZ307
import Derived.IntWalk
/- Package feed: View, Ack. -/
namespace Go.Proofs.Ytodfeaipoagphaa
open Go.RowKit

section
variable {w : World} {T : TypeId} {p b : Nat} {s : FS} {cs : List FC}
/-- what View returns -/
def ViewAt (w : World) (s : FS) (t : Int) (e : Ending) (w' : World) : Prop := Fr [] w w' ∧ ((s.has t = false ∧ e = .returned (.tuple #[.slice none 0 0, .bool false])) ∨
  ∃ x ∈ s.L, x.tick = t ∧ ∃ bo bc, e = .returned (.tuple #[.slice bo x.view.length bc, .bool true]) ∧ Seg w' 48 2 bo x.view.length bc (x.view.flatMap clV) ∧ ∀ k ∈ blk bo, w.heap.size ≤ k)

set_option maxRecDepth 100000 in
set_option maxHeartbeats 2000000 in
theorem fview_any (h : IsStC w T p b s cs) (hg : s.Good) (k : Int) (hk : MV.fits k) :
    Calls Try.prog 17 #[.pointer (some ⟨p, 0, none⟩), .int .i64 k] w (ViewAt w s k) := by
  have c2 : w.cell? ⟨p, 2, none⟩ = some (.map (some b)) := cell_blk h.p 2
  cases hh : s.has k with
  | true =>
    obtain ⟨e0, he0, hek⟩ := has_yes hh
    obtain ⟨c, hc, hce⟩ := h.kv he0
    have hl : (Instr.lookup 53 (.map (some b)) (.int .i64 k) true).run Try.prog w = .ok (.tuple #[.agg #[.slice c.vo c.e.view.length c.vc, .bool c.e.acked], .bool true]) w :=
      h.map.look undT (zeroEnt w) hk (v := c.val) (by rw [← hek, ← hce]; exact List.mem_map_of_mem hc)
    have HE := Lib.hid he0
    have HK := Lib.hid hek
    have hs1 := h.segs c hc
    have hlen := (hg.view e0 he0).2
    rw [hce] at hl hs1
    obtain ⟨vo, hvo⟩ : ∃ x, x = c.vo := ⟨_, rfl⟩
    obtain ⟨V, hV⟩ : ∃ x, x = e0.view := ⟨_, rfl⟩
    obtain ⟨vc, hvc⟩ : ∃ x, x = c.vc := ⟨_, rfl⟩
    obtain ⟨va, hva⟩ : ∃ x, x = e0.acked := ⟨_, rfl⟩
    rw [← hvo, ← hV, ← hvc] at hs1
    rw [← hvo, ← hV, ← hvc, ← hva] at hl
    rw [← hV] at hlen
    have HV := Lib.hid hV
    have HCL := Lib.hid (fun u (hu : Fr [] w u) => clone_any u vo vc V (hs1.fr hu (by simp)) (by omega))
    clear h hh he0 hek hc hce hvo hV hvc hva hs1
    go_enter Try.func17, Try.ntmps17
    go_wp2_with fail
    have hfa : Fr [] w (w.alloc (.cells #[.slice vo V.length vc, .bool va] 61)) := (Fr.refl _ _).alloc _
    refine (HCL.out _ hfa).mono ?_
    rintro e w2 ⟨bo, bc, rfl, hs2, f2, hn2⟩
    have HS2 := Lib.hid hs2
    have F2 := Lib.hid (hfa.trans f2 (by simp [Ext]))
    have HN2 := Lib.hid (fun q hq => (by have := hn2 q hq; simp at this; omega : w.heap.size ≤ q))
    clear hs2 f2 hn2 hfa
    go_wp2_with fail
    go_ret2
    exact ⟨F2.out, .inr ⟨e0, HE.out, HK.out, bo, bc, by rw [← HV.out]; rfl, by rw [← HV.out]; exact HS2.out, HN2.out⟩⟩
  | false =>
    have hl := h.map.look_no undT (zeroEnt w) hk (h.no (has_no hh))
    clear h
    go_enter Try.func17, Try.ntmps17
    go_wp2_with fail
    go_ret2
    exact ⟨(Fr.refl [] w).alloc _, .inl ⟨hh, rfl⟩⟩

theorem IsStC.uniq (h : IsStC w T p b s cs) {c c' : FC} (hc : c ∈ cs) (hc' : c' ∈ cs) (e : c.e.tick = c'.e.tick) : c = c' := by
  have hn := h.map.nodup
  rw [List.map_map] at hn
  have key : ∀ {l : List FC}, (l.map ((·.1) ∘ FC.kv)).Nodup → c ∈ l → c' ∈ l → c = c' := by
    intro l hn m m'
    induction l with
    | nil => simp at m
    | cons x l ih =>
      rw [List.map_cons, List.nodup_cons] at hn
      rcases List.mem_cons.1 m with q | q
      · rcases List.mem_cons.1 m' with r | r
        · rw [q, r]
        · exfalso; apply hn.1
          rw [← q]
          exact List.mem_map.2 ⟨c', r, e.symm⟩
      · rcases List.mem_cons.1 m' with r | r
        · exfalso; apply hn.1
          rw [← r]
          exact List.mem_map.2 ⟨c, q, e⟩
        · exact ih hn.2 q r
  exact key hn hc hc'

/-- the entry at a tick acknowledged -/
def ackC (t : Int) (c : FC) : FC := if c.e.tick = t then ⟨⟨c.e.tick, c.e.view, true⟩, c.vo, c.vc⟩ else c
theorem IsStC.ack {w' : World} {t : Int} {c : FC} (h : IsStC w T p b s cs) (hc : c ∈ cs) (hct : c.e.tick = t) (hm : IsV w' b ((cs.map FC.kv).map fun e => if e.1 = t then (t, .agg #[.slice c.vo c.e.view.length c.vc, .bool true]) else e)) (hp : w'.heap[p]? = w.heap[p]?) (hS : ∀ c ∈ cs, ∀ k ∈ blk c.vo, w'.heap[k]? = w.heap[k]?) :
    IsStC w' T p b (s.ack t) (cs.map (ackC t)) ∧ (cs.map (ackC t)).flatMap (fun c => blk c.vo) = cs.flatMap fun c => blk c.vo := by
  have hvo : ∀ c, (ackC t c).vo = c.vo ∧ (ackC t c).vc = c.vc ∧ (ackC t c).e.view = c.e.view := fun c => by unfold ackC; split <;> exact ⟨rfl, rfl, rfl⟩
  refine ⟨⟨?_, hp.trans h.p, ?_, fun x hx => ?_⟩, ?_⟩
  · show s.L.map _ = _
    rw [h.L, List.map_map, List.map_map]
    refine List.map_congr_left fun x _ => ?_
    show (if x.e.tick = t then _ else x.e) = (ackC t x).e
    unfold ackC
    split <;> rfl
  · rw [List.map_map]
    rw [List.map_map] at hm
    have e : cs.map (FC.kv ∘ ackC t) = cs.map ((fun e : Int × Value => if e.1 = t then (t, Value.agg #[.slice c.vo c.e.view.length c.vc, .bool true]) else e) ∘ FC.kv) := by
      refine List.map_congr_left fun x hx => ?_
      show (ackC t x).kv = if x.e.tick = t then _ else x.kv
      unfold ackC
      by_cases h2 : x.e.tick = t
      · rw [if_pos h2, if_pos h2]
        have : x = c := h.uniq hx hc (by rw [h2, hct])
        subst this
        show (x.e.tick, _) = (t, _)
        rw [h2]; rfl
      · rw [if_neg h2, if_neg h2]
    rw [e]; exact hm
  · obtain ⟨y, hy, rfl⟩ := List.mem_map.1 hx
    rw [(hvo y).1, (hvo y).2.1, (hvo y).2.2]
    exact (h.segs y hy).same (hS y hy)
  · rw [List.flatMap_map]
    congr 1
    funext x
    rw [(hvo x).1]

theorem FS.ack_no {s : FS} {t : Int} (h : ∀ e ∈ s.L, e.tick ≠ t) : s.ack t = s := by
  unfold FS.ack
  have : s.L.map (fun e => if e.tick = t then (⟨e.tick, e.view, true⟩ : FE) else e) = s.L := by
    conv => rhs; rw [← List.map_id s.L]
    refine List.map_congr_left fun e he => ?_
    rw [if_neg (h e he)]; rfl
  rw [this]

attribute [local irreducible] wpStill
set_option maxRecDepth 100000 in
set_option maxHeartbeats 4000000 in
theorem ack_any {F : List Nat} (h : IsSt 58 p s w F) (hg : s.Good) (t : Int) (ht : MV.fits t) :
    Calls Try.prog 15 #[.pointer (some ⟨p, 0, none⟩), .int .i64 t] w fun e w' => e = .returned (.tuple #[]) ∧ ∃ F', IsSt 58 p (s.ack t) w' F' ∧ Fr F w w' ∧ Ext F w F' := by
  obtain ⟨b, cs, hc, rfl⟩ := h
  have c2 : w.cell? ⟨p, 2, none⟩ = some (.map (some b)) := cell_blk hc.p 2
  cases hh : s.has t with
  | false =>
    have hl := hc.map.look_no undT (zeroEnt w) ht (hc.no (has_no hh))
    have HC := Lib.hid hc
    have HA := Lib.hid (FS.ack_no (has_no hh))
    clear hc hh hg
    go_enter Try.func15, Try.ntmps15
    go_wp2_with fail
    go_end0
    rw [HA.out]
    exact ⟨rfl, _, ⟨b, cs, HC.out.fr ((Fr.refl [] w).alloc _) (by simp), rfl⟩, (Fr.refl _ w).alloc _, Ext.refl _ _⟩
  | true =>
    obtain ⟨e0, he0, hek⟩ := has_yes hh
    obtain ⟨c, hcm, hce⟩ := hc.kv he0
    have hmem : (t, c.val) ∈ cs.map FC.kv := by rw [← hek, ← hce]; exact List.mem_map_of_mem hcm
    have hl : (Instr.lookup 53 (.map (some b)) (.int .i64 t) true).run Try.prog w = .ok (.tuple #[.agg #[.slice c.vo c.e.view.length c.vc, .bool c.e.acked], .bool true]) w :=
      hc.map.look undT (zeroEnt w) ht (v := c.val) hmem
    have hct : c.e.tick = t := by rw [hce, hek]
    have hnp := hc.ne (by decide)
    have hll : (cs.map FC.kv).length < maxLen := by
      have h1 : s.L.length = cs.length := by rw [hc.L, List.length_map]
      have h2 := hg.len
      have h3 := hg.k1
      rw [List.length_map]
      unfold maxLen; omega
    have HCC := Lib.hid (fun w' => @IsStC.ack w 58 p b s cs w' t c hc hcm hct)
    obtain ⟨vo, hvo⟩ : ∃ x, x = c.vo := ⟨_, rfl⟩
    obtain ⟨vn, hvn⟩ : ∃ x, x = c.e.view.length := ⟨_, rfl⟩
    obtain ⟨vc, hvc⟩ : ∃ x, x = c.vc := ⟨_, rfl⟩
    obtain ⟨va, hva⟩ : ∃ x, x = c.e.acked := ⟨_, rfl⟩
    rw [← hvo, ← hvn, ← hvc] at HCC
    rw [← hvo, ← hvn, ← hvc, ← hva] at hl
    have HC := Lib.hid hc
    have HM := Lib.hid hmem
    have HLL := Lib.hid hll
    have HNP := Lib.hid hnp
    obtain ⟨x, hx⟩ : ∃ x, x = w.heap.size := ⟨_, rfl⟩
    have hpx : p < x := by rw [hx]; exact lt_of_blk hc.p
    have hbx : b < x := by rw [hx]; exact hc.map.lt
    have HSX := Lib.hid (fun c (hc2 : c ∈ cs) k (hk : k ∈ blk c.vo) => (by rw [hx]; exact (hc.segs c hc2).lt k hk : k < x))
    have HX := Lib.hid hx
    clear hc hh hg he0 hek hcm hce hmem hct hnp hll hvo hvn hvc hva hx
    go_enter Try.func15, Try.ntmps15
    go_upto_region 2 with fail
    obtain ⟨w1, hw1⟩ : ∃ w1, w1 = w.alloc (.cells #[.slice vo vn vc, .bool va] 61) := ⟨_, rfl⟩
    rw [← HX.out, ← hw1]
    have hB1 : w1.heap[x]? = some (.cells #[.slice vo vn vc, .bool va] 61 (0, 0)) := by rw [hw1, HX.out]; exact alloc_new _ _
    have HF1 := Lib.hid (by rw [hw1]; exact (Fr.refl _ _).alloc _ : Fr [] w w1)
    have c1x : w1.cell? ⟨x, 1, none⟩ = some (.bool va) := cell_blk hB1 1
    have f1x : w1.frozen? ⟨x, 1, none⟩ = false := frozen_blk hB1 1
    have HB1 := Lib.hid hB1
    clear hw1 hB1
    go_upto_region 3 with fail
    obtain ⟨w2, hw2⟩ : ∃ w2, w2 = w1.setCell ⟨x, 1, none⟩ (.bool true) := ⟨_, rfl⟩
    rw [← hw2]
    have hB2 : w2.heap[x]? = some (.cells #[.slice vo vn vc, .bool true] 61 (0, 0)) := by rw [hw2, setCell_blk HB1.out]; rfl
    have HF2 := Lib.hid (by rw [hw2]; exact HF1.out.setCell (p := ⟨x, 1, none⟩) (.inr (by rw [HX.out]; exact Nat.le_refl _)) _ : Fr [] w w2)
    have k0 : w2.cell? ⟨x, 0, none⟩ = some (.slice vo vn vc) := cell_blk hB2 0
    have k1 : w2.cell? ⟨x, 1, none⟩ = some (.bool true) := cell_blk hB2 1
    have kp : w2.cell? ⟨p, 2, none⟩ = some (.map (some b)) := cell_blk (HF2.out.blk HC.out.p (by simp)) 2
    have HF2 := Lib.hid (HF2.out.drew)
    obtain ⟨w3, hr3, hv3, hf3, -⟩ := (HC.out.map.fr HF2.out (by simp)).store_old undT HLL.out ht HM.out (.agg #[.slice vo vn vc, .bool true])
    have HV3 := Lib.hid hv3
    have HF3 := Lib.hid hf3
    have HF23 := Lib.hid (HF2.out.mono (T := p :: b :: cs.flatMap fun c => blk c.vo) (by simp) |>.trans (hf3.mono (T := p :: b :: cs.flatMap fun c => blk c.vo) (by simp)) (Ext.refl _ _))
    clear hw2 hB2 hv3 hf3 c1x f1x c2 hl
    refine wp_still_tail 7 (by kernel_rfl) (by kernel_rfl) ?_
    simp only [List.take_succ_cons, List.take_zero, List.drop_succ_cons, List.drop_zero]
    repeat still_step
    refine wpStill_nil ?_
    go_wp2_with fail
    go_end0
    obtain ⟨h1, h2⟩ := HCC.out w3 HV3.out ((HF3.out.block p (Nat.lt_of_lt_of_le (by have := HX.out; omega) HF2.out.size) (by simp; exact HNP.out.1)).trans (HF2.out.block p (by have := HX.out; omega) (by simp))) (fun c hc k hk =>
      (HF3.out.block k (Nat.lt_of_lt_of_le (by have := HX.out; have := HSX.out c hc k hk; omega) HF2.out.size) (by simp; intro e; exact (HNP.out.2 c hc).2 (e ▸ hk))).trans (HF2.out.block k (by have := HX.out; have := HSX.out c hc k hk; omega) (by simp)))
    exact ⟨rfl, _, ⟨b, _, h1, rfl⟩, HF23.out, by rw [h2]; exact Ext.refl _ _⟩
end
end Go.Proofs.Ytodfeaipoagphaa
/- Package feed: put. -/
namespace Go.Proofs.Ytodfeaipoagphaa
open Go.RowKit

section
variable {w : World} {T : TypeId} {p b : Nat} {s : FS} {cs : List FC}
theorem lenV (w : World) (b : Nat) (L : List (Int × Value)) (h : IsV w b L) (ty : TypeId) : (Builtin.len_ #[53] ty #[.map (some b)]).run Try.prog w = .ok (.int .i64 (L.length : Int)) w := h.len undT ty

set_option maxRecDepth 100000 in
set_option maxHeartbeats 8000000 in
theorem put30_any (hT : T ≠ 48) {F : List Nat} (h : IsSt T p s w F) (hg : s.Good) (t : Int) (h0 : s.next ≤ t) (h1 : t < 1000000) (vo : Option Addr) (vc : Nat) (v : List (Int × Int)) (hv : Seg w 48 2 vo v.length vc (v.flatMap clV)) (hl : v.length ≤ 12) :
    Calls Try.prog 26 #[.pointer (some ⟨p, 0, none⟩), .int .i64 t, .slice vo v.length vc] w fun e w' => e = .returned (.tuple #[]) ∧ ∃ F', IsSt T p (s.put t v) w' F' ∧ Fr F w w' ∧ Ext F w F' := by
  obtain ⟨b, cs, hc, rfl⟩ := h
  have ht : MV.fits t := by have := hg.n0; unfold MV.fits; omega
  have hlen : cs.length = s.L.length := by rw [hc.L, List.length_map]
  have hk := hg.len
  have hk1 := hg.k1
  have HLL := Lib.hid (by rw [List.length_map, hlen]; unfold maxLen; omega : (cs.map FC.kv).length < maxLen)
  have HNO := Lib.hid (hc.no (t := t) fun e he => by have := (hg.tick e he).2; omega)
  have HCL := Lib.hid (fun u (hu : Fr [] w u) => clone_any u vo vc v (hv.fr hu (by simp)) (by omega))
  have c2 : w.cell? ⟨p, 2, none⟩ = some (.map (some b)) := cell_blk hc.p 2
  have hnp := hc.ne hT
  have HNP := Lib.hid hnp
  have HC := Lib.hid hc
  have HG := Lib.hid hg
  have HLEN := Lib.hid hlen
  have heqn : ∀ u : World, (binOp .eql 53 (.map (some b)) (.map none)).run Try.prog u = .ok (.bool false) u := fun u => by kernel_rfl
  have KP := Lib.hid (fun u (hu : Fr [] w u) => (cell_blk (hu.blk HC.out.p (by simp)) 2 : u.cell? ⟨p, 2, none⟩ = some (.map (some b))))
  have KP2 := Lib.hid (fun u u' (hu : Fr [] w u) (hu2 : Fr [b] u u') => (cell_blk (hu2.blk (hu.blk HC.out.p (by simp)) (by simp; exact HNP.out.1)) 2 : u'.cell? ⟨p, 2, none⟩ = some (.map (some b))))
  have HDr := Lib.hid ((Fr.refl [] w).drew)
  clear hc hg hv hlen hnp hk hk1
  go_enter Try.func26, Try.ntmps26
  go_upto_region 2 with fail
  refine wp_region_held_drew (S := fun u => u.cell? ⟨p, 2, none⟩ = some (.map (some b))) (by kernel_rfl) (KP.out _ HDr.out) (fun hHeld => ?_)
  refine wpAnyH_takeL (i := 0) (v := _) rfl (by kernel_rfl) (by kernel_rfl) (by kernel_rfl) (fun _ _ _ h => h) (Or.inl ⟨by rfl, (by intro w' hSw; (try dsimp only at hSw); skip; go_simp; try with_reducible rfl)⟩) (by assumption) ?_
  try simp only [Act.put, List.setIfInBounds_toArray, List.set_cons_zero, List.set_cons_succ]
  refine wpAnyH_takeL (i := 1) (v := _) rfl (by kernel_rfl) (by kernel_rfl) (by kernel_rfl) (fun _ _ _ h => h) (Or.inl ⟨by rfl, (by intro w' hSw; (try dsimp only at hSw); skip; go_simp; try with_reducible rfl)⟩) (by assumption) ?_
  try simp only [Act.put, List.setIfInBounds_toArray, List.set_cons_zero, List.set_cons_succ]
  refine wpAnyH_takeL (i := 2) (v := _) rfl (by kernel_rfl) (by kernel_rfl) (by kernel_rfl) (fun _ _ _ h => h) (Or.inl ⟨by rfl, (by intro w' hSw; (try dsimp only at hSw); skip; go_simp; try with_reducible rfl)⟩) (by assumption) ?_
  try simp only [Act.put, List.setIfInBounds_toArray, List.set_cons_zero, List.set_cons_succ]
  refine wpAnyH_takeL (i := 3) (v := _) rfl (by kernel_rfl) (by kernel_rfl) (by kernel_rfl) (fun _ _ _ h => h) (Or.inl ⟨by rfl, (by intro w' hSw; (try dsimp only at hSw); skip; go_simp; try with_reducible rfl)⟩) (by assumption) ?_
  try simp only [Act.put, List.setIfInBounds_toArray, List.set_cons_zero, List.set_cons_succ]
  refine wpAnyH_takeL (i := 4) (v := _) rfl (by kernel_rfl) (by kernel_rfl) (by kernel_rfl) (fun _ _ _ h => h) (Or.inl ⟨by rfl, (by intro w' hSw; (try dsimp only at hSw); skip; go_simp; try with_reducible rfl)⟩) (by assumption) ?_
  try simp only [Act.put, List.setIfInBounds_toArray, List.set_cons_zero, List.set_cons_succ]
  refine wpAnyH_takeL (i := 5) (v := _) rfl (by kernel_rfl) (by kernel_rfl) (by kernel_rfl) (fun _ _ _ h => h) (Or.inl ⟨by rfl, (by intro w' hSw; (try dsimp only at hSw); skip; go_simp; try with_reducible rfl)⟩) (by assumption) ?_
  try simp only [Act.put, List.setIfInBounds_toArray, List.set_cons_zero, List.set_cons_succ]
  refine wpAnyH_ready (rs := [6]) (by kernel_rfl) (by simp) ?_
  refine AllReadyH.consL (i := 6) rfl (fun K hK => ?_) AllReadyH.nil
  go_simp
  refine (HCL.out _ HDr.out).mono ?_; rintro e wA ⟨no, nc, rfl, hsn, fA, hnn⟩; obtain ⟨wB, hrB, hvB, fB, -⟩ := ((HC.out.map.fr HDr.out (by simp)).fr fA (by simp)).store_new undT HLL.out ht HNO.out (.agg #[.slice no v.length nc, .bool false]); have HA := Lib.hid (HDr.out.trans fA (by simp [Ext])); have HSN := Lib.hid hsn; have HNN : Hid (∀ k ∈ blk no, w.heap.size ≤ k) := Lib.hid hnn; have HVB := Lib.hid hvB; have HFB := Lib.hid fB; clear fA hsn hnn hvB fB
  refine hK.out _ _ (KP.out _ HA.out) (fun hHeld => ?_)
  clear hK K
  try simp only [Act.put, List.setIfInBounds_toArray, List.set_cons_zero, List.set_cons_succ]
  refine wpAnyH_takeL (i := 7) (v := _) rfl (by kernel_rfl) (by kernel_rfl) (by kernel_rfl) (fun _ _ _ h => h) (Or.inl ⟨by rfl, (by intro w' hSw; (try dsimp only at hSw); skip; go_simp; try with_reducible rfl)⟩) (by assumption) ?_
  try simp only [Act.put, List.setIfInBounds_toArray, List.set_cons_zero, List.set_cons_succ]
  refine wpAnyH_ready (rs := [8]) (by kernel_rfl) (by simp) ?_
  refine AllReadyH.consL (i := 8) rfl (fun K hK => ?_) AllReadyH.nil
  go_simp
  skip
  refine hK.out _ _ (KP2.out _ _ HA.out HFB.out) (fun hHeld => ?_)
  clear hK K
  try simp only [Act.put, List.setIfInBounds_toArray, List.set_cons_zero, List.set_cons_succ]
  refine wpAnyH_done (by kernel_rfl) ?_ _
  clear hHeld c2 heqn
  obtain ⟨cn, hcn⟩ : ∃ cn : FC, cn = ⟨⟨t, v, false⟩, no, nc⟩ := ⟨_, rfl⟩
  obtain ⟨C', hC'⟩ : ∃ C', C' = cs ++ [cn] := ⟨_, rfl⟩
  have HMB := Lib.hid (by rw [hC', List.map_append, hcn]; exact HVB.out : IsV wB b (C'.map FC.kv))
  have FAB := Lib.hid ((HA.out.mono (T := [p, b]) (by simp)).trans (HFB.out.mono (T := [p, b]) (by simp)) (Ext.refl _ _) : Fr [p, b] w wB)
  have HPB := Lib.hid (HFB.out.blk (HA.out.blk HC.out.p (by simp)) (by simp; exact HNP.out.1))
  have hSB : ∀ c ∈ C', Seg wB 48 2 c.vo c.e.view.length c.vc (c.e.view.flatMap clV) := fun c hc2 => by
    rw [hC'] at hc2
    rcases List.mem_append.1 hc2 with q | q
    · exact ((HC.out.segs c q).fr HA.out (by simp)).fr HFB.out (fun k hk => by simp; exact fun e => (HNP.out.2 c q).2 (e ▸ hk))
    · simp at q
      rw [q, hcn]
      exact HSN.out.fr HFB.out (fun k hk => by simp; exact fun e => by have h1 := HNN.out k hk; have h2 := HC.out.map.lt; omega)
  have HSB := Lib.hid hSB
  have hnb : ∀ c ∈ C', p ∉ blk c.vo ∧ b ∉ blk c.vo := fun c hc2 => by
    rw [hC'] at hc2
    rcases List.mem_append.1 hc2 with q | q
    · exact HNP.out.2 c q
    · simp at q
      rw [q, hcn]
      exact ⟨fun hm => by have h1 := HNN.out p hm; have h2 := lt_of_blk HC.out.p; omega, fun hm => by have h1 := HNN.out b hm; have h2 := HC.out.map.lt; omega⟩
  have HNB := Lib.hid hnb
  have HEX := Lib.hid (fun (D : List FC) (hD : ∀ c ∈ D, c ∈ C') => (fun k hk => by
    simp only [List.mem_cons, List.mem_flatMap] at hk
    rcases hk with rfl | rfl | ⟨c, hcD, hk⟩
    · exact .inl (by simp)
    · exact .inl (by simp)
    · have h1 := hD c hcD
      rw [hC'] at h1
      rcases List.mem_append.1 h1 with q | q
      · exact .inl (by simp only [List.mem_cons, List.mem_flatMap]; exact .inr (.inr ⟨c, q, hk⟩))
      · simp at q
        rw [q, hcn] at hk
        exact .inr (HNN.out k hk) : Ext (p :: b :: cs.flatMap fun c => blk c.vo) w (p :: b :: D.flatMap fun c => blk c.vo)))
  have HLE := Lib.hid (by rw [hC', List.map_append, ← HC.out.L, hcn]; rfl : C'.map FC.e = s.L ++ [⟨t, v, false⟩])
  have HCl := Lib.hid (by rw [hC']; simp : C'.length = cs.length + 1)
  have hcsl : cs.length ≤ 64 := by have := HLEN.out; have := HG.out.len; have := HG.out.k1; omega
  have hkl : cs.length ≤ s.keep := by have := HLEN.out; have := HG.out.len; omega
  have w31 : IntKind.i64.wrap (t + 1) = t + 1 := IntWalk.i64_in _ (by have := HG.out.n0; omega)
  have hmx : max s.next (t + 1) = t + 1 := by omega
  have d1 : wB.cell? ⟨p, 1, none⟩ = some (.int .i64 s.next) := cell_blk HPB.out 1
  have e1 : wB.frozen? ⟨p, 1, none⟩ = false := frozen_blk HPB.out 1
  have HPL := Lib.hid (lt_of_blk HPB.out)
  have HCN := Lib.hid hcn
  have HCC := Lib.hid hC'
  clear hSB hnb hcn hC' HVB HSN hrB
  go_upto_region 4 with fail
  obtain ⟨w3, hw3⟩ : ∃ w3, w3 = wB.setCell ⟨p, 1, none⟩ (.int .i64 (t + 1)) := ⟨_, rfl⟩
  rw [← hw3]
  have hP3 : w3.heap[p]? = some (.cells #[.int .i64 (s.keep : Int), .int .i64 (t + 1), .map (some b)] T (0, 0)) := by rw [hw3, setCell_blk HPB.out]; rfl
  have F3 := Lib.hid (by rw [hw3]; exact FAB.out.setCell (p := ⟨p, 1, none⟩) (.inl (by simp)) _ : Fr [p, b] w w3)
  have FB3 := Lib.hid (by rw [hw3]; exact (Fr.refl [p] wB).setCell (p := ⟨p, 1, none⟩) (.inl (by simp)) _ : Fr [p] wB w3)
  have HM3 := Lib.hid (HMB.out.fr FB3.out (by simp; exact fun e => HNP.out.1 e.symm))
  have HST := Lib.hid (fun (n : Nat) u (hu : Fr [] (w3.drewN n) u) => (⟨hu.blk (show (w3.drewN n).heap[p]? = _ from hP3) (by simp), fun c hc => ((HSB.out c hc).fr FB3.out (fun k hk => by simp; exact fun e => (HNB.out c hc).1 (e ▸ hk))).drewN n |>.fr hu (by simp)⟩ :
    u.heap[p]? = some (.cells #[.int .i64 (s.keep : Int), .int .i64 (t + 1), .map (some b)] T (0, 0)) ∧ ∀ c ∈ C', Seg u 48 2 c.vo c.e.view.length c.vc (c.e.view.flatMap clV)))
  have k0 : w3.cell? ⟨p, 0, none⟩ = some (.int .i64 (s.keep : Int)) := cell_blk hP3 0
  have k2 : w3.cell? ⟨p, 2, none⟩ = some (.map (some b)) := cell_blk hP3 2
  have hlv : ∀ n ty, (Builtin.len_ #[53] ty #[.map (some b)]).run Try.prog (w3.drewN n) = .ok (.int .i64 (C'.length : Int)) (w3.drewN n) := fun n ty => by
    have h := lenV (w3.drewN n) b _ (HM3.out.fr ((Fr.refl [] _).drewN n) (by simp)) ty
    rw [List.length_map] at h; exact h
  have HP3 := Lib.hid hP3
  clear hw3 hP3 d1 e1
  by_cases hfull : C'.length ≤ s.keep
  · have hd : decide (C'.length ≤ s.keep) = true := decide_eq_true hfull
    have HLP := Lib.hid (by
      show (s.L ++ ([⟨t, v, false⟩] : List FE)).drop (s.L.length + 1 - s.keep) = C'.map FC.e
      rw [← HLEN.out, show cs.length + 1 - s.keep = 0 by have := HCl.out; omega, List.drop_zero, HLE.out] : (s.put t v).L = C'.map FC.e)
    clear hfull
    go_quiet (fail)
    go_wp2_with fail
    refine bodyPost_ret (results_none rfl _ _ _) rfl ?_
    obtain ⟨h1, h2⟩ := HST.out _ _ (Fr.refl _ _)
    exact ⟨rfl, _, ⟨b, C', ⟨HLP.out, h1, HM3.out.fr ((Fr.refl [] _).drewN _) (by simp), h2⟩, rfl⟩, (F3.out.drewN _).mono (by simp), HEX.out C' (fun _ h => h)⟩
  · have hd : decide (C'.length ≤ s.keep) = false := decide_eq_false hfull
    have hfull2 : cs.length + 1 - s.keep = 1 := by have := HCl.out; omega
    obtain ⟨c0, C1, hC1⟩ : ∃ c0 C1, C' = c0 :: C1 := by
      cases C' with
      | nil => have h := HCl.out; simp at h
      | cons c0 C1 => exact ⟨c0, C1, rfl⟩
    have HC1 := Lib.hid hC1
    have HLP := Lib.hid (by
      show (s.L ++ ([⟨t, v, false⟩] : List FE)).drop (s.L.length + 1 - s.keep) = C1.map FC.e
      rw [← HLEN.out, hfull2, ← HLE.out, hC1]; rfl : (s.put t v).L = C1.map FC.e)
    have hris : (C'.map FC.e).Pairwise fun a b => a.tick < b.tick := by
      rw [HLE.out, List.pairwise_append]
      refine ⟨HG.out.rise, List.pairwise_singleton _ _, fun a ha b hb => ?_⟩
      simp at hb
      rw [hb]
      have := (HG.out.tick a ha).2
      show a.tick < t
      omega
    have HMIN := Lib.hid (by
      rw [hC1, List.map_cons, List.pairwise_cons] at hris
      exact fun c hc => hris.1 c.e (List.mem_map_of_mem hc) : ∀ c ∈ C1, c0.e.tick < c.e.tick)
    have hlast : cn ∈ C' := by rw [HCC.out]; simp
    have HCNM := Lib.hid hlast
    have HCNT := Lib.hid (by rw [HCN.out] : cn.e.tick = t)
    clear hfull hfull2 hC1 hris hlast
    go_quiet (fail)
    obtain ⟨w4, hw4⟩ : ∃ w4, w4 = w3.drewN nq := ⟨_, rfl⟩
    have HST4 := Lib.hid (by have h := HST.out nq; rw [← hw4] at h; exact h)
    have F4 := Lib.hid (by rw [hw4]; exact F3.out.drewN nq : Fr [p, b] w w4)
    have HM4 := Lib.hid (by rw [hw4]; exact HM3.out.fr ((Fr.refl [] _).drewN nq) (by simp) : IsV w4 b (C'.map FC.kv))
    have l2 : w4.cell? ⟨p, 2, none⟩ = some (.map (some b)) := by rw [hw4]; exact k2
    rw [← hw4]
    obtain ⟨r, hr⟩ : ∃ r, r = w4.heap.size := ⟨_, rfl⟩
    have HR := Lib.hid hr
    clear hw4 k0 k2 hlv hd hr
    go_wp2_with (first | (at_range; refine wpList_range_V rfl _ 53 rfl 61 undT rfl HM4.out ?_; rw [← HR.out]; intro w5 hrg5 hf5; have HRG := Lib.hid hrg5; have HF5 := Lib.hid hf5; clear hrg5 hf5))
    go_frame
    go_loopw [6] (fun sv wr => ∃ (m : Int) (M : List (Int × Value)), sv = .int .i64 m ∧ IsR wr b r (C'.map FC.kv) M ∧ Fr [r] w5 wr ∧ (∃ c ∈ C', c.e.tick = m) ∧ ∀ c ∈ C', c.kv ∈ M ∨ m ≤ c.e.tick) (fun _ wr => wr.rangeLeft b r)
    case atStart => exact ⟨t, _, rfl, HRG.out, Fr.refl _ _, ⟨cn, HCNM.out, HCNT.out⟩, fun c hc => .inl (List.mem_map_of_mem hc)⟩
    case round =>
      obtain ⟨m, M, rfl, hir, hfr, hin, hmin⟩ := hrel
      have HIR := Lib.hid hir
      have HFR := Lib.hid hfr
      have HIN := Lib.hid hin
      have HMI := Lib.hid hmin
      have F5r := Lib.hid (HF5.out.trans hfr (fun k hk => .inr (by simp at hk; have := HR.out; omega)) : Fr [] w4 wr)
      have m2 : wr.cell? ⟨p, 2, none⟩ = some (.map (some b)) := cell_blk ((HST4.out wr F5r.out).1) 2
      clear hir hfr hin hmin l2
      go_wp2_with (at_next; refine wpList_next_V rfl _ rfl rfl HIR.out ?_ ?_)
      · intro hM
        have hmt : m = c0.e.tick := by
          obtain ⟨c, hc, hcm⟩ := HIN.out
          have h1 : ∀ c ∈ C', m ≤ c.e.tick := fun c hc => by
            rcases HMI.out c hc with q | q
            · rw [hM] at q; simp at q
            · exact q
          have h2 := h1 c0 (by rw [HC1.out]; simp)
          rw [HC1.out] at hc
          rcases List.mem_cons.1 hc with q | q
          · rw [← hcm, q]
          · have := HMIN.out c q; omega
        have HMT := Lib.hid hmt
        have hfm := Lib.hid (HIR.out.isV.fit c0.kv (List.mem_map_of_mem (by rw [HC1.out]; simp)))
        have HFM : Hid (MV.fits m) := Lib.hid (by rw [hmt]; exact hfm.out)
        clear hM hmt hfm
        go_wp2_with (at_delete; refine wpList_delete_V rfl _ _ 53 rfl 61 undT m HFM.out rfl rfl HIR.out.isV ?_; intro w8 hv8 hf8; have HV8 := Lib.hid hv8; have HF8 := Lib.hid hf8; clear hv8 hf8)
        go_end0
        obtain ⟨h1, h2⟩ := HST4.out wr F5r.out
        have hne := HNP.out.1
        have hfl : (C'.map FC.kv).filter (fun e => e.1 != m) = C1.map FC.kv := by
          rw [HC1.out, List.map_cons, List.filter_cons, HMT.out]
          have e1 : ((FC.kv c0).1 != c0.e.tick) = false := by show (c0.e.tick != c0.e.tick) = false; simp
          rw [e1]
          simp only [Bool.false_eq_true, if_false]
          rw [List.filter_eq_self]
          intro x hx
          obtain ⟨c, hc, rfl⟩ := List.mem_map.1 hx
          have := HMIN.out c hc
          show (c.e.tick != c0.e.tick) = true
          simp; omega
        have hv9 := HV8.out
        rw [hfl] at hv9
        refine ⟨rfl, _, ⟨b, C1, ⟨HLP.out, HF8.out.blk h1 (by simp; exact hne), hv9, fun c hc => ?_⟩, rfl⟩, ?_, HEX.out C1 (fun c hc => by rw [HC1.out]; simp [hc])⟩
        · have hcc : c ∈ C' := by rw [HC1.out]; simp [hc]
          exact (h2 c hcc).fr HF8.out (fun k hk => by simp; exact fun e => (HNB.out c hcc).2 (e ▸ hk))
        · exact ((F4.out.trans (F5r.out.mono (T := [p, b]) (by simp)) (Ext.refl _ _)).trans (HF8.out.mono (T := [p, b]) (by simp)) (Ext.refl _ _)).mono (by simp)
      · intro x vv w6 hxM hfx hir6 hlt6 hf6 hen6
        have HIR6 := Lib.hid hir6
        have HF6 := Lib.hid hf6
        obtain ⟨c, hc, hckv⟩ := List.mem_map.1 (HIR.out.sub _ hxM)
        have hcx : c.e.tick = x := congrArg Prod.fst hckv
        have HLT := Lib.hid hlt6
        by_cases hxm2 : x < m
        · have g1 : min m x = x := by omega
          have HIN2 := Lib.hid (⟨c, hc, hcx⟩ : ∃ c ∈ C', c.e.tick = x)
          have HMI2 := Lib.hid (fun c2 (hc2 : c2 ∈ C') => (by
            rcases HMI.out c2 hc2 with q | q
            · by_cases h : c2.e.tick = x
              · right; omega
              · left
                exact List.mem_filter.2 ⟨q, by show (c2.e.tick != x) = true; simpa using h⟩
            · right; omega : c2.kv ∈ M.filter (fun e => e.1 != x) ∨ x ≤ c2.e.tick))
          clear hxM hir6 hlt6 hf6 hc hckv hcx
          go_wp2_with fail
          go_roundw
          case rel => exact ⟨x, _, rfl, HIR6.out, HFR.out.trans HF6.out (Ext.refl _ _), HIN2.out, HMI2.out⟩
          case measure => exact HLT.out
        · have g1 : min m x = m := by omega
          have HMI2 := Lib.hid (fun c2 (hc2 : c2 ∈ C') => (by
            rcases HMI.out c2 hc2 with q | q
            · by_cases h : c2.e.tick = x
              · right; omega
              · left
                exact List.mem_filter.2 ⟨q, by show (c2.e.tick != x) = true; simpa using h⟩
            · right; omega : c2.kv ∈ M.filter (fun e => e.1 != x) ∨ m ≤ c2.e.tick))
          clear hxM hir6 hlt6 hf6 hc hckv hcx
          go_wp2_with fail
          go_roundw
          case rel => exact ⟨m, _, rfl, HIR6.out, HFR.out.trans HF6.out (Ext.refl _ _), HIN.out, HMI2.out⟩
          case measure => exact HLT.out
end
end Go.Proofs.Ytodfeaipoagphaa
/- Package feed: appendVarint (turned from snapshot.appendNumber). -/
namespace Go.Proofs.Ytodfeaipoagphaa
open Go.RowKit

set_option maxRecDepth 100000 in
set_option maxHeartbeats 4000000 in
theorem fappend_any (w : World) (ao : Option Addr) (cap : Nat) (out : List Nat) (n : Nat) (hs : Seg w 5 1 ao out.length cap (bts out)) (hn : n < 9223372036854775808) (hl : out.length ≤ 1099511627776) :
    Calls Try.prog 25 #[.slice ao out.length cap, .int .i64 (n : Int)] w (AppTo w ao (out ++ varN n)) := by
  obtain ⟨ib, hib, hb0, hb1, hb2⟩ := info_parts infoByte
  have HS := Lib.hid hs
  have HVL := Lib.hid (varN_len (by omega : n < 18446744073709551616))
  clear hs
  go_enter Try.func25, Try.ntmps25
  go_wp2_with fail
  go_loopw [0, 5] (fun bv nv wr => ∃ (d : List Nat) (m : Nat) (oa : Option Addr) (oc : Nat), bv = .slice oa (out ++ d).length oc ∧ nv = .int .u64 (m : Int) ∧ m < 18446744073709551616 ∧ d ++ varN m = varN n ∧ Seg wr 5 1 oa (out ++ d).length oc (bts (out ++ d)) ∧ Fr (blk ao) w wr ∧ Ext (blk ao) w (blk oa)) (fun _ nv _ => (intOf nv).toNat)
  case atStart => exact ⟨[], n, ao, cap, by simp, by go_num, by omega, rfl, by simpa using HS.out, Fr.refl _ _, Ext.refl _ _⟩
  case round =>
    obtain ⟨d, m, oa, oc, rfl, rfl, hm, hd, hseg, hf, hx⟩ := hrel
    obtain ⟨D, hD⟩ : ∃ D, D = out ++ d := ⟨_, rfl⟩
    have hdl : d.length ≤ 10 := by have := congrArg List.length hd; rw [List.length_append] at this; have := HVL.out; omega
    have hDl : D.length ≤ 1099511627786 := by rw [hD, List.length_append]; omega
    have HDE := Lib.hid hD
    rw [← hD] at hseg ⊢
    have HD := Lib.hid hd
    have HSG := Lib.hid fun (o : Obj) => hseg.alloc o
    have HF := Lib.hid hf
    have HX := Lib.hid hx
    clear hD hd hseg hf hx
    by_cases hm1 : 128 ≤ m
    · have hmi : (128 : Int) ≤ (m : Int) := by omega
      obtain ⟨x, hx⟩ : ∃ x, x = m % 128 + 128 := ⟨_, rfl⟩
      have hor : bits .or .u8 ((m : Int) % 256) 128 = (x : Int) := by
        have h := bits_or_u8 (m % 256) 128 (by omega) (by omega)
        rw [or128 _ (by omega)] at h
        rw [hx, show (m : Int) % 256 = ((m % 256 : Nat) : Int) by omega]
        refine Eq.trans h ?_
        omega
      have HXE := Lib.hid hx
      clear hx
      go_wp2_with (at_builtin; refine wpList_append_seg rfl _ _ 33 rfl 5 ib _ 1 1 Try.underlying33 hib hb0 hb1 hb2 rfl (by decide) oa D.length oc (bts D) rfl (HSG.out _) ⟨_, 0, none⟩ 1 1 [.int .u8 (x : Int)] rfl rfl (fun j u hu => by rw [Addr.add_mid, Nat.zero_add, World.cell?_alloc_new]; simpa using hu) (by simp [Value.oneCell']) (by unfold maxLen; omega) (by omega) ?_; intro ao' cap' w5 hs5 hf5 hx5; have HS5 := Lib.hid hs5; have HF5 := Lib.hid (((Fr.refl (blk oa) wr).alloc _).trans hf5 (Ext.refl _ _)); have HX5 := Lib.hid hx5; clear hs5 hf5 hx5)
      go_roundw
      case rel =>
        have hlen : (out ++ (d ++ [x])).length = D.length + 1 := by rw [HDE.out]; simp; omega
        have e : out ++ (d ++ [x]) = D ++ [x] := by rw [HDE.out, List.append_assoc]
        refine ⟨d ++ [x], m / 128, ao', cap', by rw [hlen], by go_num, by omega, by rw [← HD.out, varN_ge hm1, ← HXE.out]; simp, by rw [hlen, e, bts_append]; exact HS5.out, HF.out.trans HF5.out HX.out, fun k hk => ?_⟩
        rcases HX5.out k hk with h | h
        · exact HX.out k h
        · have := HF.out.size; simp at h; exact .inr (by omega)
      case measure => simp [intOf]; omega
    · have hmi : (m : Int) < 128 := by omega
      have hm8 : (m : Int) % 256 = (m : Int) := by omega
      go_wp2_with (at_builtin; refine wpList_append_seg rfl _ _ 33 rfl 5 ib _ 1 1 Try.underlying33 hib hb0 hb1 hb2 rfl (by decide) oa D.length oc (bts D) rfl (HSG.out _) ⟨_, 0, none⟩ 1 1 [.int .u8 (m : Int)] rfl rfl (fun j u hu => by rw [Addr.add_mid, Nat.zero_add, World.cell?_alloc_new]; simpa using hu) (by simp [Value.oneCell']) (by unfold maxLen; omega) (by omega) ?_; intro ao' cap' w5 hs5 hf5 hx5; have HS5 := Lib.hid hs5; have HF5 := Lib.hid (((Fr.refl (blk oa) wr).alloc _).trans hf5 (Ext.refl _ _)); have HX5 := Lib.hid hx5; clear hs5 hf5 hx5)
      go_ret
      have hlen : (D ++ [m]).length = D.length + 1 := by simp
      have e : out ++ varN n = D ++ [m] := by rw [HDE.out, ← HD.out, varN_lt (by omega), List.append_assoc]
      rw [e]
      refine ⟨ao', cap', by rw [hlen]; rfl, by rw [hlen, bts_append]; exact HS5.out, HF.out.trans HF5.out HX.out, fun k hk => ?_⟩
      rcases HX5.out k hk with h | h
      · exact HX.out k h
      · have := HF.out.size; simp at h; exact .inr (by omega)

end Go.Proofs.Ytodfeaipoagphaa
/- Package rangecoder: the model inside a block, and the contracts of its methods. -/
namespace Go.Proofs.Ytodfeaipoagphaa
open Go.RowKit

theorem ret_int29 {k : IntKind} {a b : Int} (h : a = b) : Ending.returned (.int k a) = .returned (.int k b) := by rw [h]
theorem ret_bool29 {a b : Bool} (h : a = b) : Ending.returned (.bool a) = .returned (.bool b) := by rw [h]

def chV (l : List Nat) : List Value := l.map fun x : Nat => Value.int .i64 (x : Int)
def mdV (m : Md) : List Value := chV m.ch ++ [.int .u32 (m.lo : Int), .int .u32 (m.hi : Int)]
theorem chV_length (l : List Nat) : (chV l).length = l.length := by simp [chV]
theorem mdV_length (m : Md) : (mdV m).length = m.ch.length + 2 := by simp [mdV, chV]

/-- block p holds the model m, and behind it the cells X -/
def MdAt (w : World) (p : Nat) (T : TypeId) (m : Md) (X : List Value) : Prop := w.heap[p]? = some (.cells (mdV m ++ X).toArray T (0, 0)) ∧ m.ch.length = 256

section
variable {w : World} {p : Nat} {T : TypeId} {m : Md} {X : List Value}

theorem mdV_ch {m : Md} (hl : m.ch.length = 256) {c : Nat} (hc : c < 256) (X : List Value) : (mdV m ++ X)[c]? = some (.int .i64 (m.p c : Int)) := by
  rw [mdV, List.append_assoc, List.getElem?_append_left (by rw [chV_length]; omega), chV, List.getElem?_map, List.getElem?_eq_getElem (by omega)]
  simp [Md.p, List.getD_eq_getElem?_getD, show c < m.ch.length by omega]
theorem mdV_lo {m : Md} (hl : m.ch.length = 256) (X : List Value) : (mdV m ++ X)[256]? = some (.int .u32 (m.lo : Int)) := by
  rw [mdV, List.append_assoc, List.getElem?_append_right (by rw [chV_length]; omega), chV_length, hl]; simp
theorem mdV_hi {m : Md} (hl : m.ch.length = 256) (X : List Value) : (mdV m ++ X)[257]? = some (.int .u32 (m.hi : Int)) := by
  rw [mdV, List.append_assoc, List.getElem?_append_right (by rw [chV_length]; omega), chV_length, hl]; simp
theorem mdV_x {m : Md} (hl : m.ch.length = 256) (X : List Value) (j : Nat) : (mdV m ++ X)[258 + j]? = X[j]? := by
  rewrite [List.getElem?_append_right (by rewrite [mdV_length]; omega), mdV_length, hl, show 258 + j - (256 + 2) = j by omega]
  exact rfl
theorem MdAt.c (h : MdAt w p T m X) {c : Nat} (hc : c < 256) : w.cell? ⟨p, c, none⟩ = some (.int .i64 (m.p c : Int)) := by
  rw [cell_blk h.1, List.getElem?_toArray, mdV_ch h.2 hc]
theorem MdAt.clo (h : MdAt w p T m X) : w.cell? ⟨p, 256, none⟩ = some (.int .u32 (m.lo : Int)) := by rw [cell_blk h.1, List.getElem?_toArray, mdV_lo h.2]
theorem MdAt.chi (h : MdAt w p T m X) : w.cell? ⟨p, 257, none⟩ = some (.int .u32 (m.hi : Int)) := by rw [cell_blk h.1, List.getElem?_toArray, mdV_hi h.2]
theorem MdAt.cx (h : MdAt w p T m X) (j : Nat) : w.cell? ⟨p, 258 + j, none⟩ = X[j]? := by rw [cell_blk h.1, List.getElem?_toArray, mdV_x h.2]
theorem MdAt.fz (h : MdAt w p T m X) (i : Nat) : w.frozen? ⟨p, i, none⟩ = false := frozen_blk h.1 i
theorem MdAt.lt (h : MdAt w p T m X) : p < w.heap.size := lt_of_blk h.1
theorem MdAt.fr {w' : World} {S : List Nat} (h : MdAt w p T m X) (hf : Fr S w w') (hS : p ∉ S) : MdAt w' p T m X := ⟨hf.blk h.1 hS, h.2⟩
theorem MdAt.drewN (h : MdAt w p T m X) (n : Nat) : MdAt (w.drewN n) p T m X := h
theorem MdAt.setCh (h : MdAt w p T m X) {c : Nat} (hc : c < 256) (v : Nat) : MdAt (w.setCell ⟨p, c, none⟩ (.int .i64 (v : Int))) p T { m with ch := m.ch.set c v } X := by
  refine ⟨?_, by simp [h.2]⟩
  rw [setCell_blk h.1, List.setIfInBounds_toArray]
  congr 3
  simp only [mdV, List.append_assoc]
  rw [List.set_append_left _ _ (by rw [chV_length, h.2]; exact hc)]
  simp [chV, List.map_set]
theorem MdAt.setLo (h : MdAt w p T m X) (v : Nat) : MdAt (w.setCell ⟨p, 256, none⟩ (.int .u32 (v : Int))) p T { m with lo := v } X := by
  refine ⟨?_, h.2⟩
  rw [setCell_blk h.1, List.setIfInBounds_toArray]
  congr 3
  simp only [mdV, List.append_assoc]
  rw [List.set_append_right _ _ (by rw [chV_length, h.2]; omega), chV_length, h.2]
  simp
theorem MdAt.setHi (h : MdAt w p T m X) (v : Nat) : MdAt (w.setCell ⟨p, 257, none⟩ (.int .u32 (v : Int))) p T { m with hi := v } X := by
  refine ⟨?_, h.2⟩
  rw [setCell_blk h.1, List.setIfInBounds_toArray]
  congr 3
  simp only [mdV, List.append_assoc]
  rw [List.set_append_right _ _ (by rw [chV_length, h.2]; omega), chV_length, h.2]
  simp
theorem MdAt.setX (h : MdAt w p T m X) (j : Nat) (v : Value) : MdAt (w.setCell ⟨p, 258 + j, none⟩ v) p T m (X.set j v) := by
  refine ⟨?_, h.2⟩
  rw [setCell_blk h.1, List.setIfInBounds_toArray]
  congr 3
  rewrite [List.set_append_right _ _ (by rewrite [mdV_length, h.2]; omega), mdV_length, h.2, show 258 + j - (256 + 2) = j by omega]
  exact rfl

set_option maxHeartbeats 1000000 in
theorem middle_any (h : MdAt w p T m X) (hm : m.Rdy) (c : Nat) (hc : c < 256) :
    Calls Try.prog 52 #[.pointer (some ⟨p, 0, none⟩), .int .i64 c] w fun e w' => e = .returned (.int .u32 (m.mid c : Int)) ∧ ∃ n, w' = w.drewN n := by
  have c1 := h.c hc
  have c2 := h.clo
  have c3 := h.chi
  have h1 := hm.lt
  have h2 := hm.ok.hi
  have h3 := hm.ok.mid_bd hm.lt hc
  have h4 := hm.ok.p_bd hc
  have hmid : (m.mid c : Int) = (m.lo : Int) + ((m.hi : Int) - (m.lo : Int)) / 4096 * (m.p c : Int) := by
    unfold Md.mid
    rewrite [Int.natCast_add, Int.natCast_mul, Int.natCast_ediv, show ((m.hi - m.lo : Nat) : Int) = (m.hi : Int) - (m.lo : Int) by omega]
    exact rfl
  have hq : (0 : Int) ≤ ((m.hi : Int) - (m.lo : Int)) / 4096 * (m.p c : Int) ∧ ((m.hi : Int) - (m.lo : Int)) / 4096 * (m.p c : Int) ≤ (m.hi : Int) - (m.lo : Int) := by omega
  obtain ⟨q1, q2⟩ := hq
  have HM := Lib.hid hmid
  have hci : (c : Int) < 256 := by omega
  clear h hm hmid h3
  go_enter Try.func52, Try.ntmps52
  go_wp2
  go_quiet (fail)
  go_wp2
  go_ret
  exact ⟨ret_int29 (by rw [HM.out]), _, rfl⟩

/-- the model at p is m' now; nothing but block p has changed -/
def MdTo (w : World) (p : Nat) (T : TypeId) (m' : Md) (X : List Value) (w' : World) : Prop := MdAt w' p T m' X ∧ Fr [p] w w'

theorem narrow_to1 (h : MdAt w p T m X) (hm : m.Rdy) {c : Nat} (hc : c < 256) (n : Nat) :
    MdTo w p T (m.nar c true) X (((w.drewN n).setCell ⟨p, 257, none⟩ (.int .u32 (m.mid c : Int))).setCell ⟨p, c, none⟩ (.int .i64 ((m.p c : Int) + (4096 - (m.p c : Int)) / 16))) := by
  have h4 := hm.ok.p_bd hc
  have e : (m.p c : Int) + (4096 - (m.p c : Int)) / 16 = ((m.p c + (4096 - m.p c) / 16 : Nat) : Int) := by omega
  rw [e]
  exact ⟨((h.drewN n).setHi _).setCh hc _, (((Fr.refl [p] w).drewN n).setCell (.inl (by simp)) _).setCell (.inl (by simp)) _⟩
theorem narrow_to0 (h : MdAt w p T m X) (hm : m.Rdy) {c : Nat} (hc : c < 256) (n : Nat) :
    MdTo w p T (m.nar c false) X (((w.drewN n).setCell ⟨p, 256, none⟩ (.int .u32 ((m.mid c : Int) + 1))).setCell ⟨p, c, none⟩ (.int .i64 ((m.p c : Int) - (m.p c : Int) / 16))) := by
  have h4 := hm.ok.p_bd hc
  have e : (m.p c : Int) - (m.p c : Int) / 16 = ((m.p c - m.p c / 16 : Nat) : Int) := by omega
  have e2 : (m.mid c : Int) + 1 = ((m.mid c + 1 : Nat) : Int) := by omega
  rw [e, e2]
  exact ⟨((h.drewN n).setLo _).setCh hc _, (((Fr.refl [p] w).drewN n).setCell (.inl (by simp)) _).setCell (.inl (by simp)) _⟩

set_option maxHeartbeats 2000000 in
theorem narrow_one (h : MdAt w p T m X) (hm : m.Rdy) (c : Nat) (hc : c < 256) :
    Calls Try.prog 53 #[.pointer (some ⟨p, 0, none⟩), .int .i64 c, .int .i64 1] w fun e w' => e = .returned (.tuple #[]) ∧ MdTo w p T (m.nar c true) X w' := by
  have c1 := h.c hc
  have f1 := h.fz c
  have c3 := h.chi
  have f3 := h.fz 257
  have h4 := hm.ok.p_bd hc
  obtain ⟨p1, p2⟩ := h4
  have hci : (c : Int) < 256 := by omega
  have H := Lib.hid h
  have HM := Lib.hid hm
  have hne : c ≠ 257 := by omega
  clear h hm
  go_enter Try.func53, Try.ntmps53
  go_wp2
  go_quiet ((go_at_call 52; exact quiet1d (middle_any (H.out.drewN _) HM.out c hc)))
  go_wp2
  go_end0
  exact ⟨rfl, narrow_to1 H.out HM.out hc nq⟩

set_option maxHeartbeats 2000000 in
theorem narrow_zero (h : MdAt w p T m X) (hm : m.Rdy) (c : Nat) (hc : c < 256) :
    Calls Try.prog 53 #[.pointer (some ⟨p, 0, none⟩), .int .i64 c, .int .i64 0] w fun e w' => e = .returned (.tuple #[]) ∧ MdTo w p T (m.nar c false) X w' := by
  have c1 := h.c hc
  have f1 := h.fz c
  have c3 := h.clo
  have f3 := h.fz 256
  have h4 := hm.ok.p_bd hc
  obtain ⟨p1, p2⟩ := h4
  have hmid := (hm.ok.mid_bd hm.lt hc).2
  have hhi := hm.ok.hi
  have hci : (c : Int) < 256 := by omega
  have H := Lib.hid h
  have HM := Lib.hid hm
  have hne : c ≠ 256 := by omega
  clear h hm
  go_enter Try.func53, Try.ntmps53
  go_wp2
  go_quiet ((go_at_call 52; exact quiet1d (middle_any (H.out.drewN _) HM.out c hc)))
  go_wp2
  go_end0
  exact ⟨rfl, narrow_to0 H.out HM.out hc nq⟩

theorem narrow_any (h : MdAt w p T m X) (hm : m.Rdy) (c : Nat) (hc : c < 256) (b : Bool) {x : Int} (hx : x = if b then 1 else 0) :
    Calls Try.prog 53 #[.pointer (some ⟨p, 0, none⟩), .int .i64 c, .int .i64 x] w fun e w' => e = .returned (.tuple #[]) ∧ MdTo w p T (m.nar c b) X w' := by
  subst hx
  cases b with
  | true => exact narrow_one h hm c hc
  | false => exact narrow_zero h hm c hc

set_option maxHeartbeats 2000000 in
theorem shift_no (h : MdAt w p T m X) (hm : m.Ok) (hs : ¬ m.same) :
    Calls Try.prog 54 #[.pointer (some ⟨p, 0, none⟩)] w fun e w' => e = .returned (.tuple #[.int .u8 0, .bool false]) ∧ Fr [] w w' := by
  have c2 := h.clo
  have c3 := h.chi
  have hh := hm.hi
  have hl := hm.le
  have H := Lib.hid h
  have HS := Lib.hid hs
  have hne : ((m.lo : Int) / 16777216 != (m.hi : Int) / 16777216) = true := bne_iff_ne.2 (by unfold Md.same at hs; omega)
  clear h hs hm
  go_enter Try.func54, Try.ntmps54
  go_wp2
  go_quiet (fail)
  go_wp2
  go_ret2
  exact ⟨rfl, (Fr.refl _ _).drewN nq⟩

theorem shift_to (h : MdAt w p T m X) (hh : m.hi < 4294967296) (n : Nat) :
    MdTo w p T m.shf X (((w.drewN n).setCell ⟨p, 256, none⟩ (.int .u32 ((m.lo : Int) * 256 % 4294967296))).setCell ⟨p, 257, none⟩ (.int .u32 (bits BinOp.or IntKind.u32 ((m.hi : Int) * 256 % 4294967296) 255))) := by
  have e1 : (m.lo : Int) * 256 % 4294967296 = ((m.lo * 256 % 4294967296 : Nat) : Int) := by omega
  have e2 : bits BinOp.or IntKind.u32 ((m.hi : Int) * 256 % 4294967296) 255 = (((m.hi * 256 + 255) % 4294967296 : Nat) : Int) := by
    have a1 : (m.hi : Int) * 256 % 4294967296 = ((m.hi % 16777216 * 2 ^ 8 : Nat) : Int) := by omega
    have a2 : (255 : Int) = ((255 : Nat) : Int) := rfl
    rw [a1, a2, bits_or_u32 _ _ (by omega) (by omega), or_low _ _ 8 (by omega)]
    omega
  rw [e1, e2]
  exact ⟨((h.drewN n).setLo _).setHi _, (((Fr.refl [p] w).drewN n).setCell (.inl (by simp)) _).setCell (.inl (by simp)) _⟩

set_option maxHeartbeats 2000000 in
theorem shift_yes (h : MdAt w p T m X) (hm : m.Ok) (hs : m.same) :
    Calls Try.prog 54 #[.pointer (some ⟨p, 0, none⟩)] w fun e w' => e = .returned (.tuple #[.int .u8 ((m.lo / 16777216 : Nat) : Int), .bool true]) ∧ MdTo w p T m.shf X w' := by
  have c2 := h.clo
  have c3 := h.chi
  have f2 := h.fz 256
  have f3 := h.fz 257
  have hh := hm.hi
  have hl := hm.le
  have H := Lib.hid h
  have HS := Lib.hid hs
  have hne : ((m.lo : Int) / 16777216 != (m.hi : Int) / 16777216) = false := by
    have : (m.lo : Int) / 16777216 = (m.hi : Int) / 16777216 := by unfold Md.same at hs; omega
    rw [this]; simp
  clear h hs hm
  go_enter Try.func54, Try.ntmps54
  go_wp2
  go_quiet (fail)
  go_wp2
  go_ret2
  exact ⟨rfl, shift_to H.out hh nq⟩
end
end Go.Proofs.Ytodfeaipoagphaa
