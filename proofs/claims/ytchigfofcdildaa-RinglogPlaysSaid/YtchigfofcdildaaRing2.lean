/- Package ringlog: a memory with its ring; Push and Rewind. -/
import Derived.StillTailTactics
import Derived.Deep.DeepCutAuto
import Derived.Test.YtchigfofcdildaaRing
namespace Go.Proofs.Ytchigfofcdildaa
open Go.RowKit

theorem infoREntry : (Try.prog.info? 59).map (fun i => (i.zero, i.size, i.bytes)) = some (some (.agg #[.int .i64 0, .int .i64 0]), 2, 16) := by kernel_rfl

/-- a memory at p and a ring over it at r, made of the blocks F -/
def Both (w : World) (p r : Nat) (F : List Nat) (m : MemS) (R : RingS) : Prop :=
  ∃ Fm Fr, IsMem w p Fm m ∧ IsRing w r p Fr R ∧ (∀ k ∈ Fm, k ∉ Fr) ∧ F = Fm ++ Fr

def BothTo (w : World) (p r : Nat) (F : List Nat) (m' : MemS) (R' : RingS) (w' : World) : Prop := ∃ F', Both w' p r F' m' R' ∧ Fr F w w' ∧ Ext F w F'

section
variable {w : World} {p r : Nat} {F : List Nat} {m : MemS} {R : RingS}

theorem Both.lt (h : Both w p r F m R) : ∀ k ∈ F, k < w.heap.size := by
  obtain ⟨Fm, Fr, h1, h2, _, rfl⟩ := h
  intro k hk
  rcases List.mem_append.1 hk with hk | hk
  · exact h1.lt k hk
  · exact h2.lt k hk

theorem Both.fr {w' : World} {S : List Nat} (h : Both w p r F m R) (hf : Fr S w w') (hS : ∀ k ∈ F, k ∉ S) : Both w' p r F m R := by
  obtain ⟨Fm, Fr, h1, h2, hd, rfl⟩ := h
  exact ⟨Fm, Fr, h1.fr hf (fun k hk => hS k (by simp [hk])), h2.fr hf (fun k hk => hS k (by simp [hk])), hd, rfl⟩

theorem Both.to (h : Both w p r F m R) : BothTo w p r F m R w := ⟨F, h, Fr.refl _ _, Ext.refl _ _⟩
theorem Both.toFr {w' : World} (h : Both w p r F m R) (hf : Fr [] w w') : BothTo w p r F m R w' := ⟨F, h.fr hf (by simp), hf.mono (by simp), Ext.refl _ _⟩
theorem Both.drewN (h : Both w p r F m R) (n : Nat) : Both (w.drewN n) p r F m R := h.fr ((Fr.refl [] w).drewN n) (by simp)

/-- what is done to the memory alone -/
theorem Both.onMem {Fm Fr' : List Nat} {w' : World} {m' : MemS} (h2 : IsRing w r p Fr' R) (_hl : ∀ k ∈ Fm, k < w.heap.size) (hd : ∀ k ∈ Fm, k ∉ Fr') (hm : MemTo w p Fm m' w') : BothTo w p r (Fm ++ Fr') m' R w' := by
  obtain ⟨F', h1, hf, he⟩ := hm
  refine ⟨F' ++ Fr', ⟨F', Fr', h1, h2.fr hf (fun k hk hk2 => hd k hk2 hk), fun k hk hk2 => ?_, rfl⟩, hf.mono (fun k hk => by simp [hk]), fun k hk => ?_⟩
  · rcases he k hk with h3 | h3
    · exact hd k h3 hk2
    · have := h2.lt k hk2; omega
  · rcases List.mem_append.1 hk with hk | hk
    · rcases he k hk with h3 | h3
      · exact .inl (by simp [h3])
      · exact .inr h3
    · exact .inl (by simp [hk])

theorem push_neg (w : World) (r : Nat) (tick : Int) (h0 : tick < 0) :
    Calls Try.prog 12 #[.pointer (some ⟨r, 0, none⟩), .int .i64 tick] w fun e w' => e = .returned (.int .i64 6) ∧ w = w' := by
  go_enter Try.func12, Try.ntmps12
  go_wp2
  go_ret
  exact ⟨rfl, rfl⟩

theorem push_order {Fr' : List Nat} (h : IsRing w r p Fr' R) (tick : Int) (h0 : 0 ≤ tick) (h1 : 0 < R.ents.length) (h2 : (tick != R.newest + 1) = true) (h3 : -1 ≤ R.newest) (h4 : R.newest ≤ 1099511627776) :
    Calls Try.prog 12 #[.pointer (some ⟨r, 0, none⟩), .int .i64 tick] w fun e w' => e = .returned (.int .i64 5) ∧ ∃ n, w' = w.drewN n := by
  have hh := h
  obtain ⟨ea, ec, h⟩ := h
  have c2 := h.c2
  have hl : (0 : Int) < (R.ents.length : Int) := by omega
  clear h
  go_enter Try.func12, Try.ntmps12
  go_wp2_with (go_at_call 15; refine (newest_any hh).mono ?_; rintro e w' ⟨rfl, n, rfl⟩)
  go_ret
  exact ⟨rfl, _, rfl⟩

def RingS.add (R : RingS) (tick mark : Int) : RingS := { keep := R.keep, ents := R.ents ++ [(tick, mark)] }

/-- the ring's new entry has been stored -/
theorem add_to {Fr' : List Nat} {ea : Option Addr} {ec : Nat} (h : IsRingAt w r p Fr' R ea ec) (tick mark : Int) {w0 w1 : World} {ao' : Option Addr} {cap' : Nat} (hw0 : Fr [] w w0)
    (hs1 : Seg w1 59 2 ao' (R.ents.length + 1) cap' (pairs R.ents ++ [.int .i64 tick, .int .i64 mark])) (hfr1 : Fr (blk ea) w0 w1) (hext : Ext (blk ea) w0 (blk ao')) :
    ∃ F', IsRingAt (w1.setCell ⟨r, 2, none⟩ (.slice ao' (R.ents.length + 1) cap')) r p F' (R.add tick mark) ao' cap' ∧ Fr Fr' w (w1.setCell ⟨r, 2, none⟩ (.slice ao' (R.ents.length + 1) cap')) ∧ Ext Fr' w F' := by
  have hb := h.blocks
  have hr := lt_of_blk h.head
  have hw := hw0.size
  have hnew : ∀ i ∈ blk ao', i ∈ blk ea ∨ w.heap.size ≤ i := fun i hi => by rcases hext i hi with h1 | h1; exact .inl h1; exact .inr (by omega)
  have hra : r ∉ blk ao' := fun hi => by rcases hnew r hi with h1 | h1; exact h.re h1; omega
  have f1 : Fr Fr' w w1 := (hw0.mono (by simp)).trans hfr1 (fun i hi => .inl (by simp [hb, hi]))
  refine ⟨r :: blk ao', ⟨rfl, hra, ?_, ?_⟩, f1.setCell (.inl (by simp [hb])) _, fun i hi => ?_⟩
  · rw [setCell_blk (hfr1.blk (hw0.blk h.head (by simp)) h.re)]
    simp [RingS.add]
  · have h2 := Seg.setCell_other (p := ⟨r, 2, none⟩) (v := .slice ao' (R.ents.length + 1) cap') hs1 hra
    simpa [RingS.add, pairs] using h2
  · simp only [List.mem_cons] at hi
    rcases hi with rfl | hi
    · exact .inl (by simp [hb])
    · rcases hnew i hi with h1 | h1
      · exact .inl (by simp [hb, h1])
      · exact .inr h1

theorem Both.ofRing {Fm Fr' F' : List Nat} {w' : World} {R' : RingS} (hm : IsMem w p Fm m) (_hl : ∀ k ∈ Fr', k < w.heap.size) (hd : ∀ k ∈ Fm, k ∉ Fr') (h2 : IsRing w' r p F' R') (hf : Fr Fr' w w') (he : Ext Fr' w F') : BothTo w p r (Fm ++ Fr') m R' w' := by
  refine ⟨Fm ++ F', ⟨Fm, F', hm.fr hf hd, h2, fun k hk hk2 => ?_, rfl⟩, hf.mono (fun k hk => by simp [hk]), fun k hk => ?_⟩
  · rcases he k hk2 with h3 | h3
    · exact hd k hk h3
    · have := hm.lt k hk; omega
  · rcases List.mem_append.1 hk with hk | hk
    · exact .inl (by simp [hk])
    · rcases he k hk with h3 | h3
      · exact .inl (by simp [h3])
      · exact .inr h3

theorem over_to {Fm Fr' F' : List Nat} (hm : IsMem w p Fm m) (_hl : ∀ k ∈ Fr', k < w.heap.size) (hd : ∀ k ∈ Fm, k ∉ Fr') {R' : RingS} {wc w3 : World} {g' off' ec' n : Nat} {m'' : MemS}
    (q1 : IsRingAt wc r p F' R' (some ⟨g', off', none⟩) ec') (q2 : Fr Fr' w wc) (q3 : Ext Fr' w F') (hn : R'.ents.length = n + 1) (hn0 : 0 < n)
    (hm3 : MemTo ((wc.setCell ⟨r, 2, none⟩ (.slice (some ⟨g', off' + 2, none⟩) n n)).drewN 1) p Fm m'' w3) :
    BothTo w p r (Fm ++ Fr') m'' { keep := R'.keep, ents := R'.ents.drop 1 } w3 := by
  obtain ⟨Fm', m1, m2, m3⟩ := hm3
  have hb := q1.blocks
  have hre := q1.re
  simp only [blk, List.mem_singleton] at hre
  have hcap := q1.len.2.1
  have hrF : r ∈ F' := by simp [hb]
  have hFF : ∀ k ∈ Fm, k ∉ F' := fun k hk hk2 => by
    rcases q3 k hk2 with h1 | h1
    · exact hd k hk h1
    · have := hm.lt k hk; omega
  have hring : IsRing ((wc.setCell ⟨r, 2, none⟩ (.slice (some ⟨g', off' + 2, none⟩) n n)).drewN 1) r p F' { keep := R'.keep, ents := R'.ents.drop 1 } := by
    refine ⟨some ⟨g', off' + 2, none⟩, n, hb, by simpa [blk] using hre, ?_, ?_⟩
    · show (wc.setCell _ _).heap[r]? = _
      rw [setCell_blk q1.head]
      simp [hn]
    · have h1 := q1.ents.cutA (lo := 1) (hi := n + 1) (mx := n + 1) (by omega) (Nat.le_refl _) (by omega) (by omega)
      rw [cutA_ne (by omega), pairs_drop, show n + 1 - 1 = n by omega, Nat.one_mul, List.take_of_length_le (by rw [pairs_length, List.length_drop]; omega)] at h1
      have h2 := (Seg.setCell_other (p := ⟨r, 2, none⟩) (v := .slice (some ⟨g', off' + 2, none⟩) n n) h1 (by simpa [blk] using hre)).drewN 1
      have e : (R'.ents.drop 1).length = n := by rw [List.length_drop]; omega
      simpa only [e] using h2
  have f1 : Fr (Fm ++ Fr') w ((wc.setCell ⟨r, 2, none⟩ (.slice (some ⟨g', off' + 2, none⟩) n n)).drewN 1) :=
    ((q2.setCell (p := ⟨r, 2, none⟩) (q3 r hrF) _).drewN 1).mono (fun k hk => by simp [hk])
  have hs := f1.size
  refine ⟨Fm' ++ F', ⟨Fm', F', m1, hring.fr m2 (fun k hk hk2 => hFF k hk2 hk), fun k hk hk2 => ?_, rfl⟩, f1.trans m2 (fun k hk => .inl (by simp [hk])), fun k hk => ?_⟩
  · rcases m3 k hk with h3 | h3
    · exact hFF k h3 hk2
    · have := hring.lt k hk2; omega
  · rcases List.mem_append.1 hk with hk | hk
    · rcases m3 k hk with h3 | h3
      · exact .inl (by simp [h3])
      · exact .inr (by omega)
    · rcases q3 k hk with h3 | h3
      · exact .inl (by simp [h3])
      · exact .inr h3

/-- the ring has its new entry, in the world wc -/
def Added (w : World) (r p : Nat) (Fr' : List Nat) (R : RingS) (tick mark : Int) (wc : World) : Prop :=
  ∃ F', IsRing wc r p F' (R.add tick mark) ∧ Fr Fr' w wc ∧ Ext Fr' w F'

set_option maxHeartbeats 1000000 in
theorem push_fit {Fm Fr' : List Nat} (hm : IsMem w p Fm m) (h : IsRing w r p Fr' R) (hd : ∀ k ∈ Fm, k ∉ Fr') (tick : Int) (h0 : 0 ≤ tick) (h2 : 0 < R.ents.length → (tick != R.newest + 1) = false) (h3 : -1 ≤ R.newest) (h4 : R.newest ≤ 1099511627776)
    (hb : 0 ≤ m.base) (hml : m.base + m.log.length ≤ 1099511627776) (hel : R.ents.length < 1099511627776) (hk : (R.ents.length : Int) + 1 ≤ R.keep) :
    Calls Try.prog 12 #[.pointer (some ⟨r, 0, none⟩), .int .i64 tick] w fun e w' => e = .returned (.int .i64 0) ∧ BothTo w p r (Fm ++ Fr') m (R.add tick m.mark) w' := by
  have hh := h
  obtain ⟨ea, ec, h⟩ := h
  have c0 := h.c0
  have c1 := h.c1
  have c2 := h.c2
  have f2 := frozen_blk h.head 2
  have hr := lt_of_blk h.head
  have hre := h.re
  have hhead := h.head
  obtain ⟨i0, hi, hz0, hz1, hz2⟩ := info_parts infoREntry
  have c2a : ∀ k o, ((w.drewN k).alloc o).cell? ⟨r, 2, none⟩ = some (.slice ea R.ents.length ec) := fun k o => (cell_blk (alloc_old (w := w.drewN k) hhead) 2).trans rfl
  have H := Lib.hid h
  have HR := Lib.hid hh
  clear h
  by_cases hl : (0 : Int) < (R.ents.length : Int)
  · have h2' := h2 (by omega)
    clear h2
    go_enter Try.func12, Try.ntmps12
    go_upto_region 5 with (go_at_call 15; refine (newest_any hh).mono ?_; rintro e w' ⟨rfl, n, rfl⟩)
    go_cut [] (fun wc => Added w r p Fr' R tick m.mark wc)
    case first =>
      go_region_law (first | (refine step_append_seg rfl _ _ 55 rfl 59 i0 _ 2 16 Try.underlying55 hi hz0 hz1 hz2 rfl (by decide) ea R.ents.length ec (pairs R.ents) rfl ((H.out.ents.drewN _).alloc _) ⟨w.heap.size, 0, none⟩ 1 1 [.int .i64 tick, .int .i64 m.mark] rfl rfl (new_two (w.drewN _) _ _ _) (by simp [Value.oneCell']) (by unfold maxLen; omega) (by omega) ?_; intro ao' cap' w1 hs1 hfr1 hext1; have hd1 := hfr1.blk (alloc_old (w := w.drewN _) hhead) hre; have k2 := cell_blk hd1 2; simp at k2; have k1 := cell_blk hd1 1; simp at k1; have e2 := frozen_blk hd1 2) | (go_simp; go_at_call 31; refine (mark_any (hm.drewN _) hb (by omega)).mono ?_; rintro e w' ⟨rfl, n2, rfl⟩))
      all_goals
        go_wp2_with fail
        go_meet
        obtain ⟨F', q1, q2, q3⟩ := add_to H.out tick m.mark (((Fr.refl [] w).drewN _).alloc _) hs1 hfr1 hext1
        exact ⟨F', ⟨_, _, q1⟩, q2, q3⟩
    case rest =>
      clear c2a c0 c1 c2 f2 hhead i0 hi hz0 hz1 hz2
      obtain ⟨F', hq, q2, q3⟩ := hcut
      obtain ⟨ea', ec', q1⟩ := hq
      have d1 : wc.cell? ⟨r, 1, none⟩ = some (.int .i64 R.keep) := q1.c1
      have d2 : wc.cell? ⟨r, 2, none⟩ = some (.slice ea' (R.ents.length + 1) ec') := by have := q1.c2; simpa [RingS.add] using this
      go_wp2
      go_ret
      exact ⟨rfl, Both.ofRing hm HR.out.lt hd ⟨_, _, q1⟩ q2 q3⟩
  · clear h2
    go_enter Try.func12, Try.ntmps12
    go_upto_region 5 with (fail)
    go_cut [] (fun wc => Added w r p Fr' R tick m.mark wc)
    case first =>
      go_region_law (first | (refine step_append_seg rfl _ _ 55 rfl 59 i0 _ 2 16 Try.underlying55 hi hz0 hz1 hz2 rfl (by decide) ea R.ents.length ec (pairs R.ents) rfl ((H.out.ents.drewN _).alloc _) ⟨w.heap.size, 0, none⟩ 1 1 [.int .i64 tick, .int .i64 m.mark] rfl rfl (new_two (w.drewN _) _ _ _) (by simp [Value.oneCell']) (by unfold maxLen; omega) (by omega) ?_; intro ao' cap' w1 hs1 hfr1 hext1; have hd1 := hfr1.blk (alloc_old (w := w.drewN _) hhead) hre; have k2 := cell_blk hd1 2; simp at k2; have k1 := cell_blk hd1 1; simp at k1; have e2 := frozen_blk hd1 2) | (go_simp; go_at_call 31; refine (mark_any (hm.drewN _) hb (by omega)).mono ?_; rintro e w' ⟨rfl, n2, rfl⟩))
      all_goals
        go_wp2_with fail
        go_meet
        obtain ⟨F', q1, q2, q3⟩ := add_to H.out tick m.mark (((Fr.refl [] w).drewN _).alloc _) hs1 hfr1 hext1
        exact ⟨F', ⟨_, _, q1⟩, q2, q3⟩
    case rest =>
      clear c2a c0 c1 c2 f2 hhead i0 hi hz0 hz1 hz2
      obtain ⟨F', hq, q2, q3⟩ := hcut
      obtain ⟨ea', ec', q1⟩ := hq
      have d1 : wc.cell? ⟨r, 1, none⟩ = some (.int .i64 R.keep) := q1.c1
      have d2 : wc.cell? ⟨r, 2, none⟩ = some (.slice ea' (R.ents.length + 1) ec') := by have := q1.c2; simpa [RingS.add] using this
      go_wp2
      go_ret
      exact ⟨rfl, Both.ofRing hm HR.out.lt hd ⟨_, _, q1⟩ q2 q3⟩

set_option maxHeartbeats 1000000 in
theorem push_over {Fm Fr' : List Nat} (hm : IsMem w p Fm m) (h : IsRing w r p Fr' R) (hd : ∀ k ∈ Fm, k ∉ Fr') (tick : Int) (h0 : 0 ≤ tick) (h2' : (tick != R.newest + 1) = false) (h3 : -1 ≤ R.newest) (h4 : R.newest ≤ 1099511627776)
    (hb : 0 ≤ m.base) (hml : m.base + m.log.length ≤ 1099511627776) (hel : R.ents.length < 1099511627776) (hl : (0 : Int) < (R.ents.length : Int)) (hk : R.keep < (R.ents.length : Int) + 1)
    {tx x : Int} (hx : (R.ents ++ [(tick, m.mark)])[1]? = some (tx, x)) (hx1 : m.base ≤ x) (hx2 : x ≤ m.base + m.log.length) :
    Calls Try.prog 12 #[.pointer (some ⟨r, 0, none⟩), .int .i64 tick] w fun e w' => e = .returned (.int .i64 0) ∧ BothTo w p r (Fm ++ Fr') (m.disc x) { keep := R.keep, ents := (R.ents ++ [(tick, m.mark)]).drop 1 } w' := by
  have hh := h
  obtain ⟨ea, ec, h⟩ := h
  have c0 := h.c0
  have c1 := h.c1
  have c2 := h.c2
  have f2 := frozen_blk h.head 2
  have hr := lt_of_blk h.head
  have hre := h.re
  have hhead := h.head
  obtain ⟨i0, hi, hz0, hz1, hz2⟩ := info_parts infoREntry
  have c2a : ∀ k o, ((w.drewN k).alloc o).cell? ⟨r, 2, none⟩ = some (.slice ea R.ents.length ec) := fun k o => (cell_blk (alloc_old (w := w.drewN k) hhead) 2).trans rfl
  have H := Lib.hid h
  have HR := Lib.hid hh
  clear h
  have HX := Lib.hid hx
  clear hx
  go_enter Try.func12, Try.ntmps12
  go_upto_region 5 with (go_at_call 15; refine (newest_any hh).mono ?_; rintro e w' ⟨rfl, n, rfl⟩)
  go_cut [] (fun wc => Added w r p Fr' R tick m.mark wc)
  case first =>
    go_region_law (first | (refine step_append_seg rfl _ _ 55 rfl 59 i0 _ 2 16 Try.underlying55 hi hz0 hz1 hz2 rfl (by decide) ea R.ents.length ec (pairs R.ents) rfl ((H.out.ents.drewN _).alloc _) ⟨w.heap.size, 0, none⟩ 1 1 [.int .i64 tick, .int .i64 m.mark] rfl rfl (new_two (w.drewN _) _ _ _) (by simp [Value.oneCell']) (by unfold maxLen; omega) (by omega) ?_; intro ao' cap' w1 hs1 hfr1 hext1; have hd1 := hfr1.blk (alloc_old (w := w.drewN _) hhead) hre; have k2 := cell_blk hd1 2; simp at k2; have k1 := cell_blk hd1 1; simp at k1; have e2 := frozen_blk hd1 2) | (go_simp; go_at_call 31; refine (mark_any (hm.drewN _) hb (by omega)).mono ?_; rintro e w' ⟨rfl, n2, rfl⟩))
    all_goals
      go_wp2_with fail
      go_meet
      obtain ⟨F', q1, q2, q3⟩ := add_to H.out tick m.mark (((Fr.refl [] w).drewN _).alloc _) hs1 hfr1 hext1
      exact ⟨F', ⟨_, _, q1⟩, q2, q3⟩
  case rest =>
    clear c2a c0 c1 c2 f2 hhead i0 hi hz0 hz1 hz2
    obtain ⟨F', hq, q2, q3⟩ := hcut
    obtain ⟨ea', ec', q1⟩ := hq
    have d1 : wc.cell? ⟨r, 1, none⟩ = some (.int .i64 R.keep) := q1.c1
    have d2 : wc.cell? ⟨r, 2, none⟩ = some (.slice ea' (R.ents.length + 1) ec') := by have := q1.c2; simpa [RingS.add] using this
    have d0 : wc.cell? ⟨r, 0, none⟩ = some (.pointer (some ⟨p, 0, none⟩)) := q1.c0
    have e2 := frozen_blk q1.head 2
    have hln : (R.add tick m.mark).ents.length = R.ents.length + 1 := by simp [RingS.add]
    have hlt1 : 1 < (R.add tick m.mark).ents.length := by omega
    obtain ⟨g', off', rfl⟩ := q1.ents.somewhere (by omega)
    have hre' := q1.re
    simp only [blk, List.mem_singleton] at hre'
    have hcap := q1.len.2.1
    rw [hln] at hcap
    have hsl : ∀ u, (Instr.slice 55 (.slice (some ⟨g', off', none⟩) (R.ents.length + 1) ec') (some (.int .i64 1)) (some (.int .i64 ((R.ents.length : Int) + 1))) (some (.int .i64 ((R.ents.length : Int) + 1)))).run Try.prog u =
        .ok (.slice (some ⟨g', off' + 2, none⟩) R.ents.length R.ents.length) u := fun u => by
      have := run_slice_three (P := Try.prog) 55 59 Try.underlying55 2 (by kernel_rfl) (some ⟨g', off', none⟩) (R.ents.length + 1) ec' 1 (R.ents.length + 1) (R.ents.length + 1) 1 ((R.ents.length : Int) + 1) ((R.ents.length : Int) + 1) rfl (by omega) (by omega) (by omega) (Nat.le_refl _) hcap u
      rw [this, cutA_ne (by omega)]
      simp
    have hxe : (R.add tick m.mark).ents[1] = (tx, x) := by
      have := HX.out
      exact (List.getElem?_eq_some_iff.1 this).2
    have cx : wc.cell? ⟨g', off' + 2 + 1, none⟩ = some (.int .i64 x) := by
      have := (q1.ents.pair hlt1).2
      rw [hxe] at this
      simpa using this
    have hmw : IsMem wc p Fm m := hm.fr q2 hd
    have hm2 := hmw.fr ((Fr.refl [r] wc).setCell (p := ⟨r, 2, none⟩) (.inl (by simp)) (.slice (some ⟨g', off' + 2, none⟩) R.ents.length R.ents.length)) (fun k hk hk2 => by simp at hk2; subst hk2; exact hd _ hk (by simp [H.out.blocks]))
    have Q1 := Lib.hid q1
    have HLN := Lib.hid hln
    have HM2 := Lib.hid hm2
    clear q1 hln hlt1 hxe hmw hm2
    go_wp2
    refine wp_still_tail 11 (by kernel_rfl) (by kernel_rfl) ?_
    simp only [List.take_succ_cons, List.take_zero, List.drop_succ_cons, List.drop_zero]
    repeat still_step
    refine wpStill_nil ?_
    go_wp2_with (go_at_call 32; refine (disc_mark (HM2.out.drewN 1) x hb hml hx1 hx2).mono ?_; rintro e w3 ⟨rfl, hm3⟩)
    go_ret
    exact ⟨rfl, over_to hm HR.out.lt hd Q1.out q2 q3 HLN.out (by omega) hm3⟩
end
end Go.Proofs.Ytchigfofcdildaa
