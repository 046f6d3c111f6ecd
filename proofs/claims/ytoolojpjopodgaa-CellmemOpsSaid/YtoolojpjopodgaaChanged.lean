/- Package cellmem: the contract of Changed. -/
import Derived.Deep.DeepCutAuto
import Derived.Laws.StructEq
import Derived.IntWalk
import Derived.Test.YtoolojpjopodgaaClone
import Derived.Test.YtoolojpjopodgaaRound
namespace Go.Proofs.Ytoolojpjopodgaa
open Go.RowKit

theorem infoIntC : (Try.prog.info? 3).map (fun i => (i.zero, i.size, i.bytes)) = some (some (.int .i64 0), 1, 8) := by kernel_rfl

/-- the loop that takes each cell once: sv the slice, iv the counter, bl the block of 'last' -/
def ChInv (w1 : World) (bl : Nat) (t : List (Int × Int)) (sv iv : Value) (wr : World) : Prop :=
  ∃ (i : Nat) (oa : Option Addr) (oc : Nat), i ≤ t.length ∧ iv = .int .i64 (i : Int) ∧ sv = .slice oa (chgF ((t.take i).map (·.1))).length oc ∧
    Seg wr 3 1 oa (chgF ((t.take i).map (·.1))).length oc (ints (chgF ((t.take i).map (·.1)))) ∧ (∀ k ∈ blk oa, bl < k) ∧
    wr.heap[bl]? = some (.cells #[.int .i64 ((chgF ((t.take i).map (·.1))).getLastD (-1)), .int .i64 0] 68 (0, 0)) ∧ Fr [bl] w1 wr

def ChgTo (w : World) (p : Nat) (F : List Nat) (s : MemS) (l : List Int) (e : Ending) (w' : World) : Prop :=
  ∃ ao cap, e = .returned (.tuple #[.slice ao l.length cap, .int .i64 0]) ∧ Seg w' 3 1 ao l.length cap (ints l) ∧ Fr [] w w' ∧ ∀ k ∈ blk ao, w.heap.size ≤ k

theorem ne_entry (u : World) (a b c d : Int) : (binOp .neq 68 (.agg #[.int .i64 a, .int .i64 b]) (.agg #[.int .i64 c, .int .i64 d])).run Try.prog u = .ok (.bool (!((a == c) && (b == d)))) u := by
  have hf : Try.prog.underlying 68 = some (.struct (Try.prog.fieldsOf 68)) := by unfold Program.fieldsOf; rw [Try.underlying68]
  have hp : Try.prog.stoodInHeld 68 = false := by kernel_rfl
  rw [run_neq_struct, run_equalIn_struct u _ _ _ _ hf hp]
  simp only [Program.fieldsOf, Try.underlying68]
  cases h1 : (a == c) <;> cases h2 : (b == d) <;> simp [Op.eqFields, part, run_equalIn_int u _ _ _ _ _ _ Try.underlying3, h1, h2]

set_option maxRecDepth 100000 in
set_option maxHeartbeats 4000000 in
theorem changed_ok {w : World} {p : Nat} {F : List Nat} {s : MemS} (h : IsMem w p F s) (k : Nat) (hk : k ≤ s.log.length) (hok : s.ok) (hb : 0 ≤ s.base) (hm : s.base + s.log.length ≤ 1099511627776) :
    Calls Try.prog 22 #[.pointer (some ⟨p, 0, none⟩), .int .i64 (s.base + k)] w (ChgTo w p F s (s.chg (s.base + k))) := by
  have hh := h
  obtain ⟨ca, cc, la, lc, h⟩ := h
  have c1 := h.c1
  have c2 := h.c2
  have hp := lt_of_blk h.head
  have hck : s.check (s.base + k) = 0 := by rw [MemS.check, if_neg (by omega), if_neg (by omega)]
  have hlc := h.log.2.2.1
  have hlm := h.log.2.1
  unfold maxLen at hlm
  have hsub : s.base + (k : Int) - s.base = k := by omega
  have hwk : IntKind.i64.wrap (k : Int) = k := IntWalk.i64_in _ (by omega)
  have hcut := h.log.cutA (lo := k) (hi := s.log.length) (mx := lc) hk hlc (Nat.le_refl _) (Nat.le_refl _)
  rw [pairs_drop, List.take_of_length_le (by rw [pairs_length, List.length_drop]; omega)] at hcut
  have hsl := run_slice_from (P := Try.prog) 63 68 Try.underlying63 2 (by kernel_rfl) la s.log.length lc k hk
  obtain ⟨ln, hln⟩ : ∃ ln, cutA la k lc 2 = ln := ⟨_, rfl⟩
  rw [hln] at hsl hcut
  obtain ⟨t, ht⟩ : ∃ t, t = s.log.drop k := ⟨_, rfl⟩
  have hlen : s.log.length - k = t.length := by rw [ht, List.length_drop]
  rw [hlen] at hsl hcut
  rw [← ht] at hcut
  have htl : t.length ≤ 1099511627776 := by omega
  have HC := Lib.hid hcut
  have HT := Lib.hid ht
  have HH := Lib.hid hh
  have HO := Lib.hid hok
  clear h hcut hln hlen ht hh hok
  obtain ⟨ii, hii, hii0, hii1, hii2⟩ := info_parts infoIntC
  go_enter Try.func22, Try.ntmps22
  go_wp2_with fail
  refine (check_any HH.out _ hb (by omega)).mono ?_
  rw [hck]
  rintro e w1 ⟨rfl, nd, rfl⟩
  go_wp2_with fail
  refine wp_still_tail 11 (by kernel_rfl) (by kernel_rfl) ?_
  simp only [List.take_succ_cons, List.take_zero, List.drop_succ_cons, List.drop_zero]
  repeat still_step
  refine wpStill_nil ?_
  go_wp2_with fail
  refine (clone_any _ ln (lc - k) t (HC.out.drewN (nd + 1)) htl).mono ?_
  rintro e w2 ⟨bo, bc, rfl, hs2, hf2, hn2⟩
  have F2 := Lib.hid (show Fr [] w w2 from ⟨hf2.os, hf2.tape, hf2.output, hf2.size, hf2.block⟩)
  have S2 := Lib.hid hs2
  have N2 := Lib.hid (show ∀ k ∈ blk bo, w.heap.size ≤ k from hn2)
  clear hs2 hf2 hn2 hsl c1 c2
  go_wp2_with fail
  refine (sort_any _ bo bc t S2.out htl).mono ?_
  rintro e w3 ⟨rfl, t', hp, hs, hs3, hf3⟩
  have F3 := Lib.hid (F2.out.trans hf3 (fun k hk => .inr (N2.out k hk)))
  have S3 := Lib.hid hs3
  have HP := Lib.hid hp
  have HSO := Lib.hid hs
  have hl : t.length = t'.length := hp.length_eq.symm
  rw [hl]
  have htl' : t'.length ≤ 1099511627776 := by omega
  clear hp hs hs3 hf3 hl
  go_wp2_with fail
  go_loopw [8, 35] (fun sv iv wr => ChInv (w3.alloc (.cells #[.int .i64 (-1), .int .i64 0] 68)) w3.heap.size t' sv iv wr) (fun _ iv _ => t'.length - (intOf iv).toNat)
  case atStart =>
    have hal := alloc_new w3 (.cells #[.int .i64 (-1), .int .i64 0] 68)
    exact ⟨0, none, 0, by omega, rfl, rfl, Seg.nil _ _ _, by simp [blk], hal, Fr.refl _ _⟩
  case round =>
    obtain ⟨i, oa, oc, hi, rfl, rfl, hseg, hbl, hlast, hfr⟩ := hrel
    obtain ⟨cs, hcs⟩ : ∃ cs, cs = chgF ((t'.take i).map (·.1)) := ⟨_, rfl⟩
    have hcl : cs.length ≤ t'.length := by have h1 := chgF_len ((t'.take i).map (·.1)); rw [← hcs, List.length_map, List.length_take] at h1; omega
    have HCS := Lib.hid hcs
    rw [← hcs] at hseg hlast ⊢
    obtain ⟨lv, hlv⟩ : ∃ lv, lv = cs.getLastD (-1) := ⟨_, rfl⟩
    have HLV := Lib.hid hlv
    rw [← hlv] at hlast
    by_cases hlt : i < t'.length
    · have hseg3 : Seg wr 68 2 bo t'.length bc (pairs t') := (S3.out.alloc _).fr hfr (fun k hk => by have := S3.out.lt k hk; simp; omega)
      obtain ⟨g, off, rfl⟩ := hseg3.somewhere (by omega)
      obtain ⟨p0, p1⟩ := hseg3.pair hlt
      have e0 : wr.cell? ⟨w3.heap.size, 0, none⟩ = some (.int .i64 lv) := cell_blk hlast 0
      have e1 : wr.cell? ⟨w3.heap.size, 1, none⟩ = some (.int .i64 0) := cell_blk hlast 1
      have g0 : wr.frozen? ⟨w3.heap.size, 0, none⟩ = false := frozen_blk hlast 0
      have g1 : wr.frozen? ⟨w3.heap.size, 1, none⟩ = false := frozen_blk hlast 1
      have hlw : w3.heap.size < wr.heap.size := lt_of_blk hlast
      obtain ⟨x, hx⟩ : ∃ x, x = t'[i].1 := ⟨_, rfl⟩
      obtain ⟨y, hy⟩ : ∃ y, y = t'[i].2 := ⟨_, rfl⟩
      rw [← hx] at p0
      rw [← hy] at p1
      have HX := Lib.hid hx
      have HS := Lib.hid hseg
      have HB := Lib.hid hbl
      have HL := Lib.hid hlast
      have HF := Lib.hid hfr
      have H3 := Lib.hid hseg3
      have hne := fun u => ne_entry u x 0 lv 0
      clear hcs hlv hseg hbl hlast hfr hseg3 hx hy
      by_cases hxl : x = lv
      · have hne2 : ∀ u, (binOp .neq 68 (.agg #[.int .i64 x, .int .i64 0]) (.agg #[.int .i64 lv, .int .i64 0])).run Try.prog u = .ok (.bool false) u := fun u => by rw [hne, hxl]; simp
        have HXL := Lib.hid hxl
        clear hne hxl
        go_wp2_with fail
        go_roundw
        case rel =>
          have hstep : chgF ((t'.take (i + 1)).map (·.1)) = cs := by
            rw [List.take_succ_eq_append_getElem hlt, List.map_append, List.map_singleton, chgF_snoc, ← HCS.out, ← HX.out, chgStep, if_pos (by rw [← HLV.out]; exact HXL.out)]
          refine ⟨i + 1, oa, oc, by omega, by go_num, by rw [hstep], ?_, HB.out, ?_, HF.out.alloc _⟩
          · rw [hstep]; exact HS.out.alloc _
          · rw [hstep, ← HLV.out]; exact alloc_old HL.out
        case measure => simp [intOf]; omega
      · have hne2 : ∀ u, (binOp .neq 68 (.agg #[.int .i64 x, .int .i64 0]) (.agg #[.int .i64 lv, .int .i64 0])).run Try.prog u = .ok (.bool true) u := fun u => by rw [hne]; simp [hxl]
        have HXL := Lib.hid hxl
        have HSA := Lib.hid fun (o o' : Obj) => (HS.out.alloc o).alloc o'
        have HNE := Lib.hid (fun (o : Obj) (v : Value) j u hu => by
          rw [show wr.heap.size + 1 = (wr.alloc o).heap.size by simp, Addr.add_mid, Nat.zero_add, World.cell?_alloc_new]; simpa using hu : ∀ (o : Obj) v j u, [v][j]? = some u → ((wr.alloc o).alloc (.cells #[v] 3)).cell? ((⟨wr.heap.size + 1, 0, none⟩ : Addr).add j) = some u)
        have HBE := Lib.hid (fun (o : Obj) => alloc_old (o' := o) (alloc_new wr (.cells #[.int .i64 x, .int .i64 0] 68)))
        have HBL := Lib.hid (fun (o o' : Obj) => alloc_old (o' := o') (alloc_old (o' := o) HL.out))
        clear hne hxl
        go_wp2_with (at_builtin; refine wpList_append_seg rfl _ _ 22 rfl 3 ii _ 1 8 Try.underlying22 hii hii0 hii1 hii2 rfl (by decide) oa cs.length oc (ints cs) rfl (HSA.out _ _) ⟨_, 0, none⟩ 1 1 [_] rfl rfl (HNE.out _ _) (by simp [Value.oneCell']) (by unfold maxLen; omega) (by omega) ?_; intro ao' cap' w5 hs5 hf5 hx5; have be := hf5.blk (HBE.out _) (fun hk => by have := HS.out.lt _ hk; omega); have bl := hf5.blk (HBL.out _ _) (fun hk => by have := HB.out _ hk; omega); have z0 : w5.cell? ⟨wr.heap.size, 0, none⟩ = some (.int .i64 x) := cell_blk be 0; have z1 : w5.cell? ⟨wr.heap.size, 1, none⟩ = some (.int .i64 0) := cell_blk be 1; have y0 : w5.cell? ⟨w3.heap.size, 0, none⟩ = some (.int .i64 lv) := cell_blk bl 0; have y1 : w5.cell? ⟨w3.heap.size, 1, none⟩ = some (.int .i64 0) := cell_blk bl 1; have y0f : w5.frozen? ⟨w3.heap.size, 0, none⟩ = false := frozen_blk bl 0; have y1f : w5.frozen? ⟨w3.heap.size, 1, none⟩ = false := frozen_blk bl 1; have BL := Lib.hid bl; have HF5 := Lib.hid ((((Fr.refl (blk oa) wr).alloc _).alloc _).trans hf5 (Ext.refl _ _)); have HX5 := Lib.hid hx5; have HS5 := Lib.hid hs5; clear hs5 hf5 hx5 be bl)
        go_roundw
        case rel =>
          have hstep : chgF ((t'.take (i + 1)).map (·.1)) = cs ++ [x] := by
            rw [List.take_succ_eq_append_getElem hlt, List.map_append, List.map_singleton, chgF_snoc, ← HCS.out, ← HX.out, chgStep, if_neg (by rw [← HLV.out]; exact HXL.out)]
          have hws : w3.heap.size < w5.heap.size := lt_of_blk BL.out
          have ha3 : ∀ k ∈ blk ao', w3.heap.size < k := fun k hk => by
            rcases HX5.out k hk with h | h
            · exact HB.out k h
            · simp at h; omega
          have hnb : w3.heap.size ∉ blk ao' := fun hm => by have := ha3 _ hm; omega
          have F5 : Fr [w3.heap.size] (w3.alloc (.cells #[.int .i64 (-1), .int .i64 0] 68)) w5 := HF.out.trans HF5.out (fun k hk => .inr (by have := HB.out k hk; simp; omega))
          refine ⟨i + 1, ao', cap', by omega, by go_num, by rw [hstep]; simp, ?_, ha3, ?_, (F5.setCell (.inl (by simp)) _).setCell (.inl (by simp)) _⟩
          · rw [hstep, ints_append]
            have h := (HS5.out.setCell_other (p := ⟨w3.heap.size, 0, none⟩) (v := .int .i64 x) hnb).setCell_other (p := ⟨w3.heap.size, 1, none⟩) (v := .int .i64 0) hnb
            simpa [ints] using h
          · rw [hstep]
            have h := setCell_blk (setCell_blk BL.out 0 (.int .i64 x)) 1 (.int .i64 0)
            simpa using h
        case measure => simp [intOf]; omega
    · have hit : i = t'.length := by omega
      have HIT := Lib.hid hit
      have HS := Lib.hid hseg
      have HB := Lib.hid hbl
      have HF := Lib.hid hfr
      clear hcs hlv hseg hbl hlast hfr hit
      go_wp2_with fail
      go_ret2
      have hfin : cs = s.chg (s.base + k) := by
        rw [HCS.out, HIT.out, List.take_length]
        refine MemS.chg_of HO.out (s.base + k) t' ?_ HSO.out
        rw [hsub, Int.toNat_natCast, ← HT.out]
        exact HP.out
      rw [← hfin]
      refine ⟨oa, oc, rfl, HS.out, (F3.out.alloc _).trans HF.out (fun k hk => .inr (by simp at hk; have := F3.out.size; omega)), fun k hk => ?_⟩
      have := HB.out k hk
      have := F3.out.size
      omega
end Go.Proofs.Ytoolojpjopodgaa
