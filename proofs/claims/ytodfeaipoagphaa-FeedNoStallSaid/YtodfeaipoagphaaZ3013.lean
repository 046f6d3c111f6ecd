/- Acts30 (merged by merge.py). -/
import Derived.Test.YtodfeaipoagphaaZ3012
import Derived.Test.YtodfeaipoagphaaZ307
import Derived.Deep.DeepCutAuto
import Derived.Deep.RegionLaw
/- arenanetref30.Acts: the steps of a stream. -/
namespace Go.Proofs.Ytodfeaipoagphaa
open Go.RowKit

/-- a step with the slice of its view -/
structure AC where
  t : Nat
  v : List (Int × Int)
  f : Int
  k : Int
  vo : Option Addr
  vc : Nat
def AC.cells (a : AC) : List Value := [.int .i64 (a.t : Int), .slice a.vo a.v.length a.vc, .int .i64 a.f, .int .i64 a.k]
structure AC.Ok (a : AC) (T : Int) : Prop where
  t : (a.t : Int) ≤ T
  v : IsView a.v
  l : a.v.length ≤ 12
  f0 : 0 ≤ a.f
  f2 : a.f ≤ 2
  k0 : -5 ≤ a.k
  k1 : a.k ≤ (a.t : Int)
def ActsOk (T : Int) (lz : List AC) : Prop := lz.Pairwise (fun a b => a.t < b.t) ∧ ∀ a ∈ lz, a.Ok T
/-- the steps lie there -/
structure ActsAt (w : World) (oo : Option Addr) (oc : Nat) (lz : List AC) : Prop where
  seg : Seg w 32 4 oo lz.length oc (lz.flatMap AC.cells)
  views : ∀ a ∈ lz, Seg w 48 2 a.vo a.v.length a.vc (a.v.flatMap clV)
theorem ActsAt.fr {w w' : World} {S : List Nat} {oo : Option Addr} {oc : Nat} {lz : List AC} (h : ActsAt w oo oc lz) (hf : Fr S w w') (h1 : ∀ k ∈ blk oo, k ∉ S) (h2 : ∀ a ∈ lz, ∀ k ∈ blk a.vo, k ∉ S) : ActsAt w' oo oc lz :=
  ⟨h.seg.fr hf h1, fun a ha => (h.views a ha).fr hf (h2 a ha)⟩
theorem Seg.disj {w : World} {e e' : TypeId} {s s' : Nat} {ao bo : Option Addr} {n c n' c' : Nat} {xs ys : List Value} (h : Seg w e s ao n c xs) (k : Seg w e' s' bo n' c' ys) (hne : e ≠ e') : ∀ q ∈ blk ao, q ∉ blk bo := by
  intro q hq hb
  rcases k.2.2.2 with ⟨rfl, _⟩ | ⟨g, off, cur, rfl, hg, _⟩
  · simp [blk] at hb
  · simp [blk] at hb; subst hb
    exact h.ne_type hg hne hq
theorem fr_alloc {a u : World} {o : Obj} (h : u = a.alloc o) : Fr [] a u := h ▸ (Fr.refl [] a).alloc o
theorem blk_alloc {a u : World} {o : Obj} {b : Nat} (h : u = a.alloc o) (hb : b = a.heap.size) : u.heap[b]? = some o := by rw [h, hb]; exact alloc_new _ _
theorem infoAct : (Try.prog.info? 32).map (fun i => (i.zero, i.size, i.bytes)) = some (some (.agg #[.int .i64 0, .slice none 0 0, .int .i64 0, .int .i64 0]), 4, 48) := by kernel_rfl
theorem infoActS : (Try.prog.info? 32).map (·.size) = some 4 := by kernel_rfl
theorem infoInt30 : (Try.prog.info? 3).map (fun i => (i.zero, i.size, i.bytes)) = some (some (.int .i64 0), 1, 8) := by kernel_rfl
theorem new_arr (w : World) (c : Array Value) (t : TypeId) : ∀ j u, c.toList[j]? = some u → (w.alloc (.cells c t)).cell? ((⟨w.heap.size, 0, none⟩ : Addr).add j) = some u := by
  intro j u hu
  rw [Addr.add_mid, Nat.zero_add, World.cell?_alloc_new]
  rw [← Array.getElem?_toList]; exact hu

def ActsInv (w : World) (l : List Int) (ov tv nv iv : Value) (wr : World) : Prop := ∃ (i : Nat) (T : Int) (lz : List AC) (N : List Int) (oo no : Option Addr) (oc nc : Nat),
  (iv = .int .i64 (i : Int) ∧ tv = .int .i64 T ∧ ov = .slice oo lz.length oc ∧ nv = .slice no N.length nc) ∧ (i ≤ 42 ∧ i % 3 = 0 ∧ i ≤ l.length ∧ 3 * lz.length = i ∧ -1 ≤ T ∧ T < (i : Int)) ∧ ActsOk T lz ∧ ActsAt wr oo oc lz ∧
  Seg wr 3 1 no N.length nc (ints N) ∧ N.length ≤ 12 ∧ (∀ x ∈ N, bounded x) ∧ Fr [] w wr ∧ (∀ k ∈ blk oo, w.heap.size ≤ k) ∧ (∀ k ∈ blk no, w.heap.size ≤ k) ∧ ∀ a ∈ lz, ∀ k ∈ blk a.vo, w.heap.size ≤ k
def ActsTo (w : World) (e : Ending) (w' : World) : Prop := ∃ lz oo oc, e = .returned (.slice oo lz.length oc) ∧ lz.length ≤ 14 ∧ ActsOk 50 lz ∧ ActsAt w' oo oc lz ∧ Fr [] w w' ∧ (∀ k ∈ blk oo, w.heap.size ≤ k) ∧ ∀ a ∈ lz, ∀ k ∈ blk a.vo, w.heap.size ≤ k
theorem ActsOk.mono {T T' : Int} {lz : List AC} (h : ActsOk T lz) (hT : T ≤ T') : ActsOk T' lz := ⟨h.1, fun a ha => by have k := h.2 a ha; exact ⟨by have := k.t; omega, k.v, k.l, k.f0, k.f2, k.k0, k.k1⟩⟩
theorem ActsOk.snoc {T T' : Int} {lz : List AC} {a : AC} (h : ActsOk T lz) (hT : T < (a.t : Int)) (ha : a.Ok T') (hT' : T ≤ T') : ActsOk T' (lz ++ [a]) := by
  refine ⟨?_, fun x hx => ?_⟩
  · rw [List.pairwise_append]
    refine ⟨h.1, List.pairwise_singleton _ _, fun x hx y hy => ?_⟩
    simp at hy
    rw [hy]
    have := (h.2 x hx).t
    omega
  · rcases List.mem_append.1 hx with q | q
    · exact (h.mono hT').2 x q
    · simp at q; rw [q]; exact ha

set_option maxRecDepth 100000 in
set_option maxHeartbeats 16000000 in
theorem acts_any (w : World) (lo : Option Addr) (lc : Nat) (l : List Int) (hr : Rd w 1 lo l.length (ints l)) (hb : ∀ x ∈ l, bounded x) :
    Calls Try.prog 11 #[.slice lo l.length lc] w (ActsTo w) := by
  obtain ⟨ii, hii, hz0, hz1, hz2⟩ := info_parts infoInt30
  obtain ⟨ia, hia, ha0, ha1, ha2⟩ := info_parts infoAct
  have hlen : l.length ≤ 9223372036854775807 := by have := hr.2.1; unfold maxLen at this; omega
  have HR := Lib.hid hr
  have HB := Lib.hid hb
  clear hr hb
  go_enter Try.func11, Try.ntmps11
  go_wp2_with fail
  go_loopw [3, 4, 5, 6] (fun ov tv nv iv wr => ActsInv w l ov tv nv iv wr) (fun _ _ _ iv _ => 45 - (intOf iv).toNat)
  case atStart => exact ⟨0, -1, [], [], none, none, 0, 0, ⟨rfl, rfl, rfl, rfl⟩, ⟨by omega, rfl, by omega, rfl, by omega, by omega⟩, ⟨List.Pairwise.nil, by simp⟩, ⟨Seg.nil _ _ _, by simp⟩, Seg.nil _ _ _, by simp, by simp, Fr.refl _ _, by simp [blk], by simp [blk], by simp⟩
  case round =>
    obtain ⟨i, T, lz, N, oo, no, oc, nc, ⟨rfl, rfl, rfl, rfl⟩, ⟨hi, hi3, hil, hal, hT0, hT1⟩, hok, hat, hns, hnl, hnb, hf, hno, hnn, hnv⟩ := hrel
    have HOK := Lib.hid hok
    have HAT := Lib.hid hat
    have HNS := Lib.hid hns
    have HNB := Lib.hid hnb
    have HF := Lib.hid hf
    have HNO := Lib.hid hno
    have HNN := Lib.hid hnn
    have HNVW := Lib.hid hnv
    have HAL := Lib.hid hal
    have w2 : IntKind.i64.wrap ((i : Int) + 2) = (i : Int) + 2 := IntWalk.i64_in _ (by omega)
    have hasl : lz.length ≤ 14 := by omega
    clear hok hat hns hnb hf hno hnn hnv hal
    by_cases h1 : i + 2 < l.length
    · have hd1 : decide ((i : Int) + 2 < (l.length : Int)) = true := decide_eq_true (by omega)
      by_cases h2 : i < 42
      · have hd2 : decide ((i : Int) < 42) = true := decide_eq_true (by omega)
        obtain ⟨g, off, rfl, hg, hc⟩ := (HR.out.fr HF.out (by simp)).at (by omega)
        have c0 : wr.cell? ⟨g, off + i, none⟩ = some (.int .i64 l[i]) := by rw [hc i (by omega), ints_get, List.getElem?_eq_getElem (by omega)]; rfl
        have c1 : wr.cell? ⟨g, off + (i + 1), none⟩ = some (.int .i64 l[i + 1]) := by rw [hc (i + 1) (by omega), ints_get, List.getElem?_eq_getElem (by omega)]; rfl
        have c2 : wr.cell? ⟨g, off + (i + 2), none⟩ = some (.int .i64 l[i + 2]) := by rw [hc (i + 2) (by omega), ints_get, List.getElem?_eq_getElem h1]; rfl
        have hb0 : bounded l[i] := HB.out _ (List.getElem_mem _)
        have hb1 : bounded l[i + 1] := HB.out _ (List.getElem_mem _)
        have hb2 : bounded l[i + 2] := HB.out _ (List.getElem_mem _)
        obtain ⟨n, hn, -, hA⟩ := around_nat l[i] 1000000 hb0 (by omega) (by omega)
        obtain ⟨x, hx⟩ : ∃ x, x = l[i] := ⟨_, rfl⟩
        obtain ⟨y, hy⟩ : ∃ y, y = l[i + 1] := ⟨_, rfl⟩
        obtain ⟨z, hz⟩ : ∃ z, z = l[i + 2] := ⟨_, rfl⟩
        rw [← hx] at c0 hA
        rw [← hy] at c1 hb1
        rw [← hz] at c2 hb2
        have HA := Lib.hid hA
        have HBY := Lib.hid hb1
        have HBZ := Lib.hid hb2
        have w1 : IntKind.i64.wrap ((i : Int) + 1) = (i : Int) + 1 := IntWalk.i64_in _ (by omega)
        have w3 : IntKind.i64.wrap ((i : Int) + 3) = (i : Int) + 3 := IntWalk.i64_in _ (by omega)
        have i0 : i < l.length := by omega
        have i1 : i + 1 < l.length := by omega
        have ii0 : (i : Int) < (l.length : Int) := by omega
        have ii1 : (i : Int) + 1 < (l.length : Int) := by omega
        have ii2 : (i : Int) + 2 < (l.length : Int) := by omega
        have wt1 : IntKind.i64.wrap (T + 1) = T + 1 := IntWalk.i64_in _ (by omega)
        obtain ⟨tn, htn⟩ : ∃ tn : Nat, (tn : Int) = T + 1 + (n : Int) % 3 := ⟨(T + 1 + (n : Int) % 3).toNat, by omega⟩
        have wt2 : IntKind.i64.wrap (T + 1 + (n : Int) % 3) = (tn : Int) := by rw [htn]; exact IntWalk.i64_in _ (by omega)
        have HTN := Lib.hid (by omega : T < (tn : Int) ∧ (tn : Int) < (i : Int) + 3)
        have hi39 : i ≤ 39 := by omega
        clear hc hg hx hy hz hA hb0 hb1 hb2 h2 htn
        go_upto_region 8 with (go_at_call 8; refine (HA.out _).mono ?_; rintro e w' ⟨rfl, rfl⟩)
        go_upto_region 9 with fail
        obtain ⟨N1, hN1⟩ : ∃ N1, N1 = N ++ [y, z] := ⟨_, rfl⟩
        have HN1 := Lib.hid hN1
        have hN1l : N.length + 2 = N1.length := by rw [hN1]; simp
        have HN1L := Lib.hid hN1l
        have hn1b : N1.length ≤ 14 := by omega
        clear hN1 hN1l
        have x1' : (0 : Int) ≤ (i : Int) + 1 := by omega
        have y1' : ((i : Int) + 1).toNat = i + 1 := by omega
        have x2' : (0 : Int) ≤ (i : Int) + 2 := by omega
        have y2' : ((i : Int) + 2).toNat = i + 2 := by omega
        go_cut [5] (fun s5 ws => ∃ (no1 : Option Addr) (nc1 : Nat), s5 = .slice no1 N1.length nc1 ∧ Seg ws 3 1 no1 N1.length nc1 (ints N1) ∧ Fr (blk no) wr ws ∧ Ext (blk no) wr (blk no1))
        case first =>
          go_region_law (refine step_append_seg rfl _ _ 22 rfl 3 ii _ 1 8 Try.underlying22 hii hz0 hz1 hz2 rfl (by decide) no N.length nc (ints N) rfl (HNS.out.drew.alloc _) ⟨wr.heap.size, 0, none⟩ 2 2 [.int .i64 y, .int .i64 z] rfl rfl (new_arr wr.drew #[.int .i64 y, .int .i64 z] _) (by simp [Value.oneCell']) (by unfold maxLen; omega) (by omega) ?_; intro no1 nc1 wa hs1 hf1 hx1; have HS1 := Lib.hid hs1; have HF1 := Lib.hid hf1; have HX1 := Lib.hid hx1; clear hs1 hf1 hx1)
          all_goals
            go_wp2_with fail
            go_meet
            refine ⟨no1, nc1, by rw [HN1L.out], ?_, ((Fr.refl _ wr).drew.alloc _).trans HF1.out (Ext.refl _ _), fun k hk => (HX1.out k hk).imp id (fun q => by simp at q; omega)⟩
            have h := HS1.out
            rw [HN1L.out] at h
            rw [HN1.out, ints_append]; rw [← HN1.out]; exact h
        case rest =>
          obtain ⟨ws, rfl⟩ : ∃ u : World, u = wc := ⟨_, rfl⟩
          obtain ⟨no1, nc1, rfl, hs1, hf1, hx1⟩ := hcut
          have HS1 := Lib.hid hs1
          have HF1 := Lib.hid (HF.out.trans hf1 (fun k hk => .inr (HNN.out k hk)))
          have HX1 := Lib.hid (fun k hk => (by rcases hx1 k hk with h | h; exact HNN.out k h; (have := HF.out.size; omega) : w.heap.size ≤ k))
          have HAT1 := Lib.hid (HAT.out.fr hf1 (HAT.out.seg.disj HNS.out (by decide)) (fun a ha => (HAT.out.views a ha).disj HNS.out (by decide)))
          have HN1B := Lib.hid (fun u (hu : u ∈ N1) => (by
            rw [HN1.out] at hu
            rcases List.mem_append.1 hu with q | q
            · exact HNB.out u q
            · simp at q
              rcases q with rfl | rfl
              · exact HBY.out
              · exact HBZ.out : bounded u))
          clear hs1 hf1 hx1 c0 c1 c2 x1' x2' y1' y2'
          go_upto_if 45 with fail
          go_cut [5] (fun s5 wq => ∃ (N2 : List Int) (no2 : Option Addr) (nc2 : Nat), s5 = .slice no2 N2.length nc2 ∧ N2.length ≤ 12 ∧ (∀ u ∈ N2, bounded u) ∧ Seg ws 3 1 no2 N2.length nc2 (ints N2) ∧ (∀ k ∈ blk no2, k ∈ blk no1) ∧ ws = wq)
          case first =>
            by_cases h12 : 12 < N1.length
            · have h12i : (12 : Int) < (N1.length : Int) := by omega
              have hsl : ∀ u : World, (Instr.slice 22 (.slice no1 N1.length nc1) (some (.int .i64 2)) none none).run Try.prog u = .ok (.slice (cutA no1 2 nc1 1) (N1.length - 2) (nc1 - 2)) u := fun u => run_slice_from (P := Try.prog) 22 3 Try.underlying22 1 (by kernel_rfl) no1 N1.length nc1 2 (by omega) u
              have HD := Lib.hid (by
                have h := HS1.out.cutA (lo := 2) (hi := N1.length) (mx := nc1) (by omega) HS1.out.2.2.1 (Nat.le_refl _) (Nat.le_refl _)
                have e : ((ints N1).drop (2 * 1)).take ((N1.length - 2) * 1) = ints (N1.drop 2) := by
                  have h2 : (ints (N1.drop 2)).length = N1.length - 2 := by rw [ints_length, List.length_drop]
                  rw [show (ints N1).drop (2 * 1) = ints (N1.drop 2) by simp [ints, List.map_drop], List.take_of_length_le (by omega)]
                rw [e] at h; exact h : Seg ws 3 1 (cutA no1 2 nc1 1) (N1.length - 2) (nc1 - 2) (ints (N1.drop 2)))
              clear h12
              go_wp2_with fail
              go_meet
              exact ⟨N1.drop 2, cutA no1 2 nc1 1, nc1 - 2, by rw [List.length_drop], by rw [List.length_drop]; omega, fun u hu => HN1B.out u (List.mem_of_mem_drop hu), by rw [List.length_drop]; exact HD.out, fun k hk => by rw [blk_cutA] at hk; exact hk, rfl⟩
            · have h12i : ¬ (12 : Int) < (N1.length : Int) := by omega
              have HL12 := Lib.hid (by omega : N1.length ≤ 12)
              clear h12
              go_wp2_with fail
              go_meet
              exact ⟨N1, no1, nc1, rfl, HL12.out, HN1B.out, HS1.out, fun _ h => h, rfl⟩
          case rest =>
            obtain ⟨N2, no2, nc2, rfl, hn2, hn2b, hs2, hk2, rfl⟩ := hcut
            have HN2 := Lib.hid hn2
            have HN2B := Lib.hid hn2b
            have HS2 := Lib.hid hs2
            have HX2 := Lib.hid (fun k hk => (HX1.out k (hk2 k hk) : w.heap.size ≤ k))
            have HCE := Lib.hid (fun u (hu : Fr [] ws u) => cells_any u no2 nc2 N2 (hs2.rd.fr hu (by simp)) hn2b)
            obtain ⟨j, hj⟩ : ∃ j, j = n / 3 % 5 := ⟨_, rfl⟩
            have hj5 : j < 5 := by omega
            have hji : (n : Int) / 3 % 5 = (j : Int) := by omega
            have hw3 : IntKind.i64.wrap ((n : Int) / 3) = (n : Int) / 3 := IntWalk.i64_in _ (by omega)
            have hjt : ((n : Int) / 3).tmod 5 = (j : Int) := by rw [Int.tmod_eq_emod_of_nonneg (by omega)]; exact hji
            have hjt2 : (IntKind.i64.wrap ((n : Int) / 3)).tmod 5 = (j : Int) := by rw [hw3]; exact hjt
            have hj0 : (0 : Int) ≤ (j : Int) := by omega
            have hj5i : (j : Int) < 5 := by omega
            obtain ⟨f, hf0, hf2, hfj⟩ : ∃ f : Int, 0 ≤ f ∧ f ≤ 2 ∧ (#[.int .i64 1, .int .i64 1, .int .i64 0, .int .i64 2, .int .i64 1] : Array Value)[j]? = some (.int .i64 f) := by
              have : j = 0 ∨ j = 1 ∨ j = 2 ∨ j = 3 ∨ j = 4 := by omega
              rcases this with rfl | rfl | rfl | rfl | rfl
              · exact ⟨1, by omega, by omega, rfl⟩
              · exact ⟨1, by omega, by omega, rfl⟩
              · exact ⟨0, by omega, by omega, rfl⟩
              · exact ⟨2, by omega, by omega, rfl⟩
              · exact ⟨1, by omega, by omega, rfl⟩
            have HFJ := Lib.hid hfj
            clear hn2 hn2b hs2 hk2 hj hfj HN1B HS1
            go_upto_region 12 with fail
            go_cut [8] (fun s8 wq => ∃ (bm : Nat) (V : List (Int × Int)) (vo : Option Addr) (vc : Nat), s8 = .pointer (some ⟨bm, 0, none⟩) ∧ wq.heap[bm]? = some (.cells #[.int .i64 (tn : Int), .slice vo V.length vc, .int .i64 f, .int .i64 (-1)] 32 (0, 0)) ∧ IsView V ∧ V.length ≤ 12 ∧ Seg wq 48 2 vo V.length vc (V.flatMap clV) ∧ (∀ k ∈ blk vo, ws.heap.size ≤ k) ∧ ws.heap.size ≤ bm ∧ Fr [] ws wq)
            case first =>
              refine wp_region_held_drew (S := fun u => Fr [] ws u) (by kernel_rfl) ((Fr.refl _ _).drew) (fun hHeld => ?_)
              obtain ⟨wd, hwd⟩ : ∃ u, u = ws.drew := ⟨_, rfl⟩
              rw [← hwd]
              rw [← hwd] at hHeld
              have HQ := Lib.hid (by rw [hwd]; exact (Fr.refl _ _).drew : Fr [] ws wd)
              clear hwd
              refine wpAnyH_takeL (i := 0) (v := _) rfl (by kernel_rfl) (by kernel_rfl) (by kernel_rfl) (fun _ _ _ h => h) (Or.inl ⟨by rfl, (by intro w' hSw; (try dsimp only at hSw); skip; go_simp; try with_reducible rfl)⟩) (by assumption) ?_
              try simp only [Act.put, List.setIfInBounds_toArray, List.set_cons_zero, List.set_cons_succ]
              refine wpAnyH_takeL (i := 1) (v := _) rfl (by kernel_rfl) (by kernel_rfl) (by kernel_rfl) (fun _ _ _ h => h) (Or.inl ⟨by rfl, (by intro w' hSw; (try dsimp only at hSw); skip; go_simp; try with_reducible rfl)⟩) (by assumption) ?_
              try simp only [Act.put, List.setIfInBounds_toArray, List.set_cons_zero, List.set_cons_succ]
              refine wpAnyH_takeL (i := 4) (v := _) rfl (by kernel_rfl) (by kernel_rfl) (by kernel_rfl) (fun _ _ _ h => h) (Or.inl ⟨by rfl, (by intro w' hSw; (try dsimp only at hSw); skip; go_simp; try with_reducible rfl)⟩) (by assumption) ?_
              try simp only [Act.put, List.setIfInBounds_toArray, List.set_cons_zero, List.set_cons_succ]
              refine wpAnyH_takeL (i := 5) (v := _) rfl (by kernel_rfl) (by kernel_rfl) (by kernel_rfl) (fun _ _ _ h => h) (Or.inl ⟨by rfl, (by intro w' hSw; (try dsimp only at hSw); skip; go_simp; try with_reducible rfl)⟩) (by assumption) ?_
              try simp only [Act.put, List.setIfInBounds_toArray, List.set_cons_zero, List.set_cons_succ]
              refine wpAnyH_takeL (i := 6) (v := _) rfl (by kernel_rfl) (by kernel_rfl) (by kernel_rfl) (fun _ _ _ h => h) (Or.inl ⟨by rfl, (by intro w' hSw; (try dsimp only at hSw); skip; go_simp; try with_reducible rfl)⟩) (by assumption) ?_
              try simp only [Act.put, List.setIfInBounds_toArray, List.set_cons_zero, List.set_cons_succ]
              refine wpAnyH_ready (rs := [2, 3, 10]) (by kernel_rfl) (by simp) ?_
              refine AllReadyH.consL (i := 2) rfl (fun K hK => ?_) ?_
              · go_simp
                (refine (HCE.out _ HQ.out).mono ?_; rintro e wx1 ⟨V, vo, vc, rfl, hiv, hvl, hsv, fx1, hnv⟩; have HIV := Lib.hid hiv; have HVL := Lib.hid hvl; have HSV := Lib.hid hsv; have HNV := Lib.hid (fun q hq => (by have h1 := hnv q hq; have h2 := HQ.out.size; omega : ws.heap.size ≤ q)); have HQ := Lib.hid (HQ.out.trans fx1 (by simp [Ext])); clear fx1 hiv hvl hsv hnv)
                refine hK.out _ _ (HQ.out) (fun hHeld => ?_)
                clear hK K
                try simp only [Act.put, List.setIfInBounds_toArray, List.set_cons_zero, List.set_cons_succ]
                refine wpAnyH_ready (rs := [3, 10]) (by kernel_rfl) (by simp) ?_
                refine AllReadyH.consL (i := 3) rfl (fun K hK => ?_) ?_
                · go_simp
                  (obtain ⟨b5, hb5⟩ : ∃ b5, b5 = wx1.heap.size := ⟨_, rfl⟩; obtain ⟨wx2, hwx⟩ : ∃ u, u = wx1.alloc (.cells #[.int .i64 1, .int .i64 1, .int .i64 0, .int .i64 2, .int .i64 1] 3) := ⟨_, rfl⟩; rw [← hb5, ← hwx]; have fx : Fr [] wx1 wx2 := fr_alloc hwx; have H5 := Lib.hid (blk_alloc hwx hb5 : wx2.heap[b5]? = some (.cells #[.int .i64 1, .int .i64 1, .int .i64 0, .int .i64 2, .int .i64 1] 3 (0, 0))); have cf : wx2.cell? ⟨b5, j, none⟩ = some (.int .i64 f) := (cell_blk H5.out j).trans HFJ.out; have HSV := Lib.hid (HSV.out.fr fx (by simp)); have HQ := Lib.hid (HQ.out.trans fx (by simp [Ext])); clear fx hwx hb5)
                  refine hK.out _ _ (HQ.out) (fun hHeld => ?_)
                  clear hK K
                  try simp only [Act.put, List.setIfInBounds_toArray, List.set_cons_zero, List.set_cons_succ]
                  refine wpAnyH_takeL (i := 7) (v := _) rfl (by kernel_rfl) (by kernel_rfl) (by kernel_rfl) (fun _ _ _ h => h) (Or.inl ⟨by rfl, (by intro w' hSw; (try dsimp only at hSw); skip; go_simp; try with_reducible rfl)⟩) (by assumption) ?_
                  try simp only [Act.put, List.setIfInBounds_toArray, List.set_cons_zero, List.set_cons_succ]
                  refine wpAnyH_ready (rs := [8, 10]) (by kernel_rfl) (by simp) ?_
                  refine AllReadyH.consL (i := 8) rfl (fun K hK => ?_) ?_
                  · go_simp
                    (obtain ⟨wx3, hwx⟩ : ∃ u, u = wx2 := ⟨_, rfl⟩; rw [← hwx] at cf HQ H5 HSV ⊢; clear hwx)
                    refine hK.out _ _ (HQ.out) (fun hHeld => ?_)
                    clear hK K
                    try simp only [Act.put, List.setIfInBounds_toArray, List.set_cons_zero, List.set_cons_succ]
                    refine wpAnyH_takeL (i := 9) (v := _) rfl (by kernel_rfl) (by kernel_rfl) (by kernel_rfl) (fun _ _ _ h => h) (Or.inl ⟨by rfl, (by intro w' hSw; (try dsimp only at hSw); skip; go_simp; try with_reducible rfl)⟩) (by assumption) ?_
                    try simp only [Act.put, List.setIfInBounds_toArray, List.set_cons_zero, List.set_cons_succ]
                    refine wpAnyH_ready (rs := [10]) (by kernel_rfl) (by simp) ?_
                    refine AllReadyH.consL (i := 10) rfl (fun K hK => ?_) AllReadyH.nil
                    go_simp
                    (obtain ⟨bm, hbm⟩ : ∃ bm, bm = wx3.heap.size := ⟨_, rfl⟩; obtain ⟨wx4, hwx⟩ : ∃ u, u = wx3.alloc (.cells #[.int .i64 0, .slice none 0 0, .int .i64 0, .int .i64 0] 32) := ⟨_, rfl⟩; rw [← hbm, ← hwx]; have fx : Fr [] wx3 wx4 := fr_alloc hwx; have HM := Lib.hid (blk_alloc hwx hbm : wx4.heap[bm]? = some (.cells #[.int .i64 0, .slice none 0 0, .int .i64 0, .int .i64 0] 32 (0, 0))); have HBG := Lib.hid (Nat.le_trans HQ.out.size (Nat.le_of_eq hbm.symm) : ws.heap.size ≤ bm); clear cf; have HSV := Lib.hid (HSV.out.fr fx (by simp)); have H5 := Lib.hid (fx.blk H5.out (by simp)); have cf : wx4.cell? ⟨b5, j, none⟩ = some (.int .i64 f) := (cell_blk H5.out j).trans HFJ.out; have HQ := Lib.hid (HQ.out.trans fx (by simp [Ext])); clear fx hwx hbm)
                    refine hK.out _ _ (HQ.out) (fun hHeld => ?_)
                    clear hK K
                    try simp only [Act.put, List.setIfInBounds_toArray, List.set_cons_zero, List.set_cons_succ]
                    refine wpAnyH_ready (rs := [11]) (by kernel_rfl) (by simp) ?_
                    refine AllReadyH.consL (i := 11) rfl (fun K hK => ?_) AllReadyH.nil
                    rw [if_pos (by rfl)]; refine wp_storeB 32 (Operand.tmp 8) (Operand.tmp 57) rfl bm 4 #[.int .i64 (tn : Int), .slice vo V.length vc, .int .i64 f, .int .i64 (-1)] rfl rfl _ 32 HM.out rfl rfl infoActS (by simp [Value.oneCell']) ?_; intro wf hbf hff; have HSV := Lib.hid (HSV.out.fr hff (fun q hq hm => by simp at hm; exact HSV.out.ne_type HM.out (by decide) (hm ▸ hq))); have HQ := Lib.hid (HQ.out.trans hff (fun k hk => .inr (by simp at hk; rw [hk]; exact HBG.out))); have HB := Lib.hid hbf; clear hbf hff
                    refine hK.out _ _ (HQ.out) (fun hHeld => ?_)
                    clear hK K
                    try simp only [Act.put, List.setIfInBounds_toArray, List.set_cons_zero, List.set_cons_succ]
                    refine wpAnyH_done (by kernel_rfl) ?_ _
                    go_wp2_with fail
                    go_meet
                    exact ⟨bm, V, vo, vc, rfl, HB.out, HIV.out, HVL.out, HSV.out, HNV.out, HBG.out, HQ.out⟩
                  refine AllReadyH.consL (i := 10) rfl (fun K hK => ?_) AllReadyH.nil
                  go_simp
                  (obtain ⟨bm, hbm⟩ : ∃ bm, bm = wx2.heap.size := ⟨_, rfl⟩; obtain ⟨wx3, hwx⟩ : ∃ u, u = wx2.alloc (.cells #[.int .i64 0, .slice none 0 0, .int .i64 0, .int .i64 0] 32) := ⟨_, rfl⟩; rw [← hbm, ← hwx]; have fx : Fr [] wx2 wx3 := fr_alloc hwx; have HM := Lib.hid (blk_alloc hwx hbm : wx3.heap[bm]? = some (.cells #[.int .i64 0, .slice none 0 0, .int .i64 0, .int .i64 0] 32 (0, 0))); have HBG := Lib.hid (Nat.le_trans HQ.out.size (Nat.le_of_eq hbm.symm) : ws.heap.size ≤ bm); clear cf; have HSV := Lib.hid (HSV.out.fr fx (by simp)); have H5 := Lib.hid (fx.blk H5.out (by simp)); have cf : wx3.cell? ⟨b5, j, none⟩ = some (.int .i64 f) := (cell_blk H5.out j).trans HFJ.out; have HQ := Lib.hid (HQ.out.trans fx (by simp [Ext])); clear fx hwx hbm)
                  refine hK.out _ _ (HQ.out) (fun hHeld => ?_)
                  clear hK K
                  try simp only [Act.put, List.setIfInBounds_toArray, List.set_cons_zero, List.set_cons_succ]
                  refine wpAnyH_ready (rs := [8]) (by kernel_rfl) (by simp) ?_
                  refine AllReadyH.consL (i := 8) rfl (fun K hK => ?_) AllReadyH.nil
                  go_simp
                  (obtain ⟨wx4, hwx⟩ : ∃ u, u = wx3 := ⟨_, rfl⟩; rw [← hwx] at cf HQ H5 HSV HM ⊢; clear hwx)
                  refine hK.out _ _ (HQ.out) (fun hHeld => ?_)
                  clear hK K
                  try simp only [Act.put, List.setIfInBounds_toArray, List.set_cons_zero, List.set_cons_succ]
                  refine wpAnyH_takeL (i := 9) (v := _) rfl (by kernel_rfl) (by kernel_rfl) (by kernel_rfl) (fun _ _ _ h => h) (Or.inl ⟨by rfl, (by intro w' hSw; (try dsimp only at hSw); skip; go_simp; try with_reducible rfl)⟩) (by assumption) ?_
                  try simp only [Act.put, List.setIfInBounds_toArray, List.set_cons_zero, List.set_cons_succ]
                  refine wpAnyH_ready (rs := [11]) (by kernel_rfl) (by simp) ?_
                  refine AllReadyH.consL (i := 11) rfl (fun K hK => ?_) AllReadyH.nil
                  rw [if_pos (by rfl)]; refine wp_storeB 32 (Operand.tmp 8) (Operand.tmp 57) rfl bm 4 #[.int .i64 (tn : Int), .slice vo V.length vc, .int .i64 f, .int .i64 (-1)] rfl rfl _ 32 HM.out rfl rfl infoActS (by simp [Value.oneCell']) ?_; intro wf hbf hff; have HSV := Lib.hid (HSV.out.fr hff (fun q hq hm => by simp at hm; exact HSV.out.ne_type HM.out (by decide) (hm ▸ hq))); have HQ := Lib.hid (HQ.out.trans hff (fun k hk => .inr (by simp at hk; rw [hk]; exact HBG.out))); have HB := Lib.hid hbf; clear hbf hff
                  refine hK.out _ _ (HQ.out) (fun hHeld => ?_)
                  clear hK K
                  try simp only [Act.put, List.setIfInBounds_toArray, List.set_cons_zero, List.set_cons_succ]
                  refine wpAnyH_done (by kernel_rfl) ?_ _
                  go_wp2_with fail
                  go_meet
                  exact ⟨bm, V, vo, vc, rfl, HB.out, HIV.out, HVL.out, HSV.out, HNV.out, HBG.out, HQ.out⟩
                refine AllReadyH.consL (i := 10) rfl (fun K hK => ?_) AllReadyH.nil
                go_simp
                (obtain ⟨bm, hbm⟩ : ∃ bm, bm = wx1.heap.size := ⟨_, rfl⟩; obtain ⟨wx2, hwx⟩ : ∃ u, u = wx1.alloc (.cells #[.int .i64 0, .slice none 0 0, .int .i64 0, .int .i64 0] 32) := ⟨_, rfl⟩; rw [← hbm, ← hwx]; have fx : Fr [] wx1 wx2 := fr_alloc hwx; have HM := Lib.hid (blk_alloc hwx hbm : wx2.heap[bm]? = some (.cells #[.int .i64 0, .slice none 0 0, .int .i64 0, .int .i64 0] 32 (0, 0))); have HBG := Lib.hid (Nat.le_trans HQ.out.size (Nat.le_of_eq hbm.symm) : ws.heap.size ≤ bm); have HSV := Lib.hid (HSV.out.fr fx (by simp)); have HQ := Lib.hid (HQ.out.trans fx (by simp [Ext])); clear fx hwx hbm)
                refine hK.out _ _ (HQ.out) (fun hHeld => ?_)
                clear hK K
                try simp only [Act.put, List.setIfInBounds_toArray, List.set_cons_zero, List.set_cons_succ]
                refine wpAnyH_ready (rs := [3]) (by kernel_rfl) (by simp) ?_
                refine AllReadyH.consL (i := 3) rfl (fun K hK => ?_) AllReadyH.nil
                go_simp
                (obtain ⟨b5, hb5⟩ : ∃ b5, b5 = wx2.heap.size := ⟨_, rfl⟩; obtain ⟨wx3, hwx⟩ : ∃ u, u = wx2.alloc (.cells #[.int .i64 1, .int .i64 1, .int .i64 0, .int .i64 2, .int .i64 1] 3) := ⟨_, rfl⟩; rw [← hb5, ← hwx]; have fx : Fr [] wx2 wx3 := fr_alloc hwx; have H5 := Lib.hid (blk_alloc hwx hb5 : wx3.heap[b5]? = some (.cells #[.int .i64 1, .int .i64 1, .int .i64 0, .int .i64 2, .int .i64 1] 3 (0, 0))); have cf : wx3.cell? ⟨b5, j, none⟩ = some (.int .i64 f) := (cell_blk H5.out j).trans HFJ.out; have HSV := Lib.hid (HSV.out.fr fx (by simp)); have HM := Lib.hid (fx.blk HM.out (by simp)); have HQ := Lib.hid (HQ.out.trans fx (by simp [Ext])); clear fx hwx hb5)
                refine hK.out _ _ (HQ.out) (fun hHeld => ?_)
                clear hK K
                try simp only [Act.put, List.setIfInBounds_toArray, List.set_cons_zero, List.set_cons_succ]
                refine wpAnyH_takeL (i := 7) (v := _) rfl (by kernel_rfl) (by kernel_rfl) (by kernel_rfl) (fun _ _ _ h => h) (Or.inl ⟨by rfl, (by intro w' hSw; (try dsimp only at hSw); skip; go_simp; try with_reducible rfl)⟩) (by assumption) ?_
                try simp only [Act.put, List.setIfInBounds_toArray, List.set_cons_zero, List.set_cons_succ]
                refine wpAnyH_ready (rs := [8]) (by kernel_rfl) (by simp) ?_
                refine AllReadyH.consL (i := 8) rfl (fun K hK => ?_) AllReadyH.nil
                go_simp
                (obtain ⟨wx4, hwx⟩ : ∃ u, u = wx3 := ⟨_, rfl⟩; rw [← hwx] at cf HQ H5 HSV HM ⊢; clear hwx)
                refine hK.out _ _ (HQ.out) (fun hHeld => ?_)
                clear hK K
                try simp only [Act.put, List.setIfInBounds_toArray, List.set_cons_zero, List.set_cons_succ]
                refine wpAnyH_takeL (i := 9) (v := _) rfl (by kernel_rfl) (by kernel_rfl) (by kernel_rfl) (fun _ _ _ h => h) (Or.inl ⟨by rfl, (by intro w' hSw; (try dsimp only at hSw); skip; go_simp; try with_reducible rfl)⟩) (by assumption) ?_
                try simp only [Act.put, List.setIfInBounds_toArray, List.set_cons_zero, List.set_cons_succ]
                refine wpAnyH_ready (rs := [11]) (by kernel_rfl) (by simp) ?_
                refine AllReadyH.consL (i := 11) rfl (fun K hK => ?_) AllReadyH.nil
                rw [if_pos (by rfl)]; refine wp_storeB 32 (Operand.tmp 8) (Operand.tmp 57) rfl bm 4 #[.int .i64 (tn : Int), .slice vo V.length vc, .int .i64 f, .int .i64 (-1)] rfl rfl _ 32 HM.out rfl rfl infoActS (by simp [Value.oneCell']) ?_; intro wf hbf hff; have HSV := Lib.hid (HSV.out.fr hff (fun q hq hm => by simp at hm; exact HSV.out.ne_type HM.out (by decide) (hm ▸ hq))); have HQ := Lib.hid (HQ.out.trans hff (fun k hk => .inr (by simp at hk; rw [hk]; exact HBG.out))); have HB := Lib.hid hbf; clear hbf hff
                refine hK.out _ _ (HQ.out) (fun hHeld => ?_)
                clear hK K
                try simp only [Act.put, List.setIfInBounds_toArray, List.set_cons_zero, List.set_cons_succ]
                refine wpAnyH_done (by kernel_rfl) ?_ _
                go_wp2_with fail
                go_meet
                exact ⟨bm, V, vo, vc, rfl, HB.out, HIV.out, HVL.out, HSV.out, HNV.out, HBG.out, HQ.out⟩
              refine AllReadyH.consL (i := 3) rfl (fun K hK => ?_) ?_
              · go_simp
                (obtain ⟨b5, hb5⟩ : ∃ b5, b5 = wd.heap.size := ⟨_, rfl⟩; obtain ⟨wx1, hwx⟩ : ∃ u, u = wd.alloc (.cells #[.int .i64 1, .int .i64 1, .int .i64 0, .int .i64 2, .int .i64 1] 3) := ⟨_, rfl⟩; rw [← hb5, ← hwx]; have fx : Fr [] wd wx1 := fr_alloc hwx; have H5 := Lib.hid (blk_alloc hwx hb5 : wx1.heap[b5]? = some (.cells #[.int .i64 1, .int .i64 1, .int .i64 0, .int .i64 2, .int .i64 1] 3 (0, 0))); have cf : wx1.cell? ⟨b5, j, none⟩ = some (.int .i64 f) := (cell_blk H5.out j).trans HFJ.out; have HQ := Lib.hid (HQ.out.trans fx (by simp [Ext])); clear fx hwx hb5)
                refine hK.out _ _ (HQ.out) (fun hHeld => ?_)
                clear hK K
                try simp only [Act.put, List.setIfInBounds_toArray, List.set_cons_zero, List.set_cons_succ]
                refine wpAnyH_takeL (i := 7) (v := _) rfl (by kernel_rfl) (by kernel_rfl) (by kernel_rfl) (fun _ _ _ h => h) (Or.inl ⟨by rfl, (by intro w' hSw; (try dsimp only at hSw); skip; go_simp; try with_reducible rfl)⟩) (by assumption) ?_
                try simp only [Act.put, List.setIfInBounds_toArray, List.set_cons_zero, List.set_cons_succ]
                refine wpAnyH_ready (rs := [2, 8, 10]) (by kernel_rfl) (by simp) ?_
                refine AllReadyH.consL (i := 2) rfl (fun K hK => ?_) ?_
                · go_simp
                  (refine (HCE.out _ HQ.out).mono ?_; rintro e wx2 ⟨V, vo, vc, rfl, hiv, hvl, hsv, fx2, hnv⟩; have HIV := Lib.hid hiv; have HVL := Lib.hid hvl; have HSV := Lib.hid hsv; have HNV := Lib.hid (fun q hq => (by have h1 := hnv q hq; have h2 := HQ.out.size; omega : ws.heap.size ≤ q)); clear cf; have H5 := Lib.hid (fx2.blk H5.out (by simp)); have cf : wx2.cell? ⟨b5, j, none⟩ = some (.int .i64 f) := (cell_blk H5.out j).trans HFJ.out; have HQ := Lib.hid (HQ.out.trans fx2 (by simp [Ext])); clear fx2 hiv hvl hsv hnv)
                  refine hK.out _ _ (HQ.out) (fun hHeld => ?_)
                  clear hK K
                  try simp only [Act.put, List.setIfInBounds_toArray, List.set_cons_zero, List.set_cons_succ]
                  refine wpAnyH_ready (rs := [8, 10]) (by kernel_rfl) (by simp) ?_
                  refine AllReadyH.consL (i := 8) rfl (fun K hK => ?_) ?_
                  · go_simp
                    (obtain ⟨wx3, hwx⟩ : ∃ u, u = wx2 := ⟨_, rfl⟩; rw [← hwx] at cf HQ H5 HSV ⊢; clear hwx)
                    refine hK.out _ _ (HQ.out) (fun hHeld => ?_)
                    clear hK K
                    try simp only [Act.put, List.setIfInBounds_toArray, List.set_cons_zero, List.set_cons_succ]
                    refine wpAnyH_takeL (i := 9) (v := _) rfl (by kernel_rfl) (by kernel_rfl) (by kernel_rfl) (fun _ _ _ h => h) (Or.inl ⟨by rfl, (by intro w' hSw; (try dsimp only at hSw); skip; go_simp; try with_reducible rfl)⟩) (by assumption) ?_
                    try simp only [Act.put, List.setIfInBounds_toArray, List.set_cons_zero, List.set_cons_succ]
                    refine wpAnyH_ready (rs := [10]) (by kernel_rfl) (by simp) ?_
                    refine AllReadyH.consL (i := 10) rfl (fun K hK => ?_) AllReadyH.nil
                    go_simp
                    (obtain ⟨bm, hbm⟩ : ∃ bm, bm = wx3.heap.size := ⟨_, rfl⟩; obtain ⟨wx4, hwx⟩ : ∃ u, u = wx3.alloc (.cells #[.int .i64 0, .slice none 0 0, .int .i64 0, .int .i64 0] 32) := ⟨_, rfl⟩; rw [← hbm, ← hwx]; have fx : Fr [] wx3 wx4 := fr_alloc hwx; have HM := Lib.hid (blk_alloc hwx hbm : wx4.heap[bm]? = some (.cells #[.int .i64 0, .slice none 0 0, .int .i64 0, .int .i64 0] 32 (0, 0))); have HBG := Lib.hid (Nat.le_trans HQ.out.size (Nat.le_of_eq hbm.symm) : ws.heap.size ≤ bm); clear cf; have HSV := Lib.hid (HSV.out.fr fx (by simp)); have H5 := Lib.hid (fx.blk H5.out (by simp)); have cf : wx4.cell? ⟨b5, j, none⟩ = some (.int .i64 f) := (cell_blk H5.out j).trans HFJ.out; have HQ := Lib.hid (HQ.out.trans fx (by simp [Ext])); clear fx hwx hbm)
                    refine hK.out _ _ (HQ.out) (fun hHeld => ?_)
                    clear hK K
                    try simp only [Act.put, List.setIfInBounds_toArray, List.set_cons_zero, List.set_cons_succ]
                    refine wpAnyH_ready (rs := [11]) (by kernel_rfl) (by simp) ?_
                    refine AllReadyH.consL (i := 11) rfl (fun K hK => ?_) AllReadyH.nil
                    rw [if_pos (by rfl)]; refine wp_storeB 32 (Operand.tmp 8) (Operand.tmp 57) rfl bm 4 #[.int .i64 (tn : Int), .slice vo V.length vc, .int .i64 f, .int .i64 (-1)] rfl rfl _ 32 HM.out rfl rfl infoActS (by simp [Value.oneCell']) ?_; intro wf hbf hff; have HSV := Lib.hid (HSV.out.fr hff (fun q hq hm => by simp at hm; exact HSV.out.ne_type HM.out (by decide) (hm ▸ hq))); have HQ := Lib.hid (HQ.out.trans hff (fun k hk => .inr (by simp at hk; rw [hk]; exact HBG.out))); have HB := Lib.hid hbf; clear hbf hff
                    refine hK.out _ _ (HQ.out) (fun hHeld => ?_)
                    clear hK K
                    try simp only [Act.put, List.setIfInBounds_toArray, List.set_cons_zero, List.set_cons_succ]
                    refine wpAnyH_done (by kernel_rfl) ?_ _
                    go_wp2_with fail
                    go_meet
                    exact ⟨bm, V, vo, vc, rfl, HB.out, HIV.out, HVL.out, HSV.out, HNV.out, HBG.out, HQ.out⟩
                  refine AllReadyH.consL (i := 10) rfl (fun K hK => ?_) AllReadyH.nil
                  go_simp
                  (obtain ⟨bm, hbm⟩ : ∃ bm, bm = wx2.heap.size := ⟨_, rfl⟩; obtain ⟨wx3, hwx⟩ : ∃ u, u = wx2.alloc (.cells #[.int .i64 0, .slice none 0 0, .int .i64 0, .int .i64 0] 32) := ⟨_, rfl⟩; rw [← hbm, ← hwx]; have fx : Fr [] wx2 wx3 := fr_alloc hwx; have HM := Lib.hid (blk_alloc hwx hbm : wx3.heap[bm]? = some (.cells #[.int .i64 0, .slice none 0 0, .int .i64 0, .int .i64 0] 32 (0, 0))); have HBG := Lib.hid (Nat.le_trans HQ.out.size (Nat.le_of_eq hbm.symm) : ws.heap.size ≤ bm); clear cf; have HSV := Lib.hid (HSV.out.fr fx (by simp)); have H5 := Lib.hid (fx.blk H5.out (by simp)); have cf : wx3.cell? ⟨b5, j, none⟩ = some (.int .i64 f) := (cell_blk H5.out j).trans HFJ.out; have HQ := Lib.hid (HQ.out.trans fx (by simp [Ext])); clear fx hwx hbm)
                  refine hK.out _ _ (HQ.out) (fun hHeld => ?_)
                  clear hK K
                  try simp only [Act.put, List.setIfInBounds_toArray, List.set_cons_zero, List.set_cons_succ]
                  refine wpAnyH_ready (rs := [8]) (by kernel_rfl) (by simp) ?_
                  refine AllReadyH.consL (i := 8) rfl (fun K hK => ?_) AllReadyH.nil
                  go_simp
                  (obtain ⟨wx4, hwx⟩ : ∃ u, u = wx3 := ⟨_, rfl⟩; rw [← hwx] at cf HQ H5 HSV HM ⊢; clear hwx)
                  refine hK.out _ _ (HQ.out) (fun hHeld => ?_)
                  clear hK K
                  try simp only [Act.put, List.setIfInBounds_toArray, List.set_cons_zero, List.set_cons_succ]
                  refine wpAnyH_takeL (i := 9) (v := _) rfl (by kernel_rfl) (by kernel_rfl) (by kernel_rfl) (fun _ _ _ h => h) (Or.inl ⟨by rfl, (by intro w' hSw; (try dsimp only at hSw); skip; go_simp; try with_reducible rfl)⟩) (by assumption) ?_
                  try simp only [Act.put, List.setIfInBounds_toArray, List.set_cons_zero, List.set_cons_succ]
                  refine wpAnyH_ready (rs := [11]) (by kernel_rfl) (by simp) ?_
                  refine AllReadyH.consL (i := 11) rfl (fun K hK => ?_) AllReadyH.nil
                  rw [if_pos (by rfl)]; refine wp_storeB 32 (Operand.tmp 8) (Operand.tmp 57) rfl bm 4 #[.int .i64 (tn : Int), .slice vo V.length vc, .int .i64 f, .int .i64 (-1)] rfl rfl _ 32 HM.out rfl rfl infoActS (by simp [Value.oneCell']) ?_; intro wf hbf hff; have HSV := Lib.hid (HSV.out.fr hff (fun q hq hm => by simp at hm; exact HSV.out.ne_type HM.out (by decide) (hm ▸ hq))); have HQ := Lib.hid (HQ.out.trans hff (fun k hk => .inr (by simp at hk; rw [hk]; exact HBG.out))); have HB := Lib.hid hbf; clear hbf hff
                  refine hK.out _ _ (HQ.out) (fun hHeld => ?_)
                  clear hK K
                  try simp only [Act.put, List.setIfInBounds_toArray, List.set_cons_zero, List.set_cons_succ]
                  refine wpAnyH_done (by kernel_rfl) ?_ _
                  go_wp2_with fail
                  go_meet
                  exact ⟨bm, V, vo, vc, rfl, HB.out, HIV.out, HVL.out, HSV.out, HNV.out, HBG.out, HQ.out⟩
                refine AllReadyH.consL (i := 8) rfl (fun K hK => ?_) ?_
                · go_simp
                  (obtain ⟨wx2, hwx⟩ : ∃ u, u = wx1 := ⟨_, rfl⟩; rw [← hwx] at cf HQ H5 ⊢; clear hwx)
                  refine hK.out _ _ (HQ.out) (fun hHeld => ?_)
                  clear hK K
                  try simp only [Act.put, List.setIfInBounds_toArray, List.set_cons_zero, List.set_cons_succ]
                  refine wpAnyH_ready (rs := [2, 10]) (by kernel_rfl) (by simp) ?_
                  refine AllReadyH.consL (i := 2) rfl (fun K hK => ?_) ?_
                  · go_simp
                    (refine (HCE.out _ HQ.out).mono ?_; rintro e wx3 ⟨V, vo, vc, rfl, hiv, hvl, hsv, fx3, hnv⟩; have HIV := Lib.hid hiv; have HVL := Lib.hid hvl; have HSV := Lib.hid hsv; have HNV := Lib.hid (fun q hq => (by have h1 := hnv q hq; have h2 := HQ.out.size; omega : ws.heap.size ≤ q)); clear cf; have H5 := Lib.hid (fx3.blk H5.out (by simp)); have cf : wx3.cell? ⟨b5, j, none⟩ = some (.int .i64 f) := (cell_blk H5.out j).trans HFJ.out; have HQ := Lib.hid (HQ.out.trans fx3 (by simp [Ext])); clear fx3 hiv hvl hsv hnv)
                    refine hK.out _ _ (HQ.out) (fun hHeld => ?_)
                    clear hK K
                    try simp only [Act.put, List.setIfInBounds_toArray, List.set_cons_zero, List.set_cons_succ]
                    refine wpAnyH_takeL (i := 9) (v := _) rfl (by kernel_rfl) (by kernel_rfl) (by kernel_rfl) (fun _ _ _ h => h) (Or.inl ⟨by rfl, (by intro w' hSw; (try dsimp only at hSw); skip; go_simp; try with_reducible rfl)⟩) (by assumption) ?_
                    try simp only [Act.put, List.setIfInBounds_toArray, List.set_cons_zero, List.set_cons_succ]
                    refine wpAnyH_ready (rs := [10]) (by kernel_rfl) (by simp) ?_
                    refine AllReadyH.consL (i := 10) rfl (fun K hK => ?_) AllReadyH.nil
                    go_simp
                    (obtain ⟨bm, hbm⟩ : ∃ bm, bm = wx3.heap.size := ⟨_, rfl⟩; obtain ⟨wx4, hwx⟩ : ∃ u, u = wx3.alloc (.cells #[.int .i64 0, .slice none 0 0, .int .i64 0, .int .i64 0] 32) := ⟨_, rfl⟩; rw [← hbm, ← hwx]; have fx : Fr [] wx3 wx4 := fr_alloc hwx; have HM := Lib.hid (blk_alloc hwx hbm : wx4.heap[bm]? = some (.cells #[.int .i64 0, .slice none 0 0, .int .i64 0, .int .i64 0] 32 (0, 0))); have HBG := Lib.hid (Nat.le_trans HQ.out.size (Nat.le_of_eq hbm.symm) : ws.heap.size ≤ bm); clear cf; have HSV := Lib.hid (HSV.out.fr fx (by simp)); have H5 := Lib.hid (fx.blk H5.out (by simp)); have cf : wx4.cell? ⟨b5, j, none⟩ = some (.int .i64 f) := (cell_blk H5.out j).trans HFJ.out; have HQ := Lib.hid (HQ.out.trans fx (by simp [Ext])); clear fx hwx hbm)
                    refine hK.out _ _ (HQ.out) (fun hHeld => ?_)
                    clear hK K
                    try simp only [Act.put, List.setIfInBounds_toArray, List.set_cons_zero, List.set_cons_succ]
                    refine wpAnyH_ready (rs := [11]) (by kernel_rfl) (by simp) ?_
                    refine AllReadyH.consL (i := 11) rfl (fun K hK => ?_) AllReadyH.nil
                    rw [if_pos (by rfl)]; refine wp_storeB 32 (Operand.tmp 8) (Operand.tmp 57) rfl bm 4 #[.int .i64 (tn : Int), .slice vo V.length vc, .int .i64 f, .int .i64 (-1)] rfl rfl _ 32 HM.out rfl rfl infoActS (by simp [Value.oneCell']) ?_; intro wf hbf hff; have HSV := Lib.hid (HSV.out.fr hff (fun q hq hm => by simp at hm; exact HSV.out.ne_type HM.out (by decide) (hm ▸ hq))); have HQ := Lib.hid (HQ.out.trans hff (fun k hk => .inr (by simp at hk; rw [hk]; exact HBG.out))); have HB := Lib.hid hbf; clear hbf hff
                    refine hK.out _ _ (HQ.out) (fun hHeld => ?_)
                    clear hK K
                    try simp only [Act.put, List.setIfInBounds_toArray, List.set_cons_zero, List.set_cons_succ]
                    refine wpAnyH_done (by kernel_rfl) ?_ _
                    go_wp2_with fail
                    go_meet
                    exact ⟨bm, V, vo, vc, rfl, HB.out, HIV.out, HVL.out, HSV.out, HNV.out, HBG.out, HQ.out⟩
                  refine AllReadyH.consL (i := 10) rfl (fun K hK => ?_) AllReadyH.nil
                  go_simp
                  (obtain ⟨bm, hbm⟩ : ∃ bm, bm = wx2.heap.size := ⟨_, rfl⟩; obtain ⟨wx3, hwx⟩ : ∃ u, u = wx2.alloc (.cells #[.int .i64 0, .slice none 0 0, .int .i64 0, .int .i64 0] 32) := ⟨_, rfl⟩; rw [← hbm, ← hwx]; have fx : Fr [] wx2 wx3 := fr_alloc hwx; have HM := Lib.hid (blk_alloc hwx hbm : wx3.heap[bm]? = some (.cells #[.int .i64 0, .slice none 0 0, .int .i64 0, .int .i64 0] 32 (0, 0))); have HBG := Lib.hid (Nat.le_trans HQ.out.size (Nat.le_of_eq hbm.symm) : ws.heap.size ≤ bm); clear cf; have H5 := Lib.hid (fx.blk H5.out (by simp)); have cf : wx3.cell? ⟨b5, j, none⟩ = some (.int .i64 f) := (cell_blk H5.out j).trans HFJ.out; have HQ := Lib.hid (HQ.out.trans fx (by simp [Ext])); clear fx hwx hbm)
                  refine hK.out _ _ (HQ.out) (fun hHeld => ?_)
                  clear hK K
                  try simp only [Act.put, List.setIfInBounds_toArray, List.set_cons_zero, List.set_cons_succ]
                  refine wpAnyH_ready (rs := [2]) (by kernel_rfl) (by simp) ?_
                  refine AllReadyH.consL (i := 2) rfl (fun K hK => ?_) AllReadyH.nil
                  go_simp
                  (refine (HCE.out _ HQ.out).mono ?_; rintro e wx4 ⟨V, vo, vc, rfl, hiv, hvl, hsv, fx4, hnv⟩; have HIV := Lib.hid hiv; have HVL := Lib.hid hvl; have HSV := Lib.hid hsv; have HNV := Lib.hid (fun q hq => (by have h1 := hnv q hq; have h2 := HQ.out.size; omega : ws.heap.size ≤ q)); clear cf; have H5 := Lib.hid (fx4.blk H5.out (by simp)); have cf : wx4.cell? ⟨b5, j, none⟩ = some (.int .i64 f) := (cell_blk H5.out j).trans HFJ.out; have HM := Lib.hid (fx4.blk HM.out (by simp)); have HQ := Lib.hid (HQ.out.trans fx4 (by simp [Ext])); clear fx4 hiv hvl hsv hnv)
                  refine hK.out _ _ (HQ.out) (fun hHeld => ?_)
                  clear hK K
                  try simp only [Act.put, List.setIfInBounds_toArray, List.set_cons_zero, List.set_cons_succ]
                  refine wpAnyH_takeL (i := 9) (v := _) rfl (by kernel_rfl) (by kernel_rfl) (by kernel_rfl) (fun _ _ _ h => h) (Or.inl ⟨by rfl, (by intro w' hSw; (try dsimp only at hSw); skip; go_simp; try with_reducible rfl)⟩) (by assumption) ?_
                  try simp only [Act.put, List.setIfInBounds_toArray, List.set_cons_zero, List.set_cons_succ]
                  refine wpAnyH_ready (rs := [11]) (by kernel_rfl) (by simp) ?_
                  refine AllReadyH.consL (i := 11) rfl (fun K hK => ?_) AllReadyH.nil
                  rw [if_pos (by rfl)]; refine wp_storeB 32 (Operand.tmp 8) (Operand.tmp 57) rfl bm 4 #[.int .i64 (tn : Int), .slice vo V.length vc, .int .i64 f, .int .i64 (-1)] rfl rfl _ 32 HM.out rfl rfl infoActS (by simp [Value.oneCell']) ?_; intro wf hbf hff; have HSV := Lib.hid (HSV.out.fr hff (fun q hq hm => by simp at hm; exact HSV.out.ne_type HM.out (by decide) (hm ▸ hq))); have HQ := Lib.hid (HQ.out.trans hff (fun k hk => .inr (by simp at hk; rw [hk]; exact HBG.out))); have HB := Lib.hid hbf; clear hbf hff
                  refine hK.out _ _ (HQ.out) (fun hHeld => ?_)
                  clear hK K
                  try simp only [Act.put, List.setIfInBounds_toArray, List.set_cons_zero, List.set_cons_succ]
                  refine wpAnyH_done (by kernel_rfl) ?_ _
                  go_wp2_with fail
                  go_meet
                  exact ⟨bm, V, vo, vc, rfl, HB.out, HIV.out, HVL.out, HSV.out, HNV.out, HBG.out, HQ.out⟩
                refine AllReadyH.consL (i := 10) rfl (fun K hK => ?_) AllReadyH.nil
                go_simp
                (obtain ⟨bm, hbm⟩ : ∃ bm, bm = wx1.heap.size := ⟨_, rfl⟩; obtain ⟨wx2, hwx⟩ : ∃ u, u = wx1.alloc (.cells #[.int .i64 0, .slice none 0 0, .int .i64 0, .int .i64 0] 32) := ⟨_, rfl⟩; rw [← hbm, ← hwx]; have fx : Fr [] wx1 wx2 := fr_alloc hwx; have HM := Lib.hid (blk_alloc hwx hbm : wx2.heap[bm]? = some (.cells #[.int .i64 0, .slice none 0 0, .int .i64 0, .int .i64 0] 32 (0, 0))); have HBG := Lib.hid (Nat.le_trans HQ.out.size (Nat.le_of_eq hbm.symm) : ws.heap.size ≤ bm); clear cf; have H5 := Lib.hid (fx.blk H5.out (by simp)); have cf : wx2.cell? ⟨b5, j, none⟩ = some (.int .i64 f) := (cell_blk H5.out j).trans HFJ.out; have HQ := Lib.hid (HQ.out.trans fx (by simp [Ext])); clear fx hwx hbm)
                refine hK.out _ _ (HQ.out) (fun hHeld => ?_)
                clear hK K
                try simp only [Act.put, List.setIfInBounds_toArray, List.set_cons_zero, List.set_cons_succ]
                refine wpAnyH_ready (rs := [2, 8]) (by kernel_rfl) (by simp) ?_
                refine AllReadyH.consL (i := 2) rfl (fun K hK => ?_) ?_
                · go_simp
                  (refine (HCE.out _ HQ.out).mono ?_; rintro e wx3 ⟨V, vo, vc, rfl, hiv, hvl, hsv, fx3, hnv⟩; have HIV := Lib.hid hiv; have HVL := Lib.hid hvl; have HSV := Lib.hid hsv; have HNV := Lib.hid (fun q hq => (by have h1 := hnv q hq; have h2 := HQ.out.size; omega : ws.heap.size ≤ q)); clear cf; have H5 := Lib.hid (fx3.blk H5.out (by simp)); have cf : wx3.cell? ⟨b5, j, none⟩ = some (.int .i64 f) := (cell_blk H5.out j).trans HFJ.out; have HM := Lib.hid (fx3.blk HM.out (by simp)); have HQ := Lib.hid (HQ.out.trans fx3 (by simp [Ext])); clear fx3 hiv hvl hsv hnv)
                  refine hK.out _ _ (HQ.out) (fun hHeld => ?_)
                  clear hK K
                  try simp only [Act.put, List.setIfInBounds_toArray, List.set_cons_zero, List.set_cons_succ]
                  refine wpAnyH_ready (rs := [8]) (by kernel_rfl) (by simp) ?_
                  refine AllReadyH.consL (i := 8) rfl (fun K hK => ?_) AllReadyH.nil
                  go_simp
                  (obtain ⟨wx4, hwx⟩ : ∃ u, u = wx3 := ⟨_, rfl⟩; rw [← hwx] at cf HQ H5 HSV HM ⊢; clear hwx)
                  refine hK.out _ _ (HQ.out) (fun hHeld => ?_)
                  clear hK K
                  try simp only [Act.put, List.setIfInBounds_toArray, List.set_cons_zero, List.set_cons_succ]
                  refine wpAnyH_takeL (i := 9) (v := _) rfl (by kernel_rfl) (by kernel_rfl) (by kernel_rfl) (fun _ _ _ h => h) (Or.inl ⟨by rfl, (by intro w' hSw; (try dsimp only at hSw); skip; go_simp; try with_reducible rfl)⟩) (by assumption) ?_
                  try simp only [Act.put, List.setIfInBounds_toArray, List.set_cons_zero, List.set_cons_succ]
                  refine wpAnyH_ready (rs := [11]) (by kernel_rfl) (by simp) ?_
                  refine AllReadyH.consL (i := 11) rfl (fun K hK => ?_) AllReadyH.nil
                  rw [if_pos (by rfl)]; refine wp_storeB 32 (Operand.tmp 8) (Operand.tmp 57) rfl bm 4 #[.int .i64 (tn : Int), .slice vo V.length vc, .int .i64 f, .int .i64 (-1)] rfl rfl _ 32 HM.out rfl rfl infoActS (by simp [Value.oneCell']) ?_; intro wf hbf hff; have HSV := Lib.hid (HSV.out.fr hff (fun q hq hm => by simp at hm; exact HSV.out.ne_type HM.out (by decide) (hm ▸ hq))); have HQ := Lib.hid (HQ.out.trans hff (fun k hk => .inr (by simp at hk; rw [hk]; exact HBG.out))); have HB := Lib.hid hbf; clear hbf hff
                  refine hK.out _ _ (HQ.out) (fun hHeld => ?_)
                  clear hK K
                  try simp only [Act.put, List.setIfInBounds_toArray, List.set_cons_zero, List.set_cons_succ]
                  refine wpAnyH_done (by kernel_rfl) ?_ _
                  go_wp2_with fail
                  go_meet
                  exact ⟨bm, V, vo, vc, rfl, HB.out, HIV.out, HVL.out, HSV.out, HNV.out, HBG.out, HQ.out⟩
                refine AllReadyH.consL (i := 8) rfl (fun K hK => ?_) AllReadyH.nil
                go_simp
                (obtain ⟨wx3, hwx⟩ : ∃ u, u = wx2 := ⟨_, rfl⟩; rw [← hwx] at cf HQ H5 HM ⊢; clear hwx)
                refine hK.out _ _ (HQ.out) (fun hHeld => ?_)
                clear hK K
                try simp only [Act.put, List.setIfInBounds_toArray, List.set_cons_zero, List.set_cons_succ]
                refine wpAnyH_ready (rs := [2]) (by kernel_rfl) (by simp) ?_
                refine AllReadyH.consL (i := 2) rfl (fun K hK => ?_) AllReadyH.nil
                go_simp
                (refine (HCE.out _ HQ.out).mono ?_; rintro e wx4 ⟨V, vo, vc, rfl, hiv, hvl, hsv, fx4, hnv⟩; have HIV := Lib.hid hiv; have HVL := Lib.hid hvl; have HSV := Lib.hid hsv; have HNV := Lib.hid (fun q hq => (by have h1 := hnv q hq; have h2 := HQ.out.size; omega : ws.heap.size ≤ q)); clear cf; have H5 := Lib.hid (fx4.blk H5.out (by simp)); have cf : wx4.cell? ⟨b5, j, none⟩ = some (.int .i64 f) := (cell_blk H5.out j).trans HFJ.out; have HM := Lib.hid (fx4.blk HM.out (by simp)); have HQ := Lib.hid (HQ.out.trans fx4 (by simp [Ext])); clear fx4 hiv hvl hsv hnv)
                refine hK.out _ _ (HQ.out) (fun hHeld => ?_)
                clear hK K
                try simp only [Act.put, List.setIfInBounds_toArray, List.set_cons_zero, List.set_cons_succ]
                refine wpAnyH_takeL (i := 9) (v := _) rfl (by kernel_rfl) (by kernel_rfl) (by kernel_rfl) (fun _ _ _ h => h) (Or.inl ⟨by rfl, (by intro w' hSw; (try dsimp only at hSw); skip; go_simp; try with_reducible rfl)⟩) (by assumption) ?_
                try simp only [Act.put, List.setIfInBounds_toArray, List.set_cons_zero, List.set_cons_succ]
                refine wpAnyH_ready (rs := [11]) (by kernel_rfl) (by simp) ?_
                refine AllReadyH.consL (i := 11) rfl (fun K hK => ?_) AllReadyH.nil
                rw [if_pos (by rfl)]; refine wp_storeB 32 (Operand.tmp 8) (Operand.tmp 57) rfl bm 4 #[.int .i64 (tn : Int), .slice vo V.length vc, .int .i64 f, .int .i64 (-1)] rfl rfl _ 32 HM.out rfl rfl infoActS (by simp [Value.oneCell']) ?_; intro wf hbf hff; have HSV := Lib.hid (HSV.out.fr hff (fun q hq hm => by simp at hm; exact HSV.out.ne_type HM.out (by decide) (hm ▸ hq))); have HQ := Lib.hid (HQ.out.trans hff (fun k hk => .inr (by simp at hk; rw [hk]; exact HBG.out))); have HB := Lib.hid hbf; clear hbf hff
                refine hK.out _ _ (HQ.out) (fun hHeld => ?_)
                clear hK K
                try simp only [Act.put, List.setIfInBounds_toArray, List.set_cons_zero, List.set_cons_succ]
                refine wpAnyH_done (by kernel_rfl) ?_ _
                go_wp2_with fail
                go_meet
                exact ⟨bm, V, vo, vc, rfl, HB.out, HIV.out, HVL.out, HSV.out, HNV.out, HBG.out, HQ.out⟩
              refine AllReadyH.consL (i := 10) rfl (fun K hK => ?_) AllReadyH.nil
              go_simp
              (obtain ⟨bm, hbm⟩ : ∃ bm, bm = wd.heap.size := ⟨_, rfl⟩; obtain ⟨wx1, hwx⟩ : ∃ u, u = wd.alloc (.cells #[.int .i64 0, .slice none 0 0, .int .i64 0, .int .i64 0] 32) := ⟨_, rfl⟩; rw [← hbm, ← hwx]; have fx : Fr [] wd wx1 := fr_alloc hwx; have HM := Lib.hid (blk_alloc hwx hbm : wx1.heap[bm]? = some (.cells #[.int .i64 0, .slice none 0 0, .int .i64 0, .int .i64 0] 32 (0, 0))); have HBG := Lib.hid (Nat.le_trans HQ.out.size (Nat.le_of_eq hbm.symm) : ws.heap.size ≤ bm); have HQ := Lib.hid (HQ.out.trans fx (by simp [Ext])); clear fx hwx hbm)
              refine hK.out _ _ (HQ.out) (fun hHeld => ?_)
              clear hK K
              try simp only [Act.put, List.setIfInBounds_toArray, List.set_cons_zero, List.set_cons_succ]
              refine wpAnyH_ready (rs := [2, 3]) (by kernel_rfl) (by simp) ?_
              refine AllReadyH.consL (i := 2) rfl (fun K hK => ?_) ?_
              · go_simp
                (refine (HCE.out _ HQ.out).mono ?_; rintro e wx2 ⟨V, vo, vc, rfl, hiv, hvl, hsv, fx2, hnv⟩; have HIV := Lib.hid hiv; have HVL := Lib.hid hvl; have HSV := Lib.hid hsv; have HNV := Lib.hid (fun q hq => (by have h1 := hnv q hq; have h2 := HQ.out.size; omega : ws.heap.size ≤ q)); have HM := Lib.hid (fx2.blk HM.out (by simp)); have HQ := Lib.hid (HQ.out.trans fx2 (by simp [Ext])); clear fx2 hiv hvl hsv hnv)
                refine hK.out _ _ (HQ.out) (fun hHeld => ?_)
                clear hK K
                try simp only [Act.put, List.setIfInBounds_toArray, List.set_cons_zero, List.set_cons_succ]
                refine wpAnyH_ready (rs := [3]) (by kernel_rfl) (by simp) ?_
                refine AllReadyH.consL (i := 3) rfl (fun K hK => ?_) AllReadyH.nil
                go_simp
                (obtain ⟨b5, hb5⟩ : ∃ b5, b5 = wx2.heap.size := ⟨_, rfl⟩; obtain ⟨wx3, hwx⟩ : ∃ u, u = wx2.alloc (.cells #[.int .i64 1, .int .i64 1, .int .i64 0, .int .i64 2, .int .i64 1] 3) := ⟨_, rfl⟩; rw [← hb5, ← hwx]; have fx : Fr [] wx2 wx3 := fr_alloc hwx; have H5 := Lib.hid (blk_alloc hwx hb5 : wx3.heap[b5]? = some (.cells #[.int .i64 1, .int .i64 1, .int .i64 0, .int .i64 2, .int .i64 1] 3 (0, 0))); have cf : wx3.cell? ⟨b5, j, none⟩ = some (.int .i64 f) := (cell_blk H5.out j).trans HFJ.out; have HSV := Lib.hid (HSV.out.fr fx (by simp)); have HM := Lib.hid (fx.blk HM.out (by simp)); have HQ := Lib.hid (HQ.out.trans fx (by simp [Ext])); clear fx hwx hb5)
                refine hK.out _ _ (HQ.out) (fun hHeld => ?_)
                clear hK K
                try simp only [Act.put, List.setIfInBounds_toArray, List.set_cons_zero, List.set_cons_succ]
                refine wpAnyH_takeL (i := 7) (v := _) rfl (by kernel_rfl) (by kernel_rfl) (by kernel_rfl) (fun _ _ _ h => h) (Or.inl ⟨by rfl, (by intro w' hSw; (try dsimp only at hSw); skip; go_simp; try with_reducible rfl)⟩) (by assumption) ?_
                try simp only [Act.put, List.setIfInBounds_toArray, List.set_cons_zero, List.set_cons_succ]
                refine wpAnyH_ready (rs := [8]) (by kernel_rfl) (by simp) ?_
                refine AllReadyH.consL (i := 8) rfl (fun K hK => ?_) AllReadyH.nil
                go_simp
                (obtain ⟨wx4, hwx⟩ : ∃ u, u = wx3 := ⟨_, rfl⟩; rw [← hwx] at cf HQ H5 HSV HM ⊢; clear hwx)
                refine hK.out _ _ (HQ.out) (fun hHeld => ?_)
                clear hK K
                try simp only [Act.put, List.setIfInBounds_toArray, List.set_cons_zero, List.set_cons_succ]
                refine wpAnyH_takeL (i := 9) (v := _) rfl (by kernel_rfl) (by kernel_rfl) (by kernel_rfl) (fun _ _ _ h => h) (Or.inl ⟨by rfl, (by intro w' hSw; (try dsimp only at hSw); skip; go_simp; try with_reducible rfl)⟩) (by assumption) ?_
                try simp only [Act.put, List.setIfInBounds_toArray, List.set_cons_zero, List.set_cons_succ]
                refine wpAnyH_ready (rs := [11]) (by kernel_rfl) (by simp) ?_
                refine AllReadyH.consL (i := 11) rfl (fun K hK => ?_) AllReadyH.nil
                rw [if_pos (by rfl)]; refine wp_storeB 32 (Operand.tmp 8) (Operand.tmp 57) rfl bm 4 #[.int .i64 (tn : Int), .slice vo V.length vc, .int .i64 f, .int .i64 (-1)] rfl rfl _ 32 HM.out rfl rfl infoActS (by simp [Value.oneCell']) ?_; intro wf hbf hff; have HSV := Lib.hid (HSV.out.fr hff (fun q hq hm => by simp at hm; exact HSV.out.ne_type HM.out (by decide) (hm ▸ hq))); have HQ := Lib.hid (HQ.out.trans hff (fun k hk => .inr (by simp at hk; rw [hk]; exact HBG.out))); have HB := Lib.hid hbf; clear hbf hff
                refine hK.out _ _ (HQ.out) (fun hHeld => ?_)
                clear hK K
                try simp only [Act.put, List.setIfInBounds_toArray, List.set_cons_zero, List.set_cons_succ]
                refine wpAnyH_done (by kernel_rfl) ?_ _
                go_wp2_with fail
                go_meet
                exact ⟨bm, V, vo, vc, rfl, HB.out, HIV.out, HVL.out, HSV.out, HNV.out, HBG.out, HQ.out⟩
              refine AllReadyH.consL (i := 3) rfl (fun K hK => ?_) AllReadyH.nil
              go_simp
              (obtain ⟨b5, hb5⟩ : ∃ b5, b5 = wx1.heap.size := ⟨_, rfl⟩; obtain ⟨wx2, hwx⟩ : ∃ u, u = wx1.alloc (.cells #[.int .i64 1, .int .i64 1, .int .i64 0, .int .i64 2, .int .i64 1] 3) := ⟨_, rfl⟩; rw [← hb5, ← hwx]; have fx : Fr [] wx1 wx2 := fr_alloc hwx; have H5 := Lib.hid (blk_alloc hwx hb5 : wx2.heap[b5]? = some (.cells #[.int .i64 1, .int .i64 1, .int .i64 0, .int .i64 2, .int .i64 1] 3 (0, 0))); have cf : wx2.cell? ⟨b5, j, none⟩ = some (.int .i64 f) := (cell_blk H5.out j).trans HFJ.out; have HM := Lib.hid (fx.blk HM.out (by simp)); have HQ := Lib.hid (HQ.out.trans fx (by simp [Ext])); clear fx hwx hb5)
              refine hK.out _ _ (HQ.out) (fun hHeld => ?_)
              clear hK K
              try simp only [Act.put, List.setIfInBounds_toArray, List.set_cons_zero, List.set_cons_succ]
              refine wpAnyH_takeL (i := 7) (v := _) rfl (by kernel_rfl) (by kernel_rfl) (by kernel_rfl) (fun _ _ _ h => h) (Or.inl ⟨by rfl, (by intro w' hSw; (try dsimp only at hSw); skip; go_simp; try with_reducible rfl)⟩) (by assumption) ?_
              try simp only [Act.put, List.setIfInBounds_toArray, List.set_cons_zero, List.set_cons_succ]
              refine wpAnyH_ready (rs := [2, 8]) (by kernel_rfl) (by simp) ?_
              refine AllReadyH.consL (i := 2) rfl (fun K hK => ?_) ?_
              · go_simp
                (refine (HCE.out _ HQ.out).mono ?_; rintro e wx3 ⟨V, vo, vc, rfl, hiv, hvl, hsv, fx3, hnv⟩; have HIV := Lib.hid hiv; have HVL := Lib.hid hvl; have HSV := Lib.hid hsv; have HNV := Lib.hid (fun q hq => (by have h1 := hnv q hq; have h2 := HQ.out.size; omega : ws.heap.size ≤ q)); clear cf; have H5 := Lib.hid (fx3.blk H5.out (by simp)); have cf : wx3.cell? ⟨b5, j, none⟩ = some (.int .i64 f) := (cell_blk H5.out j).trans HFJ.out; have HM := Lib.hid (fx3.blk HM.out (by simp)); have HQ := Lib.hid (HQ.out.trans fx3 (by simp [Ext])); clear fx3 hiv hvl hsv hnv)
                refine hK.out _ _ (HQ.out) (fun hHeld => ?_)
                clear hK K
                try simp only [Act.put, List.setIfInBounds_toArray, List.set_cons_zero, List.set_cons_succ]
                refine wpAnyH_ready (rs := [8]) (by kernel_rfl) (by simp) ?_
                refine AllReadyH.consL (i := 8) rfl (fun K hK => ?_) AllReadyH.nil
                go_simp
                (obtain ⟨wx4, hwx⟩ : ∃ u, u = wx3 := ⟨_, rfl⟩; rw [← hwx] at cf HQ H5 HSV HM ⊢; clear hwx)
                refine hK.out _ _ (HQ.out) (fun hHeld => ?_)
                clear hK K
                try simp only [Act.put, List.setIfInBounds_toArray, List.set_cons_zero, List.set_cons_succ]
                refine wpAnyH_takeL (i := 9) (v := _) rfl (by kernel_rfl) (by kernel_rfl) (by kernel_rfl) (fun _ _ _ h => h) (Or.inl ⟨by rfl, (by intro w' hSw; (try dsimp only at hSw); skip; go_simp; try with_reducible rfl)⟩) (by assumption) ?_
                try simp only [Act.put, List.setIfInBounds_toArray, List.set_cons_zero, List.set_cons_succ]
                refine wpAnyH_ready (rs := [11]) (by kernel_rfl) (by simp) ?_
                refine AllReadyH.consL (i := 11) rfl (fun K hK => ?_) AllReadyH.nil
                rw [if_pos (by rfl)]; refine wp_storeB 32 (Operand.tmp 8) (Operand.tmp 57) rfl bm 4 #[.int .i64 (tn : Int), .slice vo V.length vc, .int .i64 f, .int .i64 (-1)] rfl rfl _ 32 HM.out rfl rfl infoActS (by simp [Value.oneCell']) ?_; intro wf hbf hff; have HSV := Lib.hid (HSV.out.fr hff (fun q hq hm => by simp at hm; exact HSV.out.ne_type HM.out (by decide) (hm ▸ hq))); have HQ := Lib.hid (HQ.out.trans hff (fun k hk => .inr (by simp at hk; rw [hk]; exact HBG.out))); have HB := Lib.hid hbf; clear hbf hff
                refine hK.out _ _ (HQ.out) (fun hHeld => ?_)
                clear hK K
                try simp only [Act.put, List.setIfInBounds_toArray, List.set_cons_zero, List.set_cons_succ]
                refine wpAnyH_done (by kernel_rfl) ?_ _
                go_wp2_with fail
                go_meet
                exact ⟨bm, V, vo, vc, rfl, HB.out, HIV.out, HVL.out, HSV.out, HNV.out, HBG.out, HQ.out⟩
              refine AllReadyH.consL (i := 8) rfl (fun K hK => ?_) AllReadyH.nil
              go_simp
              (obtain ⟨wx3, hwx⟩ : ∃ u, u = wx2 := ⟨_, rfl⟩; rw [← hwx] at cf HQ H5 HM ⊢; clear hwx)
              refine hK.out _ _ (HQ.out) (fun hHeld => ?_)
              clear hK K
              try simp only [Act.put, List.setIfInBounds_toArray, List.set_cons_zero, List.set_cons_succ]
              refine wpAnyH_ready (rs := [2]) (by kernel_rfl) (by simp) ?_
              refine AllReadyH.consL (i := 2) rfl (fun K hK => ?_) AllReadyH.nil
              go_simp
              (refine (HCE.out _ HQ.out).mono ?_; rintro e wx4 ⟨V, vo, vc, rfl, hiv, hvl, hsv, fx4, hnv⟩; have HIV := Lib.hid hiv; have HVL := Lib.hid hvl; have HSV := Lib.hid hsv; have HNV := Lib.hid (fun q hq => (by have h1 := hnv q hq; have h2 := HQ.out.size; omega : ws.heap.size ≤ q)); clear cf; have H5 := Lib.hid (fx4.blk H5.out (by simp)); have cf : wx4.cell? ⟨b5, j, none⟩ = some (.int .i64 f) := (cell_blk H5.out j).trans HFJ.out; have HM := Lib.hid (fx4.blk HM.out (by simp)); have HQ := Lib.hid (HQ.out.trans fx4 (by simp [Ext])); clear fx4 hiv hvl hsv hnv)
              refine hK.out _ _ (HQ.out) (fun hHeld => ?_)
              clear hK K
              try simp only [Act.put, List.setIfInBounds_toArray, List.set_cons_zero, List.set_cons_succ]
              refine wpAnyH_takeL (i := 9) (v := _) rfl (by kernel_rfl) (by kernel_rfl) (by kernel_rfl) (fun _ _ _ h => h) (Or.inl ⟨by rfl, (by intro w' hSw; (try dsimp only at hSw); skip; go_simp; try with_reducible rfl)⟩) (by assumption) ?_
              try simp only [Act.put, List.setIfInBounds_toArray, List.set_cons_zero, List.set_cons_succ]
              refine wpAnyH_ready (rs := [11]) (by kernel_rfl) (by simp) ?_
              refine AllReadyH.consL (i := 11) rfl (fun K hK => ?_) AllReadyH.nil
              rw [if_pos (by rfl)]; refine wp_storeB 32 (Operand.tmp 8) (Operand.tmp 57) rfl bm 4 #[.int .i64 (tn : Int), .slice vo V.length vc, .int .i64 f, .int .i64 (-1)] rfl rfl _ 32 HM.out rfl rfl infoActS (by simp [Value.oneCell']) ?_; intro wf hbf hff; have HSV := Lib.hid (HSV.out.fr hff (fun q hq hm => by simp at hm; exact HSV.out.ne_type HM.out (by decide) (hm ▸ hq))); have HQ := Lib.hid (HQ.out.trans hff (fun k hk => .inr (by simp at hk; rw [hk]; exact HBG.out))); have HB := Lib.hid hbf; clear hbf hff
              refine hK.out _ _ (HQ.out) (fun hHeld => ?_)
              clear hK K
              try simp only [Act.put, List.setIfInBounds_toArray, List.set_cons_zero, List.set_cons_succ]
              refine wpAnyH_done (by kernel_rfl) ?_ _
              go_wp2_with fail
              go_meet
              exact ⟨bm, V, vo, vc, rfl, HB.out, HIV.out, HVL.out, HSV.out, HNV.out, HBG.out, HQ.out⟩
            case rest =>
              obtain ⟨wq, rfl⟩ : ∃ u : World, u = wc := ⟨_, rfl⟩
              obtain ⟨bm, V, vo, vc, rfl, hbm, hiv, hvl, hsv, hnv, hbg, hfq⟩ := hcut
              have HIV := Lib.hid hiv
              have HVL := Lib.hid hvl
              have HNV := Lib.hid hnv
              have HBG := Lib.hid hbg
              have HFQ := Lib.hid hfq
              have HSV := Lib.hid hsv
              have HBM := Lib.hid hbm
              have m3 : wq.cell? ⟨bm, 3, none⟩ = some (.int .i64 (-1)) := cell_blk hbm 3
              have y3 : wq.frozen? ⟨bm, 3, none⟩ = false := frozen_blk hbm 3
              clear hbm hiv hvl hsv hnv hbg hfq hji hj5 hj5i HCE hw3 hjt hjt2 hj0
              by_cases hp : 0 < n / 15 % 3
              case' pos =>
                have hpi : (0 : Int) < (n : Int) / 15 % 3 := by omega
                obtain ⟨q, hq⟩ : ∃ q, q = n / 45 % 4 := ⟨_, rfl⟩
                have hqi : (n : Int) / 45 % 4 = (q : Int) := by omega
                have hq4 : q < 4 := by omega
                have wk : IntKind.i64.wrap ((tn : Int) - (q : Int)) = (tn : Int) - (q : Int) := IntWalk.i64_in _ (by have := HTN.out; omega)
                clear hq hp
                go_upto_region 15 with fail
                obtain ⟨kk, hkk⟩ : ∃ kk, kk = (tn : Int) - (q : Int) := ⟨_, rfl⟩
                rw [← hkk]
                obtain ⟨w8, hw8⟩ : ∃ w8, w8 = wq.setCell ⟨bm, 3, none⟩ (.int .i64 kk) := ⟨_, rfl⟩
                rw [← hw8]
                have HB8 := Lib.hid (by rw [hw8, setCell_blk HBM.out]; rfl : w8.heap[bm]? = some (.cells #[.int .i64 (tn : Int), .slice vo V.length vc, .int .i64 f, .int .i64 kk] 32 (0, 0)))
                have HF8 := Lib.hid (by rw [hw8]; exact HFQ.out.setCell (p := ⟨bm, 3, none⟩) (.inr HBG.out) _ : Fr [] ws w8)
                have HSV8 := Lib.hid (by rw [hw8]; exact HSV.out.setCell_other (fun hm => HSV.out.ne_type HBM.out (by decide) hm) : Seg w8 48 2 vo V.length vc (V.flatMap clV))
                have HKK := Lib.hid (by have := HTN.out; omega : -5 ≤ kk ∧ kk ≤ (tn : Int))
                clear hkk hw8 wk hqi hq4 hpi
              case' neg =>
                have hpi : ¬ (0 : Int) < (n : Int) / 15 % 3 := by omega
                clear hp
                go_upto_region 15 with fail
                obtain ⟨kk, hkk⟩ : ∃ kk : Int, kk = -1 := ⟨_, rfl⟩
                obtain ⟨w8, hw8⟩ : ∃ w8, w8 = wq := ⟨_, rfl⟩
                have HB8 := Lib.hid (by rw [hw8, hkk]; exact HBM.out : w8.heap[bm]? = some (.cells #[.int .i64 (tn : Int), .slice vo V.length vc, .int .i64 f, .int .i64 kk] 32 (0, 0)))
                have HF8 := Lib.hid (by rw [hw8]; exact HFQ.out : Fr [] ws w8)
                have HSV8 := Lib.hid (by rw [hw8]; exact HSV.out : Seg w8 48 2 vo V.length vc (V.flatMap clV))
                have HKK := Lib.hid (by have := HTN.out; omega : -5 ≤ kk ∧ kk ≤ (tn : Int))
                rw [← hw8]
                clear hkk hw8 hpi
              all_goals
                have HAT8 := Lib.hid (HAT1.out.fr HF8.out (by simp) (by simp))
                have HS8 := Lib.hid (HS2.out.fr HF8.out (by simp))
                clear m3 y3
                go_wp2_with (first | (refine wpList_loadB rfl 32 (Operand.tmp 8) rfl bm 4 rfl #[.int .i64 (tn : Int), .slice vo V.length vc, .int .i64 f, .int .i64 kk] 32 (0, 0) HB8.out _ Try.underlying32 rfl rfl infoActS ?_) | (at_builtin; refine wpList_append_seg rfl _ _ 28 rfl 32 ia _ 4 48 Try.underlying28 hia ha0 ha1 ha2 rfl (by decide) oo lz.length oc (lz.flatMap AC.cells) rfl (HAT8.out.seg.alloc _) ⟨_, 0, none⟩ 1 1 [.int .i64 (tn : Int), .slice vo V.length vc, .int .i64 f, .int .i64 kk] rfl rfl (new_arr w8 #[.int .i64 (tn : Int), .slice vo V.length vc, .int .i64 f, .int .i64 kk] _) (by simp [Value.oneCell']) (by unfold maxLen; omega) (by omega) ?_; intro oo' oc' w9 hs9 hf9 hx9; have HS9 := Lib.hid hs9; have HF9 := Lib.hid hf9; have HX9 := Lib.hid hx9; clear hs9 hf9 hx9))
                have hsz8 := HF8.out.size
                have hszs := HF1.out.size
                have hf9 : Fr (blk oo) w8 w9 := ((Fr.refl _ w8).alloc _).trans HF9.out (Ext.refl _ _)
                have hda : ∀ a ∈ lz, ∀ k ∈ blk a.vo, k ∉ blk oo := fun a ha => (HAT8.out.views a ha).disj HAT8.out.seg (by decide)
                have hse : Seg w9 32 4 oo' (lz ++ [⟨tn, V, f, kk, vo, vc⟩] : List AC).length oc' ((lz ++ [⟨tn, V, f, kk, vo, vc⟩] : List AC).flatMap AC.cells) := by
                  have h := HS9.out
                  rw [List.length_append, List.flatMap_append]
                  exact h
                have HREL := Lib.hid (⟨i + 3, (tn : Int), lz ++ [⟨tn, V, f, kk, vo, vc⟩], N2, oo', no2, oc', nc2, ⟨by go_num, rfl, by simp, rfl⟩, ⟨by omega, by omega, by omega, by have := HAL.out; simp; omega, by omega, by have := HTN.out; omega⟩,
                  HOK.out.snoc HTN.out.1 ⟨Int.le_refl _, HIV.out, HVL.out, hf0, hf2, HKK.out.1, HKK.out.2⟩ (by have := HTN.out.1; omega),
                  ⟨hse, fun a ha => by
                    rcases List.mem_append.1 ha with q | q
                    · exact (HAT8.out.views a q).fr hf9 (hda a q)
                    · simp at q; rw [q]; exact HSV8.out.fr hf9 (HSV8.out.disj HAT8.out.seg (by decide))⟩,
                  HS8.out.fr hf9 (HS8.out.disj HAT8.out.seg (by decide)), HN2.out, HN2B.out, (HF1.out.trans HF8.out (by simp [Ext])).trans hf9 (fun k hk => .inr (HNO.out k hk)),
                  fun k hk => by
                    rcases HX9.out k hk with q | q
                    · exact HNO.out k q
                    · simp at q; omega,
                  HX2.out, fun a ha k hk => by
                    rcases List.mem_append.1 ha with q | q
                    · exact HNVW.out a q k hk
                    · simp at q; rw [q] at hk; have := HNV.out k hk; omega⟩ : ActsInv w l (.slice oo' (lz.length + 1) oc') (.int .i64 (tn : Int)) (.slice no2 N2.length nc2) (.int .i64 ((i : Int) + 3)) w9)
                clear hf9 hda hse
                go_wp2_with fail
                go_roundw
                case rel => exact HREL.out
                case measure => simp [intOf]; omega
      · have hd2 : decide ((i : Int) < 42) = false := decide_eq_false (by omega)
        clear h1 h2
        go_wp2_with fail
        go_ret
        exact ⟨lz, oo, oc, rfl, hasl, HOK.out.mono (by omega), HAT.out, HF.out, HNO.out, HNVW.out⟩
    · have hd1 : decide ((i : Int) + 2 < (l.length : Int)) = false := decide_eq_false (by omega)
      clear h1
      go_wp2_with fail
      go_ret
      exact ⟨lz, oo, oc, rfl, hasl, HOK.out.mono (by omega), HAT.out, HF.out, HNO.out, HNVW.out⟩
end Go.Proofs.Ytodfeaipoagphaa
