/- Point, Set27 (merged by merge.py). -/
import Derived.Test.YtdbngpncigjfiaaZ275
import Derived.Test.YtdbngpncigjfiaaZ272
import Derived.Test.YtdbngpncigjfiaaZ271
import Derived.RegionTactic
import Derived.ChangeAlike
import Derived.Test.YtdbngpncigjfiaaZ2710
import Derived.Test.YtdbngpncigjfiaaZ276
/- The reference's Point. -/
namespace Go.Proofs.Ytdbngpncigjfiaa
open Go.RowKit

def PointTo (w : World) (e : Ending) (w' : World) : Prop := ∃ x y, inC x ∧ inC y ∧ e = .returned (.agg #[.int .i64 x, .int .i64 y]) ∧ Fr [] w w'
theorem pointTo {w w' : World} {x y : Int} (hx : inC x) (hy : inC y) (hf : Fr [] w w') : PointTo w (.returned (.agg #[.int .i64 x, .int .i64 y])) w' := ⟨x, y, hx, hy, rfl, hf⟩

theorem five (q : Nat) (h : q < 5) : ∃ v : Int, (-1 ≤ v ∧ v ≤ 700) ∧ (#[.int .i64 0, .int .i64 0, .int .i64 1, .int .i64 (-1), .int .i64 700] : Array Value)[q]? = some (.int .i64 v) := by
  rcases (show q = 0 ∨ q = 1 ∨ q = 2 ∨ q = 3 ∨ q = 4 by omega) with rfl | rfl | rfl | rfl | rfl
  · exact ⟨0, by omega, rfl⟩
  · exact ⟨0, by omega, rfl⟩
  · exact ⟨1, by omega, rfl⟩
  · exact ⟨-1, by omega, rfl⟩
  · exact ⟨700, by omega, rfl⟩

set_option maxRecDepth 100000 in
set_option maxHeartbeats 8000000 in
theorem point_any (w : World) (a b : Int) (ha : bounded a) (hb : bounded b) :
    Calls Try.prog 11 #[.int .i64 a, .int .i64 b] w (PointTo w) := by
  obtain ⟨n, hn1, -, hA⟩ := around_nat a 10000000 ha (by omega) (by omega)
  obtain ⟨m, hm1, -, hB⟩ := around_nat b 10000000 hb (by omega) (by omega)
  have HA := Lib.hid hA
  have HB := Lib.hid hB
  obtain ⟨q, hq⟩ : ∃ q : Nat, q = n % 5 := ⟨_, rfl⟩
  obtain ⟨r, hr⟩ : ∃ r : Nat, r = m % 5 := ⟨_, rfl⟩
  have hq5 : q < 5 := by omega
  have hr5 : r < 5 := by omega
  obtain ⟨v, hv, hvq⟩ := five q hq5
  obtain ⟨u, hu, hur⟩ := five r hr5
  have hq5i : (q : Int) < 5 := by omega
  have hr5i : (r : Int) < 5 := by omega
  have tm : ∀ x y : Int, 0 ≤ x → x.tmod y = x % y := fun x y h => Int.tmod_eq_emod_of_nonneg h
  have hqm : (n : Int) % 5 = (q : Int) := by omega
  have hrm : (m : Int) % 5 = (r : Int) := by omega
  have k0 : ∀ w : World, (w.alloc (.cells #[.int .i64 0, .int .i64 0, .int .i64 1, .int .i64 (-1), .int .i64 700] 3)).cell? ⟨w.heap.size, q, none⟩ = some (.int .i64 v) := fun w => (cell_blk (alloc_new w _) q).trans hvq
  have j0 : ∀ w : World, (w.alloc (.cells #[.int .i64 0, .int .i64 0, .int .i64 1, .int .i64 (-1), .int .i64 700] 3)).cell? ⟨w.heap.size, r, none⟩ = some (.int .i64 u) := fun w => (cell_blk (alloc_new w _) r).trans hur
  have k1 : ∀ (w : World) o, ((w.alloc (.cells #[.int .i64 0, .int .i64 0, .int .i64 1, .int .i64 (-1), .int .i64 700] 3)).alloc o).cell? ⟨w.heap.size, q, none⟩ = some (.int .i64 v) := fun w o => (cell_blk (alloc_old (alloc_new w _)) q).trans hvq
  have j1 : ∀ (w : World) o, ((w.alloc (.cells #[.int .i64 0, .int .i64 0, .int .i64 1, .int .i64 (-1), .int .i64 700] 3)).alloc o).cell? ⟨w.heap.size, r, none⟩ = some (.int .i64 u) := fun w o => (cell_blk (alloc_old (alloc_new w _)) r).trans hur
  have k2 : ∀ (w : World) o, ((w.alloc o).alloc (.cells #[.int .i64 0, .int .i64 0, .int .i64 1, .int .i64 (-1), .int .i64 700] 3)).cell? ⟨w.heap.size + 1, q, none⟩ = some (.int .i64 v) := fun w o => (cell_blk (alloc_new2 w o _) q).trans hvq
  have j2 : ∀ (w : World) o, ((w.alloc o).alloc (.cells #[.int .i64 0, .int .i64 0, .int .i64 1, .int .i64 (-1), .int .i64 700] 3)).cell? ⟨w.heap.size + 1, r, none⟩ = some (.int .i64 u) := fun w o => (cell_blk (alloc_new2 w o _) r).trans hur
  have l0 : ∀ h, ([.int .i64 0, .int .i64 0, .int .i64 1, .int .i64 (-1), .int .i64 700] : List Value)[q]'h = .int .i64 v := fun h => by
    have := hvq; simp only [List.getElem?_toArray] at this; rw [List.getElem?_eq_getElem h] at this; injection this
  have l1 : ∀ h, ([.int .i64 0, .int .i64 0, .int .i64 1, .int .i64 (-1), .int .i64 700] : List Value)[r]'h = .int .i64 u := fun h => by
    have := hur; simp only [List.getElem?_toArray] at this; rw [List.getElem?_eq_getElem h] at this; injection this
  clear hA hB hq hr hvq hur k0 k1 k2 j0 j1 j2 tm
  by_cases h8 : (n : Int) % 9 = 8
  · have h8b : ((n : Int) % 9 == 8) = true := beq_iff_eq.2 h8
    clear h8
    go_enter Try.func11, Try.ntmps11
    go_wp2_with fail
    refine (HA.out _).mono ?_
    rintro e w1 ⟨rfl, hw1⟩
    rw [← hw1]
    clear hw1
    go_wp2_with fail
    refine (HB.out _).mono ?_
    rintro e w2 ⟨rfl, hw2⟩
    rw [← hw2]
    clear hw2
    go_wp2_with fail
    refine bodyPost_ret (v := .agg #[.int .i64 ((n : Int) % 2097153 - 1048576), .int .i64 ((m : Int) % 2097153 - 1048576)]) (by simp [results, Try.results11, go_sem]) rfl ?_
    exact pointTo (by unfold inC; omega) (by unfold inC; omega) ((Fr.refl _ _).alloc _)
  · have h8b : ((n : Int) % 9 == 8) = false := beq_eq_false_iff_ne.2 h8
    clear h8
    go_enter Try.func11, Try.ntmps11
    go_wp2_with fail
    refine (HA.out _).mono ?_
    rintro e w1 ⟨rfl, hw1⟩
    rw [← hw1]
    clear hw1
    go_wp2_with fail
    refine (HB.out _).mono ?_
    rintro e w2 ⟨rfl, hw2⟩
    rw [← hw2]
    clear hw2
    go_upto_region 5 with fail
    go_region
    all_goals
      go_wp2_with fail
      refine bodyPost_ret (v := .agg #[.int .i64 ((n : Int) / 9 % 13 * 1500 - 9000 + v), .int .i64 ((m : Int) / 9 % 9 * 1024 - 6000 + u)]) (by simp [results, Try.results11, go_sem]) rfl ?_
      exact pointTo (by unfold inC; omega) (by unfold inC; omega) ((((Fr.refl _ _).alloc _).alloc _).alloc _).drew
end Go.Proofs.Ytdbngpncigjfiaa
/- Chapter 27's generator: Setup (written by genset27.py). -/
namespace Go.Proofs.Ytdbngpncigjfiaa
open Go.RowKit

theorem infoBoxZ : (Try.prog.info? 25).map (fun i => (i.zero, i.size, i.bytes)) = some (some (.agg #[.int .i64 0, .int .i64 0, .int .i64 0, .int .i64 0]), 4, 32) := by kernel_rfl
theorem infoDoorZ : (Try.prog.info? 50).map (fun i => (i.zero, i.size, i.bytes)) = some (some (.agg #[.int .i64 0, .int .i64 0]), 2, 16) := by kernel_rfl

def boxOk (b : Bx) : Prop := b.x0 ≤ b.x1 ∧ b.y0 ≤ b.y1 ∧ inC b.x0 ∧ inC b.y0 ∧ inC b.x1 ∧ inC b.y1
def doorOk (R : Nat) (d : Int × Int) : Prop := (0 ≤ d.1 ∧ d.1 < (R : Int)) ∧ (0 ≤ d.2 ∧ d.2 < (R : Int))
structure Set27 (w w' : World) (s : St) (bodies : List Bd) (rooms : List Bx) (doors : List (Int × Int)) : Prop where
  nb : s.nb = bodies.length
  rd : Rd w' 9 s.bo bodies.length (bodies.flatMap Bd.cells)
  map : MapAt w' s rooms doors
  r5 : rooms.length ≤ 5
  rok : ∀ b ∈ rooms, boxOk b
  d5 : doors.length ≤ 5
  dok : ∀ d ∈ doors, doorOk rooms.length d
  rfit : rooms.length ≤ s.rc
  rcap : s.rc ≤ maxLen
  pl : 1 ≤ s.players ∧ s.players ≤ 3
  pn : s.players ≤ (bodies.length : Int)
  b5 : bodies.length ≤ 5
  fog : 0 ≤ s.fog ∧ s.fog ≤ 4194304
  good : ∀ d ∈ bodies, goodB d
  fr : Fr [] w w'
def Set27To (w : World) (e : Ending) (w' : World) : Prop := ∃ s bodies rooms doors, e = .returned s.val ∧ Set27 w w' s bodies rooms doors

/-- a setup with other rooms -/
def sr (s : St) (ro : Option Addr) (rn rc : Nat) : St := { s with ro := ro, rn := rn, rc := rc }
/-- a setup with other doors -/
def sd (s : St) (dO : Option Addr) (dn dc : Nat) : St := { s with dO := dO, dn := dn, dc := dc }

def RInv (wc : World) (b5 : Nat) (s : St) (N : Nat) (iv : Value) (wr : World) : Prop :=
  ∃ (i : Nat) (rooms : List Bx) (ro : Option Addr) (rc : Nat), i ≤ N ∧ i ≤ 5 ∧ iv = .int .i64 (i : Int) ∧ rooms.length = i ∧ wr.heap[b5]? = some (.cells (stCells (sr s ro i rc)) 31 (0, 0)) ∧ Fr [b5] wc wr ∧
    Seg wr 25 4 ro i rc (rooms.flatMap Bx.cells) ∧ (∀ k ∈ blk ro, wc.heap.size ≤ k) ∧ ∀ b ∈ rooms, boxOk b
def DInv (wc : World) (b5 : Nat) (s : St) (R : Nat) (iv : Value) (wr : World) : Prop :=
  ∃ (i j : Nat) (doors : List (Int × Int)) (dO : Option Addr) (dc : Nat), i ≤ 10 ∧ i = j + 5 ∧ iv = .int .i64 (i : Int) ∧ doors.length = j ∧ wr.heap[b5]? = some (.cells (stCells (sd s dO j dc)) 31 (0, 0)) ∧ Fr [b5] wc wr ∧
    Seg wr 50 2 dO j dc (doors.flatMap drCells) ∧ (∀ k ∈ blk dO, wc.heap.size ≤ k) ∧ ∀ d ∈ doors, doorOk R d

theorem six (q : Nat) (h : q < 6) : ∃ v : Int, (0 ≤ v ∧ v ≤ 4194304) ∧ (#[.int .i64 4194304, .int .i64 0, .int .i64 3000, .int .i64 6000, .int .i64 12000, .int .i64 100000] : Array Value)[q]? = some (.int .i64 v) := by
  rcases (show q = 0 ∨ q = 1 ∨ q = 2 ∨ q = 3 ∨ q = 4 ∨ q = 5 by omega) with rfl | rfl | rfl | rfl | rfl | rfl
  · exact ⟨4194304, by omega, rfl⟩
  · exact ⟨0, by omega, rfl⟩
  · exact ⟨3000, by omega, rfl⟩
  · exact ⟨6000, by omega, rfl⟩
  · exact ⟨12000, by omega, rfl⟩
  · exact ⟨100000, by omega, rfl⟩

theorem news2d (w : World) (o : Obj) (x y : Value) (T : TypeId) : ∀ j u, [x, y][j]? = some u → ((w.alloc o).alloc (.cells #[x, y] T)).drew.cell? ((⟨w.heap.size + 1, 0, none⟩ : Addr).add j) = some u := by
  intro j u hu
  rw [Addr.add_mid, Nat.zero_add]
  refine Eq.trans (show _ = ((w.alloc o).alloc (.cells #[x, y] T)).cell? ⟨w.heap.size + 1, j, none⟩ from rfl) ?_
  rw [cell_blk (alloc_new2 w _ _)]
  simpa using hu

set_option maxRecDepth 100000 in
set_option maxHeartbeats 16000000 in
theorem set27_any (w : World) (lo : Option Addr) (lc : Nat) (l : List Int) (hrd : Rd w 1 lo l.length (ints l)) (hb : ∀ x ∈ l, bounded x) (mo : Option Addr) (mc : Nat) (m : List Int) (hrm : Rd w 1 mo m.length (ints m)) (hbm : ∀ x ∈ m, bounded x) :
    Calls Try.prog 10 #[.slice lo l.length lc, .slice mo m.length mc] w (Set27To w) := by
  have hml : m.length ≤ 9223372036854775807 := by have := hrm.2.1; unfold maxLen at this; omega
  have HRM := Lib.hid hrm
  have HBM := Lib.hid hbm
  obtain ⟨r0, hr0⟩ : ∃ r0, r0 = w.heap.size := ⟨_, rfl⟩
  obtain ⟨ZS, hZS⟩ : ∃ ZS : Array Value, ZS = #[.int .i64 0, .slice none 0 0, .int .i64 0, .int .i64 0, .int .i64 0, .int .i64 0, .slice none 0 0, .slice none 0 0, .int .i64 0, .int .i64 0, .int .i64 0, .int .i64 0, .int .i64 0, .int .i64 0, .int .i64 0, .int .i64 0] := ⟨_, rfl⟩
  obtain ⟨wb, hwb⟩ : ∃ wb, wb = w.alloc (.cells ZS 31) := ⟨_, rfl⟩
  have HWB := Lib.hid (by rw [hwb]; exact (Fr.refl [] w).alloc _ : Fr [] w wb)
  have HBR := Lib.hid (by rw [hwb, hr0]; exact alloc_new w _ : wb.heap[r0]? = some (.cells ZS 31 (0, 0)))
  have HSU := Lib.hid (setup_any wb lo lc l (hrd.fr HWB.out (by simp)) hb)
  have HR0 := Lib.hid hr0
  have HZS := Lib.hid hZS
  have HWE := Lib.hid hwb
  clear hrd hb hrm hbm hr0 hZS hwb
  go_enter Try.func10, Try.ntmps10
  go_upto_region 1 with (fail)
  rw [← HR0.out, ← HZS.out, ← HWE.out]
  go_wp2_with fail
  refine HSU.out.mono ?_
  rintro e w1 ⟨s0, bodies, doors0, rfl, hs⟩
  have HS0 := Lib.hid hs
  have hbr := hs.fr.blk HBR.out (by simp)
  have HBR1 := Lib.hid hbr
  have HF1 := Lib.hid (HWB.out.trans hs.fr (by simp [Ext]))
  have hsz1 := lt_of_blk hbr
  clear HSU HBR hs hbr
  unfold St.val
  obtain ⟨b5, hb5⟩ : ∃ b5, b5 = w1.heap.size := ⟨_, rfl⟩
  have HB5 := Lib.hid hb5
  go_wp2_with (refine wpList_storeB rfl 31 (Operand.tmp 5) (Operand.tmp 14) rfl w1.heap.size 16 (stCells s0) rfl rfl _ 31 (by exact alloc_new _ _) rfl rfl infoSetup (by simp [stCells, Value.oneCell']) ?_; intro w2 hb2 hf2; have F2 := Lib.hid (((Fr.refl [] w1).alloc _).trans hf2 (fun k hk => .inr (by simp at hk; omega))); have B2 := Lib.hid hb2; have q6 : w2.cell? ⟨w1.heap.size, 6, none⟩ = some (.slice s0.ro s0.rn s0.rc) := cell_blk hb2 6; have q7 : w2.cell? ⟨w1.heap.size, 7, none⟩ = some (.slice s0.dO s0.dn s0.dc) := cell_blk hb2 7; have g6 : w2.frozen? ⟨w1.heap.size, 6, none⟩ = false := frozen_blk hb2 6; have g7 : w2.frozen? ⟨w1.heap.size, 7, none⟩ = false := frozen_blk hb2 7; clear hb2 hf2 hb5)
  obtain ⟨wz, hwz⟩ : ∃ wz, wz = (w2.setCell ⟨w1.heap.size, 6, none⟩ (.slice none 0 0)).setCell ⟨w1.heap.size, 7, none⟩ (.slice none 0 0) := ⟨_, rfl⟩
  obtain ⟨s1, hs1⟩ : ∃ s1, s1 = sd (sr s0 none 0 0) none 0 0 := ⟨_, rfl⟩
  have HBZ := Lib.hid (by rw [hwz, HB5.out, hs1]; exact setCell_blk (setCell_blk B2.out 6 _) 7 _ : wz.heap[b5]? = some (.cells (stCells s1) 31 (0, 0)))
  have HFZ := Lib.hid (by rw [hwz]; exact (F2.out.setCell (p := ⟨w1.heap.size, 6, none⟩) (.inr (Nat.le_refl _)) _).setCell (p := ⟨w1.heap.size, 7, none⟩) (.inr (Nat.le_refl _)) _ : Fr [] w1 wz)
  have HS1 := Lib.hid hs1
  rw [← hwz, ← HB5.out]
  have h5z : b5 < wz.heap.size := lt_of_blk HBZ.out
  have h51 : w1.heap.size ≤ b5 := by rw [HB5.out]; exact Nat.le_refl _
  clear hwz hs1 q6 q7 g6 g7 B2 F2
  go_loopw [6] (fun iv wr => RInv wz b5 s1 m.length iv wr) (fun iv _ => 5 - (intOf iv).toNat)
  case atStart => exact ⟨0, [], none, 0, by omega, by omega, rfl, rfl, by rw [HS1.out]; have h := HBZ.out; rw [HS1.out] at h; exact h, Fr.refl _ _, by simpa using Seg.nil wz _ 4, by simp [blk], by simp⟩
  case round =>
    obtain ⟨i, rooms, ro, rc, hiN, hi5, rfl, hrl, hb5, hf5, hseg, hbn, hall⟩ := hrel
    have HRL := Lib.hid hrl
    have HBB := Lib.hid hb5
    have HFF := Lib.hid hf5
    have HSG := Lib.hid hseg
    have HBN := Lib.hid hbn
    have HALL := Lib.hid hall
    have c6 : wr.cell? ⟨b5, 6, none⟩ = some (.slice ro i rc) := cell_blk hb5 6
    have HSB := Lib.hid (fun h => by have := hbn b5 h; omega : b5 ∉ blk ro)
    clear hrl hb5 hf5 hseg hbn hall
    by_cases hin : i < m.length ∧ i < 5
    · obtain ⟨him, hi5b⟩ := hin
      obtain ⟨n, hn1, -, hA⟩ := around_nat m[i] 1000000 (HBM.out _ (List.getElem_mem him)) (by omega) (by omega)
      have HA := Lib.hid hA
      have hm1 := ((HRM.out.fr HF1.out (by simp)).fr HFZ.out (by simp))
      have ci : ∃ g off, mo = some ⟨g, off, none⟩ ∧ wr.cell? ⟨g, off + i, none⟩ = some (.int .i64 m[i]) := by
        obtain ⟨g, off, h1, h2, h3⟩ := (HRM.out.fr HF1.out (by simp)).at (by omega)
        refine ⟨g, off, h1, ?_⟩
        rw [World.cell?_of_block (a := ⟨g, off + i, none⟩) ((HFZ.out.trans HFF.out (fun k hk => .inr (by simp at hk; rw [hk]; exact h51))).block g h2 (by simp)), h3 i (by omega), ints_get, List.getElem?_eq_getElem him]; rfl
      obtain ⟨g, off, hmo, ci⟩ := ci
      obtain ⟨x, hx⟩ : ∃ x, x = m[i] := ⟨_, rfl⟩
      rw [← hx] at ci HA
      have hii : (i : Int) < (m.length : Int) := by omega
      have hii5 : (i : Int) < 5 := by omega
      obtain ⟨X, hX⟩ : ∃ X, (n : Int) % 6 * 3000 - 9000 = X := ⟨_, rfl⟩
      obtain ⟨Y, hY⟩ : ∃ Y, (n : Int) / 6 % 3 * 3000 - 6000 = Y := ⟨_, rfl⟩
      obtain ⟨Z, hZ⟩ : ∃ Z, X + 3000 + (n : Int) / 18 % 3 * 1500 = Z := ⟨_, rfl⟩
      have hXb : -9000 ≤ X ∧ X ≤ 6000 := by omega
      have hYb : -6000 ≤ Y ∧ Y ≤ 0 := by omega
      have HZb := Lib.hid (by omega : X ≤ Z ∧ Z ≤ 12000)
      obtain ⟨hX1, hX2⟩ := hXb
      obtain ⟨hY1, hY2⟩ := hYb
      have HSA := Lib.hid fun (o : Obj) => HSG.out.alloc o
      obtain ⟨ib, hib, hbz0, hbz1, hbz2⟩ := info_parts infoBoxZ
      have HMO := Lib.hid hmo
      rw [hmo]
      clear hA hm1 hx hmo
      go_wp2_with fail
      refine (HA.out _).mono ?_
      rintro e w3 ⟨rfl, rfl⟩
      go_wp2_with (at_builtin; refine wpList_append_seg rfl _ _ 26 rfl 25 ib _ 4 32 Try.underlying26 hib hbz0 hbz1 hbz2 rfl (by decide) ro i rc (rooms.flatMap Bx.cells) rfl (HSA.out _) ⟨_, 0, none⟩ 1 1 [.int .i64 X, .int .i64 Y, .int .i64 Z, .int .i64 (Y + 4096)] rfl rfl (fun j u hu => by rw [Addr.add_mid, Nat.zero_add, World.cell?_alloc_new]; simpa using hu) (by simp [Value.oneCell']) (by unfold maxLen; omega) (by omega) ?_; intro ao' cap' w10 hs10 hf10 hx10; have HS10 := Lib.hid hs10; have HF10 := Lib.hid (((Fr.refl (blk ro) wr).alloc _).trans hf10 (Ext.refl _ _)); have HX10 := Lib.hid hx10; have hsb := HF10.out.blk HBB.out HSB.out; have c1t : w10.cell? ⟨b5, 6, none⟩ = some (.slice ro i rc) := cell_blk hsb 6; have g1t : w10.frozen? ⟨b5, 6, none⟩ = false := frozen_blk hsb 6; have HSBB := Lib.hid hsb; clear hs10 hf10 hx10 hsb)
      go_roundw
      case rel =>
        have hsz := HFF.out.size
        have hsao : b5 ∉ blk ao' := fun hm => by
          rcases HX10.out _ hm with h | h
          · exact HSB.out h
          · simp at h; omega
        refine ⟨i + 1, rooms ++ [⟨X, Y, Z, Y + 4096⟩], ao', cap', by omega, by omega, by go_num, by rw [List.length_append, HRL.out]; rfl, setCell_blk HSBB.out 6 _, ?_, ?_, ?_, ?_⟩
        · exact (HFF.out.trans HF10.out (fun k hk => .inr (by have := HBN.out k hk; omega))).setCell (p := ⟨b5, 6, none⟩) (.inl (by simp)) _
        · rw [List.flatMap_append]
          have h := HS10.out.setCell_other (p := ⟨b5, 6, none⟩) (v := .slice ao' (i + 1) cap') hsao
          simpa [Bx.cells] using h
        · intro k hk
          rcases HX10.out k hk with h | h
          · exact HBN.out k h
          · simp at h; omega
        · intro b hb
          rcases List.mem_append.1 hb with h | h
          · exact HALL.out b h
          · simp at h; subst h
            have := HZb.out
            exact ⟨this.1, by simp only; omega, by unfold inC; simp only; omega, by unfold inC; simp only; omega, by unfold inC; simp only; omega, by unfold inC; simp only; omega⟩
      case measure => simp [intOf]; omega
    · have hne : m.length ≤ i ∨ 5 ≤ i := by omega
      obtain ⟨R, hR⟩ : ∃ R, R = i := ⟨_, rfl⟩
      have hR5 : R ≤ 5 := by omega
      obtain ⟨s2, hs2⟩ : ∃ s2, s2 = sr s1 ro R rc := ⟨_, rfl⟩
      have HB2 := Lib.hid (by rw [hs2, hR]; exact HBB.out : wr.heap[b5]? = some (.cells (stCells s2) 31 (0, 0)))
      have HSG2 := Lib.hid (by rw [hR]; exact HSG.out : Seg wr 25 4 ro R rc (rooms.flatMap Bx.cells))
      have HRL2 := Lib.hid (by rw [hR]; exact HRL.out : rooms.length = R)
      have HS2 := Lib.hid hs2
      have c6 : wr.cell? ⟨b5, 6, none⟩ = some (.slice ro R rc) := by rw [hR]; exact cell_blk HBB.out 6
      have HMI := Lib.hid (fun (k : Nat) (hk : k < m.length) => by
        obtain ⟨g, off, h1, h2, h3⟩ := (HRM.out.fr HF1.out (by simp)).at (by omega)
        refine ⟨g, off, h1, Nat.lt_of_lt_of_le h2 (HFZ.out.trans HFF.out (fun k hk => .inr (by simp at hk; rw [hk]; exact h51))).size, ?_⟩
        rw [World.cell?_of_block (a := ⟨g, off + k, none⟩) ((HFZ.out.trans HFF.out (fun k hk => .inr (by simp at hk; rw [hk]; exact h51))).block g h2 (by simp)), h3 k (by omega), ints_get, List.getElem?_eq_getElem hk]; rfl :
          ∀ (k : Nat) (hk : k < m.length), ∃ g off, mo = some ⟨g, off, none⟩ ∧ g < wr.heap.size ∧ wr.cell? ⟨g, off + k, none⟩ = some (.int .i64 m[k]))
      have HBL5 := Lib.hid (lt_of_blk HB2.out)
      have hwbb : b5 < wr.heap.size := HBL5.out
      clear hin hR hs2
      go_upto_region 5 with fail
      go_cut [24] (fun s wc => s = .bool false ∧ wc = wr)
      case first =>
        rcases hne with hq | hq
        · go_wp2_with fail
          go_meet
          exact ⟨rfl, rfl⟩
        · have hq5 : i = 5 := by omega
          subst hq5
          by_cases hq2 : (5 : Nat) < m.length
          · have hq3 : (5 : Int) < (m.length : Int) := by omega
            go_wp2_with fail
            go_meet
            exact ⟨rfl, rfl⟩
          · have hq3 : (m.length : Int) ≤ 5 := by omega
            go_wp2_with fail
            go_meet
            exact ⟨rfl, rfl⟩
      case rest =>
        obtain ⟨rfl, hwc⟩ := hcut
        subst hwc
        obtain ⟨wo, rfl⟩ : ∃ wo : World, wo = wc := ⟨_, rfl⟩
        clear hne
        go_wp2_with fail
        go_loopw [10] (fun iv wr => DInv wo b5 s2 R iv wr) (fun iv _ => 10 - (intOf iv).toNat)
        case atStart => exact ⟨5, 0, [], none, 0, by omega, by omega, rfl, rfl, by have h := HB2.out; rw [HS2.out, HS1.out] at h ⊢; exact h, Fr.refl _ _, by simpa using Seg.nil wo _ 2, by simp [blk], by simp⟩
        case round =>
          obtain ⟨i2, j, doors, dO, dc, hi10, hij, rfl, hdl, hb5, hf5, hseg, hbn, hall⟩ := hrel
          have HIJ := Lib.hid hij
          have hi5' : 5 ≤ i2 := by omega
          have hj5 : j ≤ 5 := by omega
          have HDL := Lib.hid hdl
          have HBB3 := Lib.hid hb5
          have HFF3 := Lib.hid hf5
          have HSG3 := Lib.hid (fun (u : World) (hu : Fr [] wr u) => hseg.fr hu (by simp))
          have HBN3 := Lib.hid hbn
          have HALL3 := Lib.hid hall
          have e6 : wr.cell? ⟨b5, 6, none⟩ = some (.slice ro R rc) := by have h := cell_blk hb5 6; rw [HS2.out] at h; exact h
          have e7 : wr.cell? ⟨b5, 7, none⟩ = some (.slice dO j dc) := cell_blk hb5 7
          have e6a : ∀ o, (wr.alloc o).cell? ⟨b5, 6, none⟩ = some (.slice ro R rc) := fun o => by have h := cell_blk (alloc_old (o' := o) hb5) 6; rw [HS2.out] at h; exact h
          have e7a : ∀ o, (wr.alloc o).cell? ⟨b5, 7, none⟩ = some (.slice dO j dc) := fun o => cell_blk (alloc_old (o' := o) hb5) 7
          have HSB3 := Lib.hid (fun h => by have := hbn b5 h; omega : b5 ∉ blk dO)
          clear hij hdl hb5 hf5 hseg hbn hall c6
          by_cases hin : i2 < m.length ∧ i2 < 10 ∧ 1 < R
          · obtain ⟨him, hi10b, hR1⟩ := hin
            obtain ⟨n, hn1, -, hA⟩ := around_nat m[i2] 1000000 (HBM.out _ (List.getElem_mem him)) (by omega) (by omega)
            have HA := Lib.hid hA
            obtain ⟨g, off, hmo, hgl, ci0⟩ := HMI.out i2 him
            have ci : wr.cell? ⟨g, off + i2, none⟩ = some (.int .i64 m[i2]) := by
              rw [World.cell?_of_block (a := ⟨g, off + i2, none⟩) (HFF3.out.block g hgl (by
                intro hk; simp at hk
                obtain ⟨g', off', h1, h2, h3⟩ := (HRM.out.fr HF1.out (by simp)).at (by omega)
                rw [hmo] at h1; cases h1; omega))]; exact ci0
            clear ci0
            obtain ⟨x, hx⟩ : ∃ x, x = m[i2] := ⟨_, rfl⟩
            rw [← hx] at ci HA
            have hii : (i2 : Int) < (m.length : Int) := by omega
            have hii5 : (i2 : Int) < 10 := by omega
            have hRi : (1 : Int) < (R : Int) := by omega
            obtain ⟨p, hp⟩ : ∃ p : Nat, n % R = p := ⟨_, rfl⟩
            obtain ⟨t, ht⟩ : ∃ t : Nat, n / 8 % (R - 1) = t := ⟨_, rfl⟩
            obtain ⟨q, hq⟩ : ∃ q : Nat, (p + 1 + t) % R = q := ⟨_, rfl⟩
            have hpR : p < R := by rw [← hp]; exact Nat.mod_lt _ (by omega)
            have htR : t < R - 1 := by rw [← ht]; exact Nat.mod_lt _ (by omega)
            have hqR : q < R := by rw [← hq]; exact Nat.mod_lt _ (by omega)
            have p1 : (n : Int) % (R : Int) = (p : Int) := by rw [← hp]; exact (Int.natCast_emod n R).symm
            have t1 : (n : Int) / 8 % ((R : Int) - 1) = (t : Int) := by rw [← ht, show (R : Int) - 1 = ((R - 1 : Nat) : Int) by omega, show (n : Int) / 8 = ((n / 8 : Nat) : Int) by omega]; exact (Int.natCast_emod _ _).symm
            have q1 : ((p : Int) + 1 + (t : Int)) % (R : Int) = (q : Int) := by rw [← hq, show (p : Int) + 1 + (t : Int) = ((p + 1 + t : Nat) : Int) by omega]; exact (Int.natCast_emod _ _).symm
            have hpi : (p : Int) < 5 := by omega
            have hti : (t : Int) < 5 := by omega
            obtain ⟨id, hid, hdz0, hdz1, hdz2⟩ := info_parts infoDoorZ
            have HPQ := Lib.hid (⟨hpR, hqR⟩ : p < R ∧ q < R)
            have HMO := Lib.hid hmo
            rw [hmo]
            clear hA hx hmo hp ht hq hpR htR hqR him hi10b
            go_wp2_with fail
            refine (HA.out _).mono ?_
            rintro e w3 ⟨rfl, rfl⟩
            go_wp2_with fail
            go_region
            go_wp2_with (at_builtin; refine wpList_append_seg rfl _ _ 27 rfl 50 id _ 2 16 Try.underlying27 hid hdz0 hdz1 hdz2 rfl (by decide) dO j dc (doors.flatMap drCells) rfl (HSG3.out _ (by first | exact (((Fr.refl [] wr).alloc _).alloc _).drew | exact ((Fr.refl [] wr).alloc _).drew.alloc _)) ⟨_, 0, none⟩ 1 1 [.int .i64 (p : Int), .int .i64 (q : Int)] rfl rfl (news2d _ _ _ _ _) (by simp [Value.oneCell']) (by unfold maxLen; omega) (by omega) ?_; intro ao' cap' w10 hs10 hf10 hx10; have HS10 := Lib.hid hs10; have HF10 := Lib.hid ((((Fr.refl (blk dO) wr).alloc _).alloc _).drew.trans hf10 (Ext.refl _ _)); have HX10 := Lib.hid hx10; have hsb := HF10.out.blk HBB3.out HSB3.out; have c1t : w10.cell? ⟨b5, 7, none⟩ = some (.slice dO j dc) := cell_blk hsb 7; have g1t : w10.frozen? ⟨b5, 7, none⟩ = false := frozen_blk hsb 7; have HSBB := Lib.hid hsb; clear hs10 hf10 hx10 hsb)
            go_roundw
            case rel =>
              have hsz := HFF3.out.size
              have hsao : b5 ∉ blk ao' := fun hm => by
                rcases HX10.out _ hm with h | h
                · exact HSB3.out h
                · simp at h; omega
              have hij := HIJ.out
              refine ⟨i2 + 1, j + 1, doors ++ [((p : Int), (q : Int))], ao', cap', by omega, by omega, by go_num, by rw [List.length_append, HDL.out]; rfl, setCell_blk HSBB.out 7 _, ?_, ?_, ?_, ?_⟩
              · exact (HFF3.out.trans HF10.out (fun k hk => .inr (by have := HBN3.out k hk; omega))).setCell (p := ⟨b5, 7, none⟩) (.inl (by simp)) _
              · rw [List.flatMap_append]
                have h := HS10.out.setCell_other (p := ⟨b5, 7, none⟩) (v := .slice ao' (j + 1) cap') hsao
                simpa [drCells] using h
              · intro k hk
                rcases HX10.out k hk with h | h
                · exact HBN3.out k h
                · simp at h; omega
              · intro b hb
                rcases List.mem_append.1 hb with h | h
                · exact HALL3.out b h
                · simp at h; subst h
                  have := HPQ.out
                  exact ⟨⟨by simp only; omega, by simp only; omega⟩, by simp only; omega, by simp only; omega⟩
            case measure => simp [intOf]; omega
          · have hne : m.length ≤ i2 ∨ 10 ≤ i2 ∨ R ≤ 1 := by omega
            have e6b : wr.cell? ⟨b5, 6, none⟩ = some (.slice ro R rc) := e6
            clear hin e7 e7a e6a
            go_upto_region 12 with fail
            go_cut [71] (fun s wc => s = .bool false ∧ wc = wr)
            case first =>
              by_cases h1 : i2 < m.length
              · have h1i : (i2 : Int) < (m.length : Int) := by omega
                by_cases h2 : i2 < 10
                · have h2i : (i2 : Int) < 10 := by omega
                  have h3 : R ≤ 1 := by omega
                  have h3i : decide ((1 : Int) < (R : Int)) = false := decide_eq_false (by omega)
                  go_wp2_with fail
                  go_meet
                  exact ⟨rfl, rfl⟩
                · have h2i : 10 ≤ (i2 : Int) := by omega
                  go_wp2_with fail
                  go_meet
                  exact ⟨rfl, rfl⟩
              · have h1i : (m.length : Int) ≤ (i2 : Int) := by omega
                go_wp2_with fail
                go_meet
                exact ⟨rfl, rfl⟩
            case rest =>
              obtain ⟨rfl, hwc⟩ := hcut
              subst hwc
              clear hne e6 e6b
              have HPI := Lib.hid (fun (u : World) (hu : Fr [] wc u) => (by
                have h0 : Rd u 1 mo m.length (ints m) := by
                  refine ⟨HRM.out.1, HRM.out.2.1, ?_⟩
                  rcases Nat.eq_zero_or_pos m.length with h | h
                  · exact .inl h
                  · right
                    obtain ⟨g, off, h1, h2, h3⟩ := (HRM.out.fr HF1.out (by simp)).at h
                    refine ⟨g, off, h1, ?_, fun j hj => ?_⟩
                    · have a1 := HFZ.out.size; have a2 := HFF.out.size; have a3 := HFF3.out.size; have a4 := hu.size; omega
                    · rw [World.cell?_of_block (a := ⟨g, off + j, none⟩) (hu.block g (by have a1 := HFZ.out.size; have a2 := HFF.out.size; have a3 := HFF3.out.size; omega) (by simp)),
                        World.cell?_of_block (a := ⟨g, off + j, none⟩) (HFF3.out.block g (by have a1 := HFZ.out.size; have a2 := HFF.out.size; omega) (by simp; omega)),
                        World.cell?_of_block (a := ⟨g, off + j, none⟩) (HFF.out.block g (by have a1 := HFZ.out.size; omega) (by simp; omega)),
                        World.cell?_of_block (a := ⟨g, off + j, none⟩) (HFZ.out.block g h2 (by simp))]
                      exact h3 j hj
                exact pick_any u mo mc m 10 6 h0 HBM.out (by omega) (by omega) (by omega) : Calls Try.prog 30 #[.slice mo m.length mc, .int .i64 10, .int .i64 6] u (NatLt 6 u)))
              have e8a : ∀ o, (wc.alloc o).cell? ⟨b5, 8, none⟩ = some (.int .i64 s0.fog) := fun o => by have h := cell_blk (alloc_old (o' := o) HBB3.out) 8; rw [HS2.out, HS1.out] at h; exact h
              have g8a : ∀ o, (wc.alloc o).frozen? ⟨b5, 8, none⟩ = false := fun o => frozen_blk (alloc_old (o' := o) HBB3.out) 8
              go_wp2_with fail
              refine (HPI.out _ (by exact (Fr.refl [] wc).alloc _)).mono ?_
              rintro e wp ⟨k6, hk6, rfl, hwp⟩
              rw [← hwp]
              obtain ⟨v, hv, hvq⟩ := six k6 hk6
              have l0 : ∀ h, ([.int .i64 4194304, .int .i64 0, .int .i64 3000, .int .i64 6000, .int .i64 12000, .int .i64 100000] : List Value)[k6]'h = .int .i64 v := fun h => by
                have := hvq; simp only [List.getElem?_toArray] at this; rw [List.getElem?_eq_getElem h] at this; injection this
              have hk6i : (k6 : Int) < 6 := by omega
              have HV := Lib.hid hv
              clear hwp hvq hv HPI
              obtain ⟨sf, hsf⟩ : ∃ sf : St, sf = { sd s2 dO j dc with fog := v } := ⟨_, rfl⟩
              have HSF := Lib.hid hsf
              clear hsf
              go_upto_region 19 with fail
              obtain ⟨wv, hwv⟩ : ∃ wv, wv = (wc.alloc (.cells #[.int .i64 4194304, .int .i64 0, .int .i64 3000, .int .i64 6000, .int .i64 12000, .int .i64 100000] 3)).setCell ⟨b5, 8, none⟩ (.int .i64 v) := ⟨_, rfl⟩
              have HBV := Lib.hid (by rw [hwv, HSF.out]; exact setCell_blk (alloc_old HBB3.out) 8 _ : wv.heap[b5]? = some (.cells (stCells sf) 31 (0, 0)))
              have FV := Lib.hid (by rw [hwv]; exact ((Fr.refl [b5] wc).alloc _).setCell (p := ⟨b5, 8, none⟩) (.inl (by simp)) _ : Fr [b5] wc wv)
              rw [← hwv]
              have HRV := Lib.hid (by
                have h1 := HFZ.out.blk HBR1.out (by simp)
                have h2 := HFF.out.blk h1 (by simp; omega)
                have h3 := HFF3.out.blk h2 (by simp; omega)
                exact FV.out.blk h3 (by simp; omega) : wv.heap[r0]? = some (.cells ZS 31 (0, 0)))
              have HZ16 := Lib.hid (by rw [HZS.out]; rfl : ZS.size = 16)
              clear hwv l0 e8a g8a
              go_wp2_with (first | (refine wpList_storeB rfl 31 (Operand.tmp 4) (Operand.tmp 113) rfl r0 16 (stCells sf) rfl rfl ZS 31 HRV.out HZ16.out rfl infoSetup (by simp [stCells, Value.oneCell']) ?_; intro wf hbf hff; have HBF := Lib.hid hbf; have HFO := Lib.hid hff; clear hbf hff) | (refine wpList_loadB rfl 31 (Operand.tmp 5) rfl b5 16 rfl (stCells sf) 31 (0, 0) HBV.out _ Try.underlying31 rfl rfl infoSetup ?_))
              have q0 : wf.cell? ⟨r0, 0, none⟩ = some (.int .i64 sf.players) := cell_blk HBF.out 0
              have q1 : wf.cell? ⟨r0, 1, none⟩ = some (.slice sf.bo sf.nb sf.bc) := cell_blk HBF.out 1
              have q2 : wf.cell? ⟨r0, 2, none⟩ = some (.int .i64 sf.x0) := cell_blk HBF.out 2
              have q3 : wf.cell? ⟨r0, 3, none⟩ = some (.int .i64 sf.y0) := cell_blk HBF.out 3
              have q4 : wf.cell? ⟨r0, 4, none⟩ = some (.int .i64 sf.x1) := cell_blk HBF.out 4
              have q5 : wf.cell? ⟨r0, 5, none⟩ = some (.int .i64 sf.y1) := cell_blk HBF.out 5
              have q6 : wf.cell? ⟨r0, 6, none⟩ = some (.slice sf.ro sf.rn sf.rc) := cell_blk HBF.out 6
              have q7 : wf.cell? ⟨r0, 7, none⟩ = some (.slice sf.dO sf.dn sf.dc) := cell_blk HBF.out 7
              have q8 : wf.cell? ⟨r0, 8, none⟩ = some (.int .i64 sf.fog) := cell_blk HBF.out 8
              have q9 : wf.cell? ⟨r0, 9, none⟩ = some (.int .i64 sf.gx) := cell_blk HBF.out 9
              have q10 : wf.cell? ⟨r0, 10, none⟩ = some (.int .i64 sf.gy) := cell_blk HBF.out 10
              have q11 : wf.cell? ⟨r0, 11, none⟩ = some (.int .i64 sf.push) := cell_blk HBF.out 11
              have q12 : wf.cell? ⟨r0, 12, none⟩ = some (.int .i64 sf.drag) := cell_blk HBF.out 12
              have q13 : wf.cell? ⟨r0, 13, none⟩ = some (.int .i64 sf.rest) := cell_blk HBF.out 13
              have q14 : wf.cell? ⟨r0, 14, none⟩ = some (.int .i64 sf.rounds) := cell_blk HBF.out 14
              have q15 : wf.cell? ⟨r0, 15, none⟩ = some (.int .i64 sf.fuel) := cell_blk HBF.out 15
              refine bodyPost_ret (v := sf.val) (by simp [results, Try.results10, go_sem, q0, q1, q2, q3, q4, q5, q6, q7, q8, q9, q10, q11, q12, q13, q14, q15]; rfl) rfl ?_
              clear q0 q1 q2 q3 q4 q5 q6 q7 q8 q9 q10 q11 q12 q13 q14 q15
              have FO := Lib.hid (show Fr [r0] wv wf from ⟨HFO.out.os, HFO.out.tape, HFO.out.output, HFO.out.size, HFO.out.block⟩)
              have z1 := HFZ.out.size
              have z2 := HFF.out.size
              have z3 := HFF3.out.size
              have hr0w : r0 < wb.heap.size := by rw [HR0.out, HWE.out]; simp
              have hs := HS0.out
              have hbo : ∀ k ∈ blk s0.bo, k < w1.heap.size ∧ r0 < k := fun k hk => ⟨hs.seg.lt k hk, by have := hs.fresh k hk; omega⟩
              have hro : ∀ k ∈ blk ro, b5 < k := fun k hk => by have := HBN.out k hk; omega
              have hdo : ∀ k ∈ blk dO, b5 < k := fun k hk => by have := HBN3.out k hk; omega
              have e0 := HSF.out
              rw [HS2.out, HS1.out] at e0
              refine ⟨sf, bodies, rooms, doors, rfl, ?_, ?_, ⟨?_, ?_, ?_, ?_⟩, ?_, HALL.out, ?_, ?_, ?_, ?_, ?_, ?_, hs.b5, ?_, fun d hd => (hs.good d hd).1, ?_⟩
              · rw [e0]; exact hs.nb
              · have h : Rd wf 9 s0.bo bodies.length (bodies.flatMap Bd.cells) := ((((hs.seg.rd.fr HFZ.out (by simp)).fr HFF.out (fun k hk hm => by have := hbo k hk; simp at hm; omega)).fr HFF3.out (fun k hk hm => by have := hbo k hk; simp at hm; omega)).fr FV.out (fun k hk hm => by have := hbo k hk; simp at hm; omega)).fr FO.out (fun k hk hm => by have := hbo k hk; simp at hm; omega)
                rw [e0]; exact h
              · rw [e0]; exact HRL2.out.symm
              · rw [e0]; exact HDL.out.symm
              · have h : Rd wf 4 ro R (rooms.flatMap Bx.cells) := (((HSG2.out.rd.fr HFF3.out (fun k hk hm => by have := hro k hk; simp at hm; omega)).fr FV.out (fun k hk hm => by have := hro k hk; simp at hm; omega)).fr FO.out (fun k hk hm => by have := hro k hk; simp at hm; omega))
                rw [e0, HRL2.out]; exact h
              · have h : Rd wf 2 dO j (doors.flatMap drCells) := ((HSG3.out wc (Fr.refl _ _)).rd.fr FV.out (fun k hk hm => by have := hdo k hk; simp at hm; omega)).fr FO.out (fun k hk hm => by have := hdo k hk; simp at hm; omega)
                rw [e0, HDL.out]; exact h
              · rw [HRL2.out]; exact hR5
              · rw [HDL.out]; exact hj5
              · intro d hd
                rw [HRL2.out]; exact HALL3.out d hd
              · rw [HRL2.out, e0]; exact HSG2.out.2.2.1
              · rw [e0]; exact HSG2.out.2.1
              · rw [e0]; exact hs.num.1
              · rw [e0]; exact hs.pn
              · rw [e0]; exact HV.out
              · have h1 : Fr [] w wo := (HF1.out.trans HFZ.out (by simp [Ext])).trans HFF.out (fun k hk => .inr (by have := HF1.out.size; simp at hk; omega))
                have h2 : Fr [] w wc := h1.trans HFF3.out (fun k hk => .inr (by have := HF1.out.size; simp at hk; omega))
                have h3 : Fr [] w wv := h2.trans FV.out (fun k hk => .inr (by have := HF1.out.size; simp at hk; omega))
                exact h3.trans FO.out (fun k hk => .inr (by simp at hk; rw [hk, HR0.out]; exact Nat.le_refl _))
end Go.Proofs.Ytdbngpncigjfiaa
