/- Mem2, Around, Mem3, IntsA, Vis1, Blk, Val4, Field (merged by merge.py). -/
import Derived.Test.YtcgndeggemceaaaZ281
import Derived.OpenShut
import Derived.Test.YtcgndeggemceaaaProg
import Derived.Test.YtcgndeggemceaaaZ280
import Derived.Deep.RegionHeld3
import Derived.MapKept
import Derived.Maps.RangeRun
/- Package cellmem: contracts of Set, New and Cells. -/
namespace Go.Proofs.Ytcgndeggemceaaa
open Go.RowKit


def MemS.set (s : MemS) (i v : Int) : MemS := if s.has i then { cells := s.cells.set i.toNat v, log := s.log ++ [(i, s.cells.getD i.toNat 0)], base := s.base } else s

section
variable {w : World} {p : Nat} {F : List Nat} {s : MemS}

theorem new_two (w : World) (x y : Value) (t : TypeId) : ∀ j u, [x, y][j]? = some u → (w.alloc (.cells #[x, y] t)).cell? ((⟨w.heap.size, 0, none⟩ : Addr).add j) = some u := by
  intro j u hu
  rw [Addr.add_mid, Nat.zero_add, World.cell?_alloc_new]
  simpa using hu





end
end Go.Proofs.Ytcgndeggemceaaa
/- arenanetref01.Around. -/
namespace Go.Proofs.Ytcgndeggemceaaa
open Go.RowKit

def around (n most : Int) : Int := (if n < 0 then -(n + 1) else n) % most

theorem around_any (n m : Int) (w : World) (h1 : -9223372036854775808 ≤ n) (h2 : n ≤ 9223372036854775807) (h3 : 1 ≤ m) (h4 : m ≤ 9223372036854775807) :
    Calls Try.prog 18 #[.int .i64 n, .int .i64 m] w fun e w' => e = .returned (.int .i64 (around n m)) ∧ w = w' := by
  by_cases hn : n < 0
  · go_enter Try.func18, Try.ntmps18
    go_wp2
    go_ret
    exact ⟨congrArg (fun x => Ending.returned (.int .i64 x)) (by rw [around, if_pos hn, ← Int.neg_tmod, Int.tmod_eq_emod_of_nonneg (by omega)]), rfl⟩
  · go_enter Try.func18, Try.ntmps18
    go_wp2
    go_ret
    exact ⟨congrArg (fun x => Ending.returned (.int .i64 x)) (by rw [around, if_neg (by omega)]), rfl⟩

theorem around_lt (n : Int) {m : Int} (h : 0 < m) : 0 ≤ around n m ∧ around n m < m := ⟨Int.emod_nonneg _ (by omega), Int.emod_lt_of_pos _ h⟩

def bounded (n : Int) : Prop := -9223372036854775808 ≤ n ∧ n ≤ 9223372036854775807
theorem wf_bounded {n : Int} (h : (Lit.int .i64 n).wf = true) : bounded n := by
  have := Go.bounds_i64 h
  exact ⟨by omega, by omega⟩

/-- Around, as a natural number below most -/
theorem around_nat (n : Int) (m : Nat) (hn : bounded n) (h3 : 1 ≤ m) (h4 : m ≤ 9223372036854775807) :
    ∃ k : Nat, k < m ∧ (k : Int) = around n m ∧ ∀ w, Calls Try.prog 18 #[.int .i64 n, .int .i64 m] w fun e w' => e = .returned (.int .i64 (k : Int)) ∧ w = w' := by
  obtain ⟨k, hk⟩ := Int.eq_ofNat_of_zero_le (around_lt n (m := (m : Int)) (by omega)).1
  have := (around_lt n (m := (m : Int)) (by omega)).2
  exact ⟨k, by omega, hk.symm, fun w => hk ▸ around_any n m w hn.1 hn.2 (by omega) (by omega)⟩
end Go.Proofs.Ytcgndeggemceaaa
/- Package cellmem: contracts of New and Cells. -/
namespace Go.Proofs.Ytcgndeggemceaaa
open Go.RowKit

section
variable {w : World} {p : Nat} {F : List Nat} {s : MemS}

/-! ### New -/

/-- the block of a row of integers -/
def row (l : List Int) : Obj := .cells (ints l).toArray 3 (0, 0)

theorem row_cell {w : World} {b : Nat} {l : List Int} (h : w.heap[b]? = some (row l)) {k : Nat} (hk : k < l.length) : w.cell? ⟨b, k, none⟩ = some (.int .i64 l[k]) := by
  rw [cell_blk h, List.getElem?_toArray, ints_get, List.getElem?_eq_getElem hk]; rfl

theorem row_frozen {w : World} {b : Nat} {l : List Int} (h : w.heap[b]? = some (row l)) (k : Nat) : w.frozen? ⟨b, k, none⟩ = false := frozen_blk h k

theorem row_set {w : World} {b : Nat} {l : List Int} (h : w.heap[b]? = some (row l)) (k : Nat) (x : Int) : (w.setCell ⟨b, k, none⟩ (.int .i64 x)).heap[b]? = some (row (l.set k x)) := by
  rw [setCell_blk h]
  simp [row, ints]

theorem row_seg {w : World} {b : Nat} {l : List Int} (h : w.heap[b]? = some (row l)) (hm : l.length ≤ maxLen) : Seg w 3 1 (some ⟨b, 0, none⟩) l.length l.length (ints l) :=
  Seg.one b _ _ 1 l.length h (by simp) hm

theorem infoInt : (Try.prog.info? 3).map (fun i => (i.zero, i.size, i.bytes)) = some (some (.int .i64 0), 1, 8) := by kernel_rfl

theorem make_ints (n : Nat) (hn : n ≤ 1099511627776) (u : World) :
    (Instr.makeSlice 22 (.int .i64 n) (.int .i64 n)).run Try.prog u = .ok (.slice (some ⟨u.heap.size, 0, none⟩) n n) (u.alloc (row (List.replicate n 0))) := by
  obtain ⟨i0, hi, hz0, hz1, hz2⟩ := info_parts infoInt
  have h := run_make (P := Try.prog) u 22 3 i0 (.int .i64 0) Try.underlying22 hi hz0 .i64 .i64 n n (by omega) (Int.le_refl _) (by rw [hz2]; omega) (by omega)
  rw [h]
  have e : madeCells (Value.int .i64 0).cells (Int.toNat n * i0.size) = (ints (List.replicate n 0)).toArray := by
    have := toList_madeCells_one (.int .i64 0) n
    rw [hz1, Int.toNat_natCast, Nat.mul_one, ints, List.map_replicate, ← this]
    rfl
  rw [e]
  simp [row]






/-! ### Cells -/

/-- a row of integers has been made at block b; nothing that was there has changed -/
def RowNew (w : World) (b : Nat) (l : List Int) (w' : World) : Prop := w'.heap[b]? = some (row l) ∧ Fr [] w w'

theorem RowNew.step {l : List Int} {k : Nat} {wr : World} (h : RowNew w w.heap.size (l.take k ++ List.replicate (l.length - k) 0) wr) (hk : k < l.length) {x : Int} (hx : x = l[k]) :
    RowNew w w.heap.size (l.take (k + 1) ++ List.replicate (l.length - (k + 1)) 0) (wr.setCell ⟨w.heap.size, k, none⟩ (.int .i64 x)) := by
  obtain ⟨h1, h3⟩ := h
  subst hx
  refine ⟨?_, h3.setCell (.inr (Nat.le_refl _)) _⟩
  rw [row_set h1]
  congr 2
  rw [List.take_succ_eq_append_getElem hk, List.append_assoc, show l.length - k = (l.length - (k + 1)) + 1 by omega, List.replicate_succ, List.set_append_right _ _ (by simp; omega)]
  simp [List.length_take, show min k l.length = k by omega]

theorem MemS.get_lt (s : MemS) {k : Nat} (hk : k < s.cells.length) : s.get k = s.cells[k] := by simp [MemS.get, MemS.has, hk]


end
end Go.Proofs.Ytcgndeggemceaaa
/- arenanetref01.Ints; a slice of ints that came in. -/
namespace Go.Proofs.Ytcgndeggemceaaa
open Go.RowKit

theorem Rd.news {w : World} {size : Nat} {ad : Addr} {n : Nat} {xs : List Value} (h : Rd w size (some ad) n xs) (h0 : 0 < n) : ∀ j u, xs[j]? = some u → w.cell? (ad.add j) = some u := by
  intro j u hu
  obtain ⟨g, off, ha, _, hc⟩ := h.at h0
  cases ha
  have hj : j < n * size := by have := (List.getElem?_eq_some_iff.1 hu).1; rw [h.1] at this; exact this
  rw [Addr.add_mid, hc j hj, hu]

/-- a slice of ints that came in -/
structure Srci (w : World) (ao : Option Addr) (cap : Nat) (l : List Int) : Prop where
  rd : Rd w 1 ao l.length (ints l)
  bnd : ∀ x ∈ l, bounded x
  fit : l.length ≤ cap
  capm : cap ≤ maxLen
  nil : ao = none → cap = 0 ∧ l = []

theorem Srci.old {w w' : World} {ao : Option Addr} {cap : Nat} {l : List Int} (h : Srci w ao cap l) (hf : Fr [] w w') : Srci w' ao cap l := ⟨h.rd.fr hf (by simp), h.bnd, h.fit, h.capm, h.nil⟩

theorem srci_of_row {w : World} {a : Option Addr} {len cap : Nat} {zs : List Int}
    (h : (a = none ∧ len = 0 ∧ cap = 0 ∧ zs = []) ∨
      ∃ x, a = some x ∧ len ≤ cap ∧ cap ≤ maxLen ∧ zs.length = cap ∧ (∀ i, i < zs.length → w.cell? (x.add i) = some (.int .i64 (zs.getD i 0))) ∧ ∀ n ∈ zs, (Lit.int .i64 n).wf = true) :
    ∃ l : List Int, l.length = len ∧ Srci w a cap l := by
  obtain ⟨l, hl, h1, h2⟩ := rd_of_row h
  refine ⟨l, hl, h1, h2, ?_, ?_, fun hn => ?_⟩
  · rcases h with ⟨rfl, rfl, rfl, rfl⟩ | ⟨x, rfl, h3, h4, _⟩ <;> omega
  · rcases h with ⟨rfl, rfl, rfl, rfl⟩ | ⟨x, rfl, h3, h4, _⟩
    · simp
    · exact h4
  · rcases h with ⟨rfl, rfl, rfl, rfl⟩ | ⟨x, rfl, h3, h4, _⟩
    · exact ⟨rfl, List.eq_nil_of_length_eq_zero hl⟩
    · cases hn

def IntsTo (w : World) (l : List Int) (e : Ending) (w' : World) : Prop := ∃ oa oc, e = .returned (.slice oa l.length oc) ∧ Seg w' 3 1 oa l.length oc (ints l) ∧ Fr [] w w' ∧ ∀ k ∈ blk oa, w.heap.size ≤ k


end Go.Proofs.Ytcgndeggemceaaa
/- Package visibility: bit, visible, below, Rooms; the reference's Rooms. -/
namespace Go.Proofs.Ytcgndeggemceaaa
open Go.RowKit

theorem val_spelt {w : World} {s : St} {rooms : List Bx} {doors : List (Int × Int)} (h : MapAt w s rooms doors) :
    s.val = .agg #[.int .i64 s.players, .slice s.bo s.nb s.bc, .int .i64 s.x0, .int .i64 s.y0, .int .i64 s.x1, .int .i64 s.y1, .slice s.ro rooms.length s.rc, .slice s.dO doors.length s.dc, .int .i64 s.fog, .int .i64 s.gx, .int .i64 s.gy, .int .i64 s.push, .int .i64 s.drag, .int .i64 s.rest, .int .i64 s.rounds, .int .i64 s.fuel] := by
  have hrn : s.rn = rooms.length := h.rn
  have hdn : s.dn = doors.length := h.dn
  unfold St.val
  rw [hrn, hdn]

/-- the doors lead to rooms of the setup, of which there are at most eight -/
def Few (rooms : List Bx) (doors : List (Int × Int)) : Prop := rooms.length ≤ 8 ∧ ∀ d ∈ doors, (0 ≤ d.1 ∧ d.1 < 8) ∧ (0 ≤ d.2 ∧ d.2 < 8)

set_option maxRecDepth 100000 in
set_option maxHeartbeats 1000000 in
theorem bit_any (w : World) (k : Int) (h0 : 0 ≤ k) (h1 : k < 8) :
    Calls Try.prog 60 #[.int .i64 k] w fun e w' => e = .returned (.int .u64 ((bitN k : Nat) : Int)) ∧ w = w' := by
  obtain ⟨n, rfl⟩ : ∃ n : Nat, k = n := ⟨k.toNat, by omega⟩
  have hn : n < 8 := by omega
  clear h0 h1
  have hc : n = 0 ∨ n = 1 ∨ n = 2 ∨ n = 3 ∨ n = 4 ∨ n = 5 ∨ n = 6 ∨ n = 7 := by omega
  clear hn
  rcases hc with rfl | rfl | rfl | rfl | rfl | rfl | rfl | rfl
  all_goals
    go_enter Try.func60, Try.ntmps60
    go_wp2_with fail
    go_ret
    exact ⟨rfl, rfl⟩

/-- what visible leaves at a room that there is -/
def VisTo (doors : List (Int × Int)) (r : Int) (w : World) (e : Ending) (w' : World) : Prop := ∃ V : Nat, e = .returned (.int .u64 (V : Int)) ∧ VisK doors doors.length r V ∧ Fr [] w w'

set_option maxRecDepth 100000 in
set_option maxHeartbeats 4000000 in
theorem vis_in (w : World) (s : St) (rooms : List Bx) (doors : List (Int × Int)) (h : MapAt w s rooms doors) (hfew : Few rooms doors) (r : Int) (h0 : 0 ≤ r) (h1 : r < (rooms.length : Int)) :
    Calls Try.prog 59 #[s.val, .int .i64 r] w (VisTo doors r w) := by
  have hr8 : r < 8 := by have := hfew.1; omega
  have HFW := Lib.hid hfew.2
  clear hfew
  have hrl : rooms.length ≤ 9223372036854775807 := by have := h.rr.2.1; unfold maxLen at this; omega
  have hdl : doors.length ≤ 9223372036854775807 := by have := h.dr.2.1; unfold maxLen at this; omega
  have HM := Lib.hid h
  have HV := Lib.hid (val_spelt h)
  clear h
  obtain ⟨bx, hbx⟩ : ∃ bx, bx = w.heap.size := ⟨_, rfl⟩
  obtain ⟨wb, hwb⟩ : ∃ wb, wb = w.alloc (.cells #[.int .i64 s.players, .slice s.bo s.nb s.bc, .int .i64 s.x0, .int .i64 s.y0, .int .i64 s.x1, .int .i64 s.y1, .slice s.ro rooms.length s.rc, .slice s.dO doors.length s.dc, .int .i64 s.fog, .int .i64 s.gx, .int .i64 s.gy, .int .i64 s.push, .int .i64 s.drag, .int .i64 s.rest, .int .i64 s.rounds, .int .i64 s.fuel] 49) := ⟨_, rfl⟩
  have HB := Lib.hid (by rw [hwb, hbx]; exact alloc_new w _ : wb.heap[bx]? = some (.cells #[.int .i64 s.players, .slice s.bo s.nb s.bc, .int .i64 s.x0, .int .i64 s.y0, .int .i64 s.x1, .int .i64 s.y1, .slice s.ro rooms.length s.rc, .slice s.dO doors.length s.dc, .int .i64 s.fog, .int .i64 s.gx, .int .i64 s.gy, .int .i64 s.push, .int .i64 s.drag, .int .i64 s.rest, .int .i64 s.rounds, .int .i64 s.fuel] 49 (0, 0)))
  have HWB := Lib.hid (by rw [hwb]; exact (Fr.refl [] w).alloc _ : Fr [] w wb)
  have HBX := Lib.hid hbx
  have HWE := Lib.hid hwb
  clear hbx hwb
  rw [HV.out]
  go_enter Try.func59, Try.ntmps59
  go_wp2_with (go_at_call 60; refine (bit_any _ _ h0 hr8).mono ?_; rintro e w' ⟨rfl, rfl⟩)
  rw [← HBX.out, ← HWE.out]
  go_loopw [5, 22] (fun vv iv wr => ∃ V i : Nat, i ≤ doors.length ∧ vv = .int .u64 (V : Int) ∧ iv = .int .i64 (i : Int) ∧ VisK doors i r V ∧ Fr [] wb wr) (fun _ iv _ => doors.length - (intOf iv).toNat)
  case atStart => exact ⟨bitN r, 0, by omega, rfl, rfl, VisK.start doors h0 hr8, Fr.refl _ _⟩
  case round =>
    obtain ⟨V, i, hi, rfl, rfl, hV, hf⟩ := hrel
    have hV8 := hV.1
    have HVK := Lib.hid hV
    have HF := Lib.hid hf
    have c7 : wr.cell? ⟨bx, 7, none⟩ = some (.slice s.dO doors.length s.dc) := cell_blk (hf.blk HB.out (by simp)) 7
    clear hV
    by_cases hil : i < doors.length
    · obtain ⟨g, off, hro, hg, k0, k1⟩ := (HM.out.old (HWB.out.trans hf (by simp [Ext]))).dr.door hil
      obtain ⟨p, hp⟩ : ∃ p, p = doors[i].1 := ⟨_, rfl⟩
      obtain ⟨q, hq⟩ : ∃ q, q = doors[i].2 := ⟨_, rfl⟩
      have hdp := HFW.out _ (List.getElem_mem hil)
      rw [← hp] at k0
      rw [← hq] at k1
      rw [← hp, ← hq] at hdp
      obtain ⟨⟨p0, p1⟩, q0, q1⟩ := hdp
      have HD := Lib.hid (by rw [hp, hq] : doors[i] = (p, q))
      rw [hro] at c7 ⊢
      have hii : (i : Int) < (doors.length : Int) := by omega
      have hqb := bitN_lt q1
      have hpb := bitN_lt p1
      have hoq : bits .or .u64 (V : Int) ((bitN q : Nat) : Int) = ((V ||| bitN q : Nat) : Int) := bits_or_u64 V _ hV8 hqb
      have hop : bits .or .u64 (V : Int) ((bitN p : Nat) : Int) = ((V ||| bitN p : Nat) : Int) := bits_or_u64 V _ hV8 hpb
      clear hp hq hro hf
      cases e0 : (r == p)
      · cases e1 : (r == q)
        · have HS := Lib.hid (HVK.out.no hil HD.out e0 e1)
          go_wp2_with fail
          go_roundw
          case rel => exact ⟨V, i + 1, by omega, rfl, by go_num, HS.out, HF.out.alloc _⟩
          case measure => simp [intOf]; omega
        · have HS := Lib.hid (HVK.out.two hil HD.out ⟨p0, p1⟩ e0 e1)
          go_wp2_with (go_at_call 60; refine (bit_any _ _ p0 p1).mono ?_; rintro e w' ⟨rfl, rfl⟩)
          go_roundw
          case rel => exact ⟨V ||| bitN p, i + 1, by omega, rfl, by go_num, HS.out, HF.out.alloc _⟩
          case measure => simp [intOf]; omega
      · have HS := Lib.hid (HVK.out.one hil HD.out ⟨q0, q1⟩ e0)
        go_wp2_with (go_at_call 60; refine (bit_any _ _ q0 q1).mono ?_; rintro e w' ⟨rfl, rfl⟩)
        go_roundw
        case rel => exact ⟨V ||| bitN q, i + 1, by omega, rfl, by go_num, HS.out, HF.out.alloc _⟩
        case measure => simp [intOf]; omega
    · have hke : i = doors.length := by omega
      have HV2 := Lib.hid (by rw [hke] at HVK; exact HVK.out : VisK doors doors.length r V)
      clear hke hf
      go_wp2_with fail
      go_ret
      exact ⟨V, rfl, HV2.out, HWB.out.trans HF.out (by simp [Ext])⟩

/-- what visible leaves, at any number -/
def VisOk (rooms : List Bx) (doors : List (Int × Int)) (r : Int) (V : Nat) : Prop := V < 256 ∧ ∀ k : Nat, k < 8 → V.testBit k = (decide (0 ≤ r ∧ r < (rooms.length : Int)) && connB doors r (k : Int))
def VisAny (rooms : List Bx) (doors : List (Int × Int)) (r : Int) (w : World) (e : Ending) (w' : World) : Prop := ∃ V : Nat, e = .returned (.int .u64 (V : Int)) ∧ VisOk rooms doors r V ∧ Fr [] w w'

set_option maxRecDepth 100000 in
set_option maxHeartbeats 4000000 in
theorem vis_any (w : World) (s : St) (rooms : List Bx) (doors : List (Int × Int)) (h : MapAt w s rooms doors) (hfew : Few rooms doors) (r : Int) :
    Calls Try.prog 59 #[s.val, .int .i64 r] w (VisAny rooms doors r w) := by
  by_cases hin : 0 ≤ r ∧ r < (rooms.length : Int)
  · refine (vis_in w s rooms doors h hfew r hin.1 hin.2).mono ?_
    rintro e w' ⟨V, rfl, hV, hf⟩
    exact ⟨V, rfl, ⟨hV.1, fun k hk => by rw [hV.full hk, decide_eq_true hin, Bool.true_and]⟩, hf⟩
  · have HZ := Lib.hid (⟨by omega, fun k hk => by rw [decide_eq_false hin, Nat.zero_testBit]; rfl⟩ : VisOk rooms doors r 0)
    clear hfew
    have hrl : rooms.length ≤ 9223372036854775807 := by have := h.rr.2.1; unfold maxLen at this; omega
    have hdl : doors.length ≤ 9223372036854775807 := by have := h.dr.2.1; unfold maxLen at this; omega
    have HM := Lib.hid h
    have HV := Lib.hid (val_spelt h)
    clear h
    obtain ⟨bx, hbx⟩ : ∃ bx, bx = w.heap.size := ⟨_, rfl⟩
    obtain ⟨wb, hwb⟩ : ∃ wb, wb = w.alloc (.cells #[.int .i64 s.players, .slice s.bo s.nb s.bc, .int .i64 s.x0, .int .i64 s.y0, .int .i64 s.x1, .int .i64 s.y1, .slice s.ro rooms.length s.rc, .slice s.dO doors.length s.dc, .int .i64 s.fog, .int .i64 s.gx, .int .i64 s.gy, .int .i64 s.push, .int .i64 s.drag, .int .i64 s.rest, .int .i64 s.rounds, .int .i64 s.fuel] 49) := ⟨_, rfl⟩
    have HB := Lib.hid (by rw [hwb, hbx]; exact alloc_new w _ : wb.heap[bx]? = some (.cells #[.int .i64 s.players, .slice s.bo s.nb s.bc, .int .i64 s.x0, .int .i64 s.y0, .int .i64 s.x1, .int .i64 s.y1, .slice s.ro rooms.length s.rc, .slice s.dO doors.length s.dc, .int .i64 s.fog, .int .i64 s.gx, .int .i64 s.gy, .int .i64 s.push, .int .i64 s.drag, .int .i64 s.rest, .int .i64 s.rounds, .int .i64 s.fuel] 49 (0, 0)))
    have HWB := Lib.hid (by rw [hwb]; exact (Fr.refl [] w).alloc _ : Fr [] w wb)
    have HBX := Lib.hid hbx
    have HWE := Lib.hid hwb
    clear hbx hwb
    rw [HV.out]
    clear hrl hdl
    by_cases h0 : r < 0
    · clear hin
      go_enter Try.func59, Try.ntmps59
      go_wp2_with fail
      rw [← HWE.out]
      go_ret
      exact ⟨0, rfl, HZ.out, HWB.out⟩
    · have h1 : 0 ≤ r := by omega
      have h2 : (rooms.length : Int) ≤ r := by omega
      clear hin h0
      go_enter Try.func59, Try.ntmps59
      go_wp2_with fail
      rw [← HWE.out]
      go_ret
      exact ⟨0, rfl, HZ.out, HWB.out⟩

/-- a list that is being written in fresh memory -/
def AccAt (w : World) (l : List Int) (v : Value) (wr : World) : Prop := ∃ oa oc, v = .slice oa l.length oc ∧ Seg wr 3 1 oa l.length oc (ints l) ∧ Fr [] w wr ∧ ∀ k ∈ blk oa, w.heap.size ≤ k
theorem AccAt.start (w : World) : AccAt w [] (.slice none 0 0) w := ⟨none, 0, rfl, by simpa [ints] using Seg.nil _ _ _, Fr.refl _ _, by simp [blk]⟩
theorem AccAt.go {w wr w' : World} {l : List Int} {v : Value} (h : AccAt w l v wr) (hf : Fr [] wr w') : AccAt w l v w' := by
  obtain ⟨oa, oc, h1, h2, h3, h4⟩ := h
  exact ⟨oa, oc, h1, h2.fr hf (by simp), h3.trans hf (by simp [Ext]), h4⟩
theorem AccAt.from {w0 w wr : World} {l : List Int} {v : Value} (h : AccAt w l v wr) (hf : Fr [] w0 w) : AccAt w0 l v wr := by
  obtain ⟨oa, oc, h1, h2, h3, h4⟩ := h
  exact ⟨oa, oc, h1, h2, hf.trans h3 (by simp [Ext]), fun k hk => by have := h4 k hk; have := hf.size; omega⟩
theorem AccAt.to {w wr : World} {l : List Int} {v : Value} (h : AccAt w l v wr) : IntsTo w l (.returned v) wr := by
  obtain ⟨oa, oc, h1, h2, h3, h4⟩ := h
  exact ⟨oa, oc, by rw [h1], h2, h3, h4⟩
theorem one_new (w : World) (v : Value) (T : TypeId) : ∀ j u, [v][j]? = some u → (w.alloc (.cells #[v] T)).cell? ((⟨w.heap.size, 0, none⟩ : Addr).add j) = some u := fun j u hu => by
  rw [Addr.add_mid, Nat.zero_add, World.cell?_alloc_new]; simpa using hu


set_option maxRecDepth 100000 in
set_option maxHeartbeats 4000000 in
theorem below_seen (w : World) (n : Nat) (hn : n ≤ 1048576) (tb t2 t3 : Nat) (p : Nat → Bool)
    (hacc : ∀ (k : Nat) (wr : World), k < n → Fr [] w wr → Calls Try.prog 47 #[.int .i64 (k : Int), .pointer (some ⟨tb, 0, none⟩), .pointer (some ⟨t2, 0, none⟩), .pointer (some ⟨t3, 0, none⟩)] wr (fun e w' => e = .returned (.bool (p k)) ∧ Fr [] wr w')) :
    Calls Try.prog 46 #[.int .i64 (n : Int), .func (.func 47) #[] #[.pointer (some ⟨tb, 0, none⟩), .pointer (some ⟨t2, 0, none⟩), .pointer (some ⟨t3, 0, none⟩)]] w (IntsTo w (accL p n)) := by
  have HA := Lib.hid hacc
  clear hacc
  obtain ⟨ii, hii, hii0, hii1, hii2⟩ := info_parts infoInt
  go_enter Try.func46, Try.ntmps46
  go_wp2_with fail
  go_loopw [5, 8] (fun vv iv wr => ∃ i : Nat, i ≤ n ∧ iv = .int .i64 (i : Int) ∧ AccAt w (accL p i) vv wr) (fun _ iv _ => n - (intOf iv).toNat)
  case atStart => exact ⟨0, by omega, rfl, AccAt.start w⟩
  case round =>
    obtain ⟨i, hi, rfl, hac⟩ := hrel
    by_cases hin : i < n
    · have HAC := Lib.hid hac
      obtain ⟨oa, oc, rfl, hseg, hf, hbl⟩ := hac
      have hlen := accL_len p i
      obtain ⟨L, hL⟩ : ∃ L, L = accL p i := ⟨_, rfl⟩
      have HL := Lib.hid hL
      rw [← hL] at hlen hseg ⊢
      have HS := Lib.hid hseg
      have HB := Lib.hid hbl
      have HF := Lib.hid hf
      have hini : (i : Int) < (n : Int) := by omega
      have HC := Lib.hid (HA.out i wr hin hf)
      obtain ⟨b, hb⟩ : ∃ b, b = p i := ⟨_, rfl⟩
      rw [← hb] at HC
      have HP := Lib.hid hb
      clear hL hseg hbl hf hb
      cases b
      · go_wp2_with (go_at_call 47; refine HC.out.mono ?_; rintro e w1 ⟨rfl, hf1⟩; have HF1 := Lib.hid hf1; clear hf1)
        go_roundw
        case rel => exact ⟨i + 1, by omega, by go_num, by rw [accL_no HP.out.symm, ← HL.out]; exact ⟨oa, oc, rfl, HS.out.fr HF1.out (by simp), HF.out.trans HF1.out (by simp [Ext]), HB.out⟩⟩
        case measure => simp [intOf]; omega
      · go_wp2_with (first | (go_at_call 47; refine HC.out.mono ?_; rintro e w1 ⟨rfl, hf1⟩; have HF1 := Lib.hid hf1; clear hf1; have HSA := Lib.hid fun (o : Obj) => (HS.out.fr HF1.out (by simp)).alloc o; have HNE := Lib.hid (one_new w1)) | (at_builtin; refine wpList_append_seg rfl _ _ 22 rfl 3 ii _ 1 8 Try.underlying22 hii hii0 hii1 hii2 rfl (by decide) oa L.length oc (ints L) rfl (HSA.out _) ⟨_, 0, none⟩ 1 1 [_] rfl rfl (HNE.out _ _) (by simp [Value.oneCell']) (by unfold maxLen; omega) (by omega) ?_; intro ao' cap' w5 hs5 hf5 hx5; have HS5 := Lib.hid hs5; have HF5 := Lib.hid hf5; have HX5 := Lib.hid hx5; clear hs5 hf5 hx5))
        go_roundw
        case rel =>
          refine ⟨i + 1, by omega, by go_num, ?_⟩
          rw [accL_yes HP.out.symm, ← HL.out]
          have hbo := HB.out
          have hf1 := HF.out.trans HF1.out (by simp [Ext])
          refine ⟨ao', cap', by simp, by rw [ints_append]; simpa [ints] using HS5.out, ?_, fun k hk => ?_⟩
          · exact ((hf1.alloc _).trans HF5.out fun k hk => .inr (hbo k hk))
          · rcases HX5.out k hk with h | h
            · exact hbo k h
            · have := hf1.size; simp at h; omega
        case measure => simp [intOf]; omega
    · have hke : i = n := by omega
      have HQ := Lib.hid (by rw [hke] at hac; exact hac.to)
      clear hke hac
      go_wp2_with fail
      go_ret
      exact HQ.out

end Go.Proofs.Ytcgndeggemceaaa
/- Laws: a struct's whole block stored, loaded. Generic over the program. -/
namespace Go.Proofs.Ytcgndeggemceaaa
open Go.RowKit

section
variable {P : Program} {ops : Array Oper} {rest : List Oper} {op : Oper} {a : Act} {w : World} {Q : Exit → Act → World → Prop}

theorem wpList_storeB (hgd : op.guard = none) (ty : TypeId) (x y : Operand) (ho : op.op = .store ty x y) (b n : Nat) (cells : Array Value) (hx : a.eval x = .pointer (some ⟨b, 0, none⟩)) (hy : a.eval y = .agg cells)
    (z : Array Value) (T : TypeId) (hb : w.heap[b]? = some (.cells z T (0, 0))) (hz : z.size = n) (hc : cells.size = n) (hi : (P.info? ty).map (·.size) = some n) (h1 : cells.all (·.oneCell') = true)
    (h : ∀ w', w'.heap[b]? = some (.cells cells T (0, 0)) → Fr [b] w w' → wpList P ops Q rest (a.put op.dst undef) w') : wpList P ops Q (op :: rest) a w := by
  refine wpList_store_mid hgd ty x y ho b 0 cells hx hy (fun j hj => ?_) (by rw [hc]; exact hi) h1 (h _ ?_ ?_)
  · rw [Nat.zero_add, cell_blk hb, Array.getElem?_eq_getElem (by omega)]
    exact ⟨rfl, frozen_blk hb j⟩
  · have h2 := setCells_blk cells.toList 0 w z hb (by simp; omega)
    rw [h2]
    congr 2
    apply Array.ext'
    simp only [List.take_zero, List.nil_append, Nat.zero_add]
    rw [List.drop_of_length_le (by simp; omega), List.append_nil]
  · exact (Fr.refl [b] w).setCells (.inl (by simp)) 0 cells.toList

theorem wpList_loadB (hgd : op.guard = none) (ty : TypeId) (x : Operand) (ho : op.op = .load ty x) (b n : Nat) (hx : a.eval x = .pointer (some ⟨b, 0, none⟩)) (c : Array Value) (T : TypeId) (f : Nat × Nat) (hb : w.heap[b]? = some (.cells c T f))
    (d : TypeDesc) (hu : P.underlying ty = some d) (hd : d.isRow = true) (hc : c.size = n) (hi : (P.info? ty).map (·.size) = some n)
    (h : wpList P ops Q rest (a.put op.dst (.agg c)) w) : wpList P ops Q (op :: rest) a w := by
  refine wpList_load_mid hgd ty x ho b 0 hx c.toList d (fun j v hv => ?_) hu hd (by rw [Array.length_toList, hc]; exact hi) h
  rw [Nat.zero_add, cell_blk hb, ← Array.getElem?_toList]
  exact hv

/-- the same at a guarded operation whose guard says yes -/
theorem wpList_loadG (hw : Region.wanted op (yielded ops a.tmps) = true) (ty : TypeId) (x : Operand) (ho : op.op = .load ty x) (b n : Nat) (hx : a.eval x = .pointer (some ⟨b, 0, none⟩)) (c : Array Value) (T : TypeId) (f : Nat × Nat) (hb : w.heap[b]? = some (.cells c T f))
    (d : TypeDesc) (hu : P.underlying ty = some d) (hd : d.isRow = true) (hc : c.size = n) (hi : (P.info? ty).map (·.size) = some n)
    (h : wpList P ops Q rest (a.put op.dst (.agg c)) w) : wpList P ops Q (op :: rest) a w :=
  BigFrame.wpList_want hw fun K hK => by
    refine wp_load_mid ty x ho b 0 hx c.toList d (fun j v hv => ?_) hu hd (by rw [Array.length_toList, hc]; exact hi) (hK _ _ h)
    rw [Nat.zero_add, cell_blk hb, ← Array.getElem?_toList]
    exact hv

theorem wp_storeB {K : Act → World → Prop} (ty : TypeId) (x y : Operand) (ho : op.op = .store ty x y) (b n : Nat) (cells : Array Value) (hx : a.eval x = .pointer (some ⟨b, 0, none⟩)) (hy : a.eval y = .agg cells)
    (z : Array Value) (T : TypeId) (hb : w.heap[b]? = some (.cells z T (0, 0))) (hz : z.size = n) (hc : cells.size = n) (hi : (P.info? ty).map (·.size) = some n) (h1 : cells.all (·.oneCell') = true)
    (h : ∀ w', w'.heap[b]? = some (.cells cells T (0, 0)) → Fr [b] w w' → K (a.put op.dst undef) w') : op.wp P a w K Q := by
  refine wp_store_mid ty x y ho b 0 cells hx hy (fun j hj => ?_) (by rw [hc]; exact hi) h1 (h _ ?_ ?_)
  · rw [Nat.zero_add, cell_blk hb, Array.getElem?_eq_getElem (by omega)]
    exact ⟨rfl, frozen_blk hb j⟩
  · have h2 := setCells_blk cells.toList 0 w z hb (by simp; omega)
    rw [h2]
    congr 2
    apply Array.ext'
    simp only [List.take_zero, List.nil_append, Nat.zero_add]
    rw [List.drop_of_length_le (by simp; omega), List.append_nil]
  · exact (Fr.refl [b] w).setCells (.inl (by simp)) 0 cells.toList
end

section
variable {P : Program} {l : List Oper} {Q : Exit → Act → World → Prop} {md : Region.Mode} {S : World → Prop}
theorem wpAnyH_takeL {i : Nat} {oi : Oper} {v : Value} {fuel : Nat} {listed : Array Bool} {a : Act} {w : World} (hi : l[i]? = some oi)
    (hs : Region.noSelect l.toArray = true) (hf : Region.free md l.toArray listed i = true) (hr : (Region.ready md l.toArray listed).contains i = true)
    (hQ : ∀ c a w, Q (.panic c) (a.put oi.dst v) w → Q (.panic c) a w) (hy : YieldsIf P l.toArray S oi v a) (hS : S w)
    (h : wpAnyH P md l.toArray Q S fuel (listed.setIfInBounds i true) (a.put oi.dst v) w) : wpAnyH P md l.toArray Q S (fuel + 1) listed a w :=
  wpAnyH_take (by simpa using hi) hs hf hr hQ hy hS h
theorem AllReadyH.consL {fuel : Nat} {listed : Array Bool} {a : Act} {w : World} {i : Nat} {o : Oper} {rs : List Nat} (ho : l[i]? = some o)
    (h : ∀ K' : Act → World → Prop, Shut (∀ a w, S w → (S w → wpAnyH P md l.toArray Q S fuel (listed.setIfInBounds i true) a w) → K' a w) → if Region.wanted o (yielded l.toArray a.tmps) = true then Oper.wp P o a w K' Q else K' (a.put o.dst undef) w)
    (hs : AllReadyH P md l.toArray Q S fuel listed a w rs) : AllReadyH P md l.toArray Q S fuel listed a w (i :: rs) := AllReadyH.cons (by simpa using ho) h hs
end
end Go.Proofs.Ytcgndeggemceaaa
/- Package layout: Validate. -/
namespace Go.Proofs.Ytcgndeggemceaaa
open Go.RowKit

def validB (s : St) (bodies : List Bd) (shs : List Int) (rooms : List Bx) (doors : List (Int × Int)) : Int :=
  if shs.all (fun e => e == 0) then (if numsB s && properB s.x0 s.y0 s.x1 s.y1 && mapB rooms doors && bodies.all (fun d => bodyB d s.x0 s.y0 s.x1 s.y1) then 0 else 11) else 10

structure BodiesAt (w : World) (s : St) (bodies : List Bd) : Prop where
  nb : s.nb = bodies.length
  rd : Rd w 9 s.bo bodies.length (bodies.flatMap Bd.cells)
theorem BodiesAt.old {w w' : World} {s : St} {bodies : List Bd} (h : BodiesAt w s bodies) (hf : Fr [] w w') : BodiesAt w' s bodies := ⟨h.nb, h.rd.fr hf (by simp)⟩

theorem Rd.body {w : World} {ao : Option Addr} {bodies : List Bd} (h : Rd w 9 ao bodies.length (bodies.flatMap Bd.cells)) {i : Nat} (hi : i < bodies.length) {d : Bd} (hd : d = bodies[i]) : ∃ g off, ao = some ⟨g, off, none⟩ ∧ g < w.heap.size ∧
    w.cell? ⟨g, off + i * 9, none⟩ = some (.int .i64 d.rad) ∧ w.cell? ⟨g, off + i * 9 + 1, none⟩ = some (.slice d.po d.pn d.pc) ∧ w.cell? ⟨g, off + i * 9 + 2, none⟩ = some (.int .i64 d.px) ∧ w.cell? ⟨g, off + i * 9 + 3, none⟩ = some (.int .i64 d.py) ∧ w.cell? ⟨g, off + i * 9 + 4, none⟩ = some (.int .i64 d.vx) ∧ w.cell? ⟨g, off + i * 9 + 5, none⟩ = some (.int .i64 d.vy) ∧ w.cell? ⟨g, off + i * 9 + 6, none⟩ = some (.int .i64 d.im) ∧ w.cell? ⟨g, off + i * 9 + 7, none⟩ = some (.int .i64 d.a) ∧ w.cell? ⟨g, off + i * 9 + 8, none⟩ = some (.int .i64 d.b) := by
  obtain ⟨g, off, ha, hg, hc⟩ := h.at (by omega)
  have key : ∀ j, j < 9 → w.cell? ⟨g, off + i * 9 + j, none⟩ = (Bd.cells d)[j]? := fun j hj => by
    rw [Nat.add_assoc, hc _ (by omega), flat_get Bd.cells 9 (fun _ => rfl) bodies i j hi hj, hd]
  exact ⟨g, off, ha, hg, key 0 (by omega), key 1 (by omega), key 2 (by omega), key 3 (by omega), key 4 (by omega), key 5 (by omega), key 6 (by omega), key 7 (by omega), key 8 (by omega)⟩

end Go.Proofs.Ytcgndeggemceaaa
/- Package layout: Field. -/
namespace Go.Proofs.Ytcgndeggemceaaa
open Go.RowKit

theorem str_ne {s k : ByteArray} (h : ¬ s = k) : (s == k) = false := by
  cases e : (s == k)
  · rfl
  · exact absurd ((MapKept.bytes_beq s k).1 e) h

theorem run_insert_str {P : Program} {w : World} (t k e : TypeId) (ht : P.underlying t = some (.map k e)) (hk : P.underlying k = some .string) (b : Nat) (es : Array MapEntry) (clock : Nat) (hb : w.heap[b]? = some (.map es clock)) (s : ByteArray) (v : Value)
    (hn : Instr.findNow .string (.string s) es.toList 0 = some none) :
    (Instr.mapUpdate t (.map (some b)) (.string s) v).run P w = .ok () { w with heap := w.heap.setIfInBounds b (.map (es.push { key := .string s, val := v, born := clock }) (clock + 1)) } := by
  have hi : MapKept.IsKey .string (.string s) := trivial
  simp [Instr.mapUpdate, run_underlying ht, MapKept.run_getObj_map hb, MapKept.run_checkKey hk hi, MapKept.run_findKey hk hn, MapKept.run_setObj_map _ hb, Result.andThen]

theorem run_lookup_str {P : Program} {w : World} (t k e : TypeId) (ht : P.underlying t = some (.map k e)) (hk : P.underlying k = some .string) (z : Value) (hz : (zeroValue e).run P w = .ok z w) (b : Nat) (es : Array MapEntry) (clock : Nat) (hb : w.heap[b]? = some (.map es clock)) (s : ByteArray)
    (r : Option (Nat × Value)) (hn : Instr.findNow .string (.string s) es.toList 0 = some r) :
    (Instr.lookup t (.map (some b)) (.string s) true).run P w = .ok (match r with | some (_, v) => .tuple #[v, .bool true] | none => .tuple #[z, .bool false]) w := by
  have hi : MapKept.IsKey .string (.string s) := trivial
  cases r with
  | none => simp [Instr.lookup, run_underlying ht, MapKept.run_getObj_map hb, MapKept.run_checkKey hk hi, MapKept.run_findKey hk hn, hz, Result.andThen]
  | some x => obtain ⟨i, v⟩ := x; simp [Instr.lookup, run_underlying ht, MapKept.run_getObj_map hb, MapKept.run_checkKey hk hi, MapKept.run_findKey hk hn, Result.andThen]

theorem wpList_insert_str {P : Program} {w : World} {ops : Array Oper} {rest : List Oper} {o : Oper} {a : Act} {Q : Exit → Act → World → Prop} (hg : o.guard = none) (m x v : Operand) (t : TypeId) (hop : o.op = Op.insert t m x v)
    (k e : TypeId) (ht : P.underlying t = some (.map k e)) (hk : P.underlying k = some .string) (b : Nat) (es : Array MapEntry) (clock : Nat) (hm : a.eval m = .map (some b)) (hb : w.heap[b]? = some (.map es clock)) (s : ByteArray) (val : Value) (hx : a.eval x = .string s) (hv : a.eval v = val)
    (hn : Instr.findNow .string (.string s) es.toList 0 = some none)
    (hK : ∀ w', w'.heap[b]? = some (.map (es.push { key := .string s, val := val, born := clock }) (clock + 1)) → Fr [b] w w' → wpList P ops Q rest (a.put o.dst undef) w') :
    wpList P ops Q (o :: rest) a w := by
  refine wpList_plain hg fun K' hK' => ?_
  have hrun := run_insert_str t k e ht hk b es clock hb s val hn
  unfold Oper.wp
  simp [execOp, hop, hm, hx, hv, hrun, Result.andThen]
  refine hK' _ _ (hK _ (MapKept.heap_set hb).1 ⟨rfl, rfl, rfl, by simp, fun i _ hi => (MapKept.heap_set hb).2 i (by simpa using hi)⟩)

def fieldKeys : Array MapEntry := #[{ key := .string { data := #[120] }, val := .int .i64 0, born := 0 }, { key := .string { data := #[121] }, val := .int .i64 1, born := 1 }, { key := .string { data := #[118, 120] }, val := .int .i64 2, born := 2 }, { key := .string { data := #[118, 121] }, val := .int .i64 3, born := 3 }, { key := .string { data := #[97] }, val := .int .i64 4, born := 4 }, { key := .string { data := #[98] }, val := .int .i64 5, born := 5 }, { key := .string { data := #[104, 105, 116] }, val := .int .i64 6, born := 6 }, { key := .string { data := #[115, 116, 105, 108, 108] }, val := .int .i64 7, born := 7 }]
/-- what Field answers -/
def fieldOf (s : ByteArray) : Int := if s = { data := #[120] } then 0 else if s = { data := #[121] } then 1 else if s = { data := #[118, 120] } then 2 else if s = { data := #[118, 121] } then 3 else if s = { data := #[97] } then 4 else if s = { data := #[98] } then 5 else if s = { data := #[104, 105, 116] } then 6 else if s = { data := #[115, 116, 105, 108, 108] } then 7 else -1

theorem find_field (s : ByteArray) : ∃ r, Instr.findNow .string (.string s) fieldKeys.toList 0 = some r ∧ ((∃ i v, r = some (i, .int .i64 v) ∧ fieldOf s = v) ∨ (r = none ∧ fieldOf s = -1)) := by
  unfold fieldOf
  by_cases h0 : s = { data := #[120] }
  · subst h0
    exact ⟨some (0, .int .i64 0), by kernel_rfl, .inl ⟨_, _, rfl, by rfl⟩⟩
  by_cases h1 : s = { data := #[121] }
  · subst h1
    exact ⟨some (1, .int .i64 1), by kernel_rfl, .inl ⟨_, _, rfl, by rfl⟩⟩
  by_cases h2 : s = { data := #[118, 120] }
  · subst h2
    exact ⟨some (2, .int .i64 2), by kernel_rfl, .inl ⟨_, _, rfl, by rfl⟩⟩
  by_cases h3 : s = { data := #[118, 121] }
  · subst h3
    exact ⟨some (3, .int .i64 3), by kernel_rfl, .inl ⟨_, _, rfl, by rfl⟩⟩
  by_cases h4 : s = { data := #[97] }
  · subst h4
    exact ⟨some (4, .int .i64 4), by kernel_rfl, .inl ⟨_, _, rfl, by rfl⟩⟩
  by_cases h5 : s = { data := #[98] }
  · subst h5
    exact ⟨some (5, .int .i64 5), by kernel_rfl, .inl ⟨_, _, rfl, by rfl⟩⟩
  by_cases h6 : s = { data := #[104, 105, 116] }
  · subst h6
    exact ⟨some (6, .int .i64 6), by kernel_rfl, .inl ⟨_, _, rfl, by rfl⟩⟩
  by_cases h7 : s = { data := #[115, 116, 105, 108, 108] }
  · subst h7
    exact ⟨some (7, .int .i64 7), by kernel_rfl, .inl ⟨_, _, rfl, by rfl⟩⟩
  have e : ∀ (k : ByteArray), ¬ s = k → (s == k) = false := fun k h => str_ne h
  refine ⟨none, ?_, .inr ⟨rfl, ?_⟩⟩
  · simp only [fieldKeys, List.toList_toArray, Instr.findNow, Instr.sameNow, e _ h0, e _ h1, e _ h2, e _ h3, e _ h4, e _ h5, e _ h6, e _ h7]
  · rw [if_neg h0, if_neg h1, if_neg h2, if_neg h3, if_neg h4, if_neg h5, if_neg h6, if_neg h7]

theorem zeroInt (w : World) : (zeroValue 3).run Try.prog w = .ok (.int .i64 0) w := by kernel_rfl

end Go.Proofs.Ytcgndeggemceaaa
