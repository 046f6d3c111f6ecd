/- Package layout: validMap. -/
import Derived.Test.YtlfomhknfpmhbaaVal2
namespace Go.Proofs.Ytlfomhknfpmhbaa
open Go.RowKit

theorem flat_len {α : Type} (f : α → List Value) (k : Nat) (hk : ∀ x, (f x).length = k) : ∀ (l : List α), (l.flatMap f).length = l.length * k
  | [] => by simp
  | x :: l => by rw [List.flatMap_cons, List.length_append, hk, flat_len f k hk l, List.length_cons, Nat.add_mul]; omega
theorem flat_get {α : Type} (f : α → List Value) (k : Nat) (hk : ∀ x, (f x).length = k) : ∀ (l : List α) (i j : Nat) (hi : i < l.length), j < k → (l.flatMap f)[i * k + j]? = (f l[i])[j]?
  | [], _, _, hi, _ => by simp at hi
  | x :: l, 0, j, _, hj => by
    rw [List.flatMap_cons, Nat.zero_mul, Nat.zero_add, List.getElem?_append_left (by rw [hk]; exact hj)]; rfl
  | x :: l, i + 1, j, hi, hj => by
    rw [List.flatMap_cons, List.getElem?_append_right (by rw [hk, Nat.add_mul]; omega), hk, show (i + 1) * k + j - k = i * k + j by rw [Nat.add_mul]; omega]
    exact flat_get f k hk l i j (by simpa using hi) hj

structure Bx where
  x0 : Int
  y0 : Int
  x1 : Int
  y1 : Int
def Bx.cells (b : Bx) : List Value := [.int .i64 b.x0, .int .i64 b.y0, .int .i64 b.x1, .int .i64 b.y1]
def Bx.ok (b : Bx) : Bool := properB b.x0 b.y0 b.x1 b.y1
def drCells (d : Int × Int) : List Value := [.int .i64 d.1, .int .i64 d.2]
def drOk (n : Int) (d : Int × Int) : Bool := (inB 0 n d.1 && inB 0 n d.2) && !(d.1 == d.2)

def mapB (rooms : List Bx) (doors : List (Int × Int)) : Bool := decide (rooms.length ≤ 8) && decide (doors.length ≤ 16) && rooms.all Bx.ok && doors.all (drOk ((rooms.length : Int) - 1))

/-- what a setup's rooms and doors lead to -/
structure MapAt (w : World) (s : St) (rooms : List Bx) (doors : List (Int × Int)) : Prop where
  rn : s.rn = rooms.length
  dn : s.dn = doors.length
  rr : Rd w 4 s.ro rooms.length (rooms.flatMap Bx.cells)
  dr : Rd w 2 s.dO doors.length (doors.flatMap drCells)
theorem MapAt.old {w w' : World} {s : St} {rooms : List Bx} {doors : List (Int × Int)} (h : MapAt w s rooms doors) (hf : Fr [] w w') : MapAt w' s rooms doors := ⟨h.rn, h.dn, h.rr.fr hf (by simp), h.dr.fr hf (by simp)⟩

theorem Rd.room {w : World} {ao : Option Addr} {rooms : List Bx} (h : Rd w 4 ao rooms.length (rooms.flatMap Bx.cells)) {i : Nat} (hi : i < rooms.length) : ∃ g off, ao = some ⟨g, off, none⟩ ∧ g < w.heap.size ∧
    w.cell? ⟨g, off + i * 4, none⟩ = some (.int .i64 rooms[i].x0) ∧ w.cell? ⟨g, off + i * 4 + 1, none⟩ = some (.int .i64 rooms[i].y0) ∧ w.cell? ⟨g, off + i * 4 + 2, none⟩ = some (.int .i64 rooms[i].x1) ∧ w.cell? ⟨g, off + i * 4 + 3, none⟩ = some (.int .i64 rooms[i].y1) := by
  obtain ⟨g, off, ha, hg, hc⟩ := h.at (by omega)
  have key : ∀ j, j < 4 → w.cell? ⟨g, off + (i * 4 + j), none⟩ = (Bx.cells rooms[i])[j]? := fun j hj => by
    rw [hc _ (by omega), flat_get Bx.cells 4 (fun _ => rfl) rooms i j hi hj]
  refine ⟨g, off, ha, hg, ?_, ?_, ?_, ?_⟩
  · have := key 0 (by omega); rw [Nat.add_zero] at this; exact this
  · have := key 1 (by omega); rw [← Nat.add_assoc] at this; exact this
  · have := key 2 (by omega); rw [← Nat.add_assoc] at this; exact this
  · have := key 3 (by omega); rw [← Nat.add_assoc] at this; exact this

theorem Rd.door {w : World} {ao : Option Addr} {doors : List (Int × Int)} (h : Rd w 2 ao doors.length (doors.flatMap drCells)) {i : Nat} (hi : i < doors.length) : ∃ g off, ao = some ⟨g, off, none⟩ ∧ g < w.heap.size ∧
    w.cell? ⟨g, off + i * 2, none⟩ = some (.int .i64 doors[i].1) ∧ w.cell? ⟨g, off + i * 2 + 1, none⟩ = some (.int .i64 doors[i].2) := by
  obtain ⟨g, off, ha, hg, hc⟩ := h.at (by omega)
  have key : ∀ j, j < 2 → w.cell? ⟨g, off + (i * 2 + j), none⟩ = (drCells doors[i])[j]? := fun j hj => by
    rw [hc _ (by omega), flat_get drCells 2 (fun _ => rfl) doors i j hi hj]
  refine ⟨g, off, ha, hg, ?_, ?_⟩
  · have := key 0 (by omega); rw [Nat.add_zero] at this; exact this
  · have := key 1 (by omega); rw [← Nat.add_assoc] at this; exact this

theorem not_all_of {α : Type} {l : List α} {p : α → Bool} {i : Nat} (hi : i < l.length) (h : p l[i] = false) : l.all p = false := by
  rw [List.all_eq_false]
  exact ⟨l[i], List.getElem_mem hi, by rw [h]; simp⟩
theorem all_snoc {α : Type} {l : List α} {p : α → Bool} {i : Nat} (hi : i < l.length) (ht : (l.take i).all p = true) (h : p l[i] = true) : (l.take (i + 1)).all p = true := by
  rw [List.take_succ_eq_append_getElem hi, List.all_append, ht]
  simp [h]

set_option maxRecDepth 100000 in
set_option maxHeartbeats 4000000 in
theorem vmap_any (w : World) (s : St) (rooms : List Bx) (doors : List (Int × Int)) (h : MapAt w s rooms doors) :
    Calls Try.prog 40 #[s.val] w fun e w' => e = .returned (.bool (mapB rooms doors)) ∧ Fr [] w w' := by
  have hrl : rooms.length ≤ 9223372036854775807 := by have := h.rr.2.1; unfold maxLen at this; omega
  have hdl : doors.length ≤ 9223372036854775807 := by have := h.dr.2.1; unfold maxLen at this; omega
  have HM := Lib.hid h
  have HRN := Lib.hid h.rn
  have HDN := Lib.hid h.dn
  have hrn : s.rn = rooms.length := h.rn
  have hdn : s.dn = doors.length := h.dn
  unfold St.val
  rw [hrn, hdn]
  clear hrn hdn h
  by_cases h8 : 8 < rooms.length
  · have e : mapB rooms doors = false := by unfold mapB; rw [decide_eq_false (by omega)]; simp
    rw [e]
    clear e
    go_enter Try.func40, Try.ntmps40
    go_wp2_with fail
    go_ret
    exact ⟨rfl, (Fr.refl [] w).alloc _⟩
  · by_cases h16 : 16 < doors.length
    · have e : mapB rooms doors = false := by unfold mapB; rw [decide_eq_false (p := doors.length ≤ 16) (by omega)]; simp
      rw [e]
      clear e
      go_enter Try.func40, Try.ntmps40
      go_wp2_with fail
      go_ret
      exact ⟨rfl, (Fr.refl [] w).alloc _⟩
    · have e : mapB rooms doors = (rooms.all Bx.ok && doors.all (drOk ((rooms.length : Int) - 1))) := by unfold mapB; rw [decide_eq_true (p := rooms.length ≤ 8) (by omega), decide_eq_true (p := doors.length ≤ 16) (by omega)]; simp
      have HE := Lib.hid e
      clear e
      obtain ⟨bx, hbx⟩ : ∃ bx, bx = w.heap.size := ⟨_, rfl⟩
      obtain ⟨wb, hwb⟩ : ∃ wb, wb = w.alloc (.cells #[.int .i64 s.players, .slice s.bo s.nb s.bc, .int .i64 s.x0, .int .i64 s.y0, .int .i64 s.x1, .int .i64 s.y1, .slice s.ro rooms.length s.rc, .slice s.dO doors.length s.dc, .int .i64 s.fog, .int .i64 s.gx, .int .i64 s.gy, .int .i64 s.push, .int .i64 s.drag, .int .i64 s.rest, .int .i64 s.rounds, .int .i64 s.fuel] 31) := ⟨_, rfl⟩
      have HB := Lib.hid (by rw [hwb, hbx]; exact alloc_new w _ : wb.heap[bx]? = some (.cells #[.int .i64 s.players, .slice s.bo s.nb s.bc, .int .i64 s.x0, .int .i64 s.y0, .int .i64 s.x1, .int .i64 s.y1, .slice s.ro rooms.length s.rc, .slice s.dO doors.length s.dc, .int .i64 s.fog, .int .i64 s.gx, .int .i64 s.gy, .int .i64 s.push, .int .i64 s.drag, .int .i64 s.rest, .int .i64 s.rounds, .int .i64 s.fuel] 31 (0, 0)))
      have HWB := Lib.hid (by rw [hwb]; exact (Fr.refl [] w).alloc _ : Fr [] w wb)
      have HBX := Lib.hid hbx
      have HWE := Lib.hid hwb
      clear hbx hwb
      go_enter Try.func40, Try.ntmps40
      go_wp2_with fail
      rw [← HBX.out, ← HWE.out]
      go_loopw [20] (fun iv wr => ∃ i : Nat, i ≤ rooms.length ∧ iv = .int .i64 (i : Int) ∧ (rooms.take i).all Bx.ok = true ∧ Fr [] wb wr) (fun iv _ => rooms.length - (intOf iv).toNat)
      case atStart => exact ⟨0, by omega, rfl, rfl, Fr.refl _ _⟩
      case round =>
        obtain ⟨i, hi, rfl, ht, hf⟩ := hrel
        have HT := Lib.hid ht
        have HF := Lib.hid hf
        by_cases hil : i < rooms.length
        · obtain ⟨g, off, hro, hg, k0, k1, k2, k3⟩ := (HM.out.old (HWB.out.trans hf (by simp [Ext]))).rr.room hil
          obtain ⟨r, hr⟩ : ∃ r, r = rooms[i] := ⟨_, rfl⟩
          rw [← hr] at k0 k1 k2 k3
          have HR := Lib.hid hr
          have HRO := Lib.hid hro
          rw [hro]
          obtain ⟨t, htt⟩ : ∃ t, t = r.ok := ⟨_, rfl⟩
          have HPR := Lib.hid (fun (u : World) => (by rw [htt]; exact proper_any u r.x0 r.y0 r.x1 r.y1 : Calls Try.prog 39 #[.agg #[.int .i64 r.x0, .int .i64 r.y0, .int .i64 r.x1, .int .i64 r.y1]] u fun e w' => e = .returned (.bool t) ∧ Fr [] u w'))
          have HTT := Lib.hid htt
          have hii : (i : Int) < (rooms.length : Int) := by omega
          clear ht hf hr hro htt
          go_wp2_with fail
          refine (HPR.out _).mono ?_
          rintro e w2 ⟨rfl, f2⟩
          have F2 := Lib.hid ((HF.out.alloc _).trans f2 (by simp [Ext]))
          clear f2
          cases t
          · go_wp2_with fail
            go_ret
            exact ⟨ret_bool (by rw [HE.out, not_all_of hil (by rw [← HR.out]; exact HTT.out.symm)]; rfl), HWB.out.trans F2.out (by simp [Ext])⟩
          · go_wp2_with fail
            go_roundw
            case rel => exact ⟨i + 1, by omega, by go_num, all_snoc hil HT.out (by rw [← HR.out]; exact HTT.out.symm), F2.out⟩
            case measure => simp [intOf]; omega
        · have hke : rooms.take i = rooms := List.take_of_length_le (by omega)
          rw [hke] at HT
          have c6 : wr.cell? ⟨bx, 6, none⟩ = some (.slice s.ro rooms.length s.rc) := cell_blk (hf.blk HB.out (by simp)) 6
          have c7 : wr.cell? ⟨bx, 7, none⟩ = some (.slice s.dO doors.length s.dc) := cell_blk (hf.blk HB.out (by simp)) 7
          clear ht hf hke
          go_wp2_with fail
          go_loopw [31] (fun iv wr2 => ∃ j : Nat, j ≤ doors.length ∧ iv = .int .i64 (j : Int) ∧ (doors.take j).all (drOk ((rooms.length : Int) - 1)) = true ∧ Fr [] wb wr2) (fun iv _ => doors.length - (intOf iv).toNat)
          case atStart => exact ⟨0, by omega, rfl, rfl, HF.out⟩
          case round =>
            obtain ⟨j, hj, rfl, ht2, hf2⟩ := hrel
            have HT2 := Lib.hid ht2
            have HF2 := Lib.hid hf2
            by_cases hjl : j < doors.length
            · obtain ⟨g, off, hdo, hg, k0, k1⟩ := (HM.out.old (HWB.out.trans hf2 (by simp [Ext]))).dr.door hjl
              obtain ⟨d, hd⟩ : ∃ d, d = doors[j] := ⟨_, rfl⟩
              rw [← hd] at k0 k1
              have HD := Lib.hid hd
              have HDO := Lib.hid hdo
              rw [hdo]
              obtain ⟨p, q⟩ := d
              obtain ⟨t, htt⟩ : ∃ t, t = (inB 0 ((rooms.length : Int) - 1) p && inB 0 ((rooms.length : Int) - 1) q) := ⟨_, rfl⟩
              have HPR := Lib.hid (fun (u : World) (b : Nat) h => (by rw [htt]; exact within2 u b 0 ((rooms.length : Int) - 1) p q h : Calls Try.prog 53 #[.int .i64 0, .int .i64 ((rooms.length : Int) - 1), .slice (some ⟨b, 0, none⟩) 2 2] u fun e w' => e = .returned (.bool t) ∧ Fr [] u w'))
              have HTT := Lib.hid htt
              have hjj : (j : Int) < (doors.length : Int) := by omega
              have c6 : (wr.alloc (.cells #[.int .i64 p, .int .i64 q] 68)).cell? ⟨bx, 6, none⟩ = some (.slice s.ro rooms.length s.rc) := cell_blk (alloc_old (hf2.blk HB.out (by simp))) 6
              have HNW := Lib.hid (fun (o o' : Obj) => alloc_new2 wr o o')
              have HBO := Lib.hid (fun (o o' : Obj) => (by exact alloc_old (alloc_new wr o) : ((wr.alloc o).alloc o').heap[wr.heap.size]? = some o))
              clear ht2 hf2 hd hdo htt
              go_wp2_with fail
              refine (HPR.out _ _ (HNW.out _ _)).mono ?_
              rintro e w3 ⟨rfl, f3⟩
              have F3 := Lib.hid (((HF2.out.alloc _).alloc _).trans f3 (by simp [Ext]))
              have hbb := f3.blk (HBO.out _ _) (by simp)
              have k0' : w3.cell? ⟨wr.heap.size, 0, none⟩ = some (.int .i64 p) := cell_blk hbb 0
              have k1' : w3.cell? ⟨wr.heap.size, 1, none⟩ = some (.int .i64 q) := cell_blk hbb 1
              clear f3 hbb
              cases t
              · go_wp2_with fail
                go_ret
                exact ⟨ret_bool (by
                  rw [HE.out, not_all_of hjl (by rw [← HD.out]; unfold drOk; rw [← HTT.out]; rfl)]; simp), HWB.out.trans F3.out (by simp [Ext])⟩
              · by_cases hpq : p = q
                · have hb : (p == q) = true := by simp [hpq]
                  have HPQ := Lib.hid hpq
                  clear hpq
                  go_wp2_with fail
                  go_ret
                  exact ⟨ret_bool (by
                    rw [HE.out, not_all_of hjl (by rw [← HD.out]; unfold drOk; rw [← HTT.out]; simp [HPQ.out])]; simp), HWB.out.trans F3.out (by simp [Ext])⟩
                · have hb : (p == q) = false := by simpa using hpq
                  have HPQ := Lib.hid hpq
                  clear hpq
                  go_wp2_with fail
                  go_roundw
                  case rel => exact ⟨j + 1, by omega, by go_num, all_snoc hjl HT2.out (by rw [← HD.out]; unfold drOk; rw [← HTT.out]; simp [HPQ.out]), F3.out⟩
                  case measure => simp [intOf]; omega
            · have hke2 : doors.take j = doors := List.take_of_length_le (by omega)
              rw [hke2] at HT2
              clear ht2 hf2 hke2
              go_wp2_with fail
              go_ret
              exact ⟨ret_bool (by rw [HE.out, HT.out, HT2.out]; rfl), HWB.out.trans HF2.out (by simp [Ext])⟩
end Go.Proofs.Ytlfomhknfpmhbaa
