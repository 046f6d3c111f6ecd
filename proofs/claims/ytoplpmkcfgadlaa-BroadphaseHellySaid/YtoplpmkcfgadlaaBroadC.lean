/- Package broadphase: the closures that compare, and ends. -/
import Derived.Test.YtoplpmkcfgadlaaBroadM
namespace Go.Proofs.Ytoplpmkcfgadlaa
open Go.RowKit Go.Sort Go.Lib Go.Shelf

def BX.cl (b : BX) : List Value := [.int .i64 b.x0, .int .i64 b.y0, .int .i64 b.x1, .int .i64 b.y1]
theorem bx_len (bs : List BX) : (bs.flatMap BX.cl).length = bs.length * 4 := flat_len _ 4 (fun _ => rfl) _
theorem Rd.box {w : World} {bo : Option Addr} {bs : List BX} (h : Rd w 4 bo bs.length (bs.flatMap BX.cl)) {i : Nat} (hi : i < bs.length) : ∃ g off, bo = some ⟨g, off, none⟩ ∧
    w.cell? ⟨g, off + i * 4, none⟩ = some (.int .i64 (bs[i]!).x0) ∧ w.cell? ⟨g, off + i * 4 + 1, none⟩ = some (.int .i64 (bs[i]!).y0) ∧ w.cell? ⟨g, off + i * 4 + 2, none⟩ = some (.int .i64 (bs[i]!).x1) ∧ w.cell? ⟨g, off + i * 4 + 3, none⟩ = some (.int .i64 (bs[i]!).y1) := by
  obtain ⟨g, off, ha, hg, hc⟩ := h.at (by omega)
  have key : ∀ j, j < 4 → w.cell? ⟨g, off + i * 4 + j, none⟩ = (BX.cl (bs[i]!))[j]? := fun j hj => by
    rw [Nat.add_assoc, hc _ (by omega), flat_get BX.cl 4 (fun _ => rfl) (by omega) bs _ (by omega), show (i * 4 + j) / 4 = i by omega, show (i * 4 + j) % 4 = j by omega]
    rw [show bs.toArray[i]! = bs[i]! by simp, List.getElem?_eq_getElem (by simpa [BX.cl] using hj), getElem!_pos _ j (by simpa [BX.cl] using hj)]
  exact ⟨g, off, ha, key 0 (by omega), key 1 (by omega), key 2 (by omega), key 3 (by omega)⟩

set_option maxRecDepth 100000 in
set_option maxHeartbeats 1000000 in
theorem place_any (W : World) (pb bc : Nat) (bo : Option Addr) (bs : List BX) (hpb : W.cell? ⟨pb, 0, none⟩ = some (.slice bo bs.length bc)) (hrd : Rd W 4 bo bs.length (bs.flatMap BX.cl)) (hl : bs.length ≤ 1000) (e : Nat) (he : e < 2 * bs.length) :
    Calls Try.prog 32 #[.int .i64 (e : Int), .pointer (some ⟨pb, 0, none⟩)] W fun r w' => r = .returned (.int .i64 (placeB bs e)) ∧ W = w' := by
  obtain ⟨g, off, rfl, c0, -, c2, -⟩ := hrd.box (i := e / 2) (by omega)
  obtain ⟨k, hk⟩ : ∃ k, k = e / 2 := ⟨_, rfl⟩
  have hq : (e : Int) / 2 = (k : Int) := by omega
  have hq2 : (e : Int).tdiv 2 = (k : Int) := by rw [Int.tdiv_eq_ediv_of_nonneg (by omega)]; omega
  have hkl : k < bs.length := by omega
  have hki : (k : Int) < (bs.length : Int) := by omega
  have hwk : IntKind.i64.wrap (k : Int) = (k : Int) := IntWalk.i64_in _ (by omega)
  have HUP := Lib.hid (isup_any W e (by omega))
  unfold placeB
  rw [← hk] at c0 c2 ⊢
  obtain ⟨v0, hv0⟩ : ∃ v, v = (bs[k]!).x0 := ⟨_, rfl⟩
  obtain ⟨v2, hv2⟩ : ∃ v, v = (bs[k]!).x1 := ⟨_, rfl⟩
  rw [← hv0] at c0 ⊢
  rw [← hv2] at c2 ⊢
  clear hv0 hv2 hk hrd hl he
  by_cases hu : e % 2 = 1
  · rw [if_pos hu]
    rw [decide_eq_true hu] at HUP
    clear hu
    go_enter Try.func32, Try.ntmps32
    go_wp2_with (go_at_call 27; refine HUP.out.mono ?_; rintro r w' ⟨rfl, rfl⟩)
    go_ret
    exact ⟨rfl, rfl⟩
  · rw [if_neg hu]
    rw [decide_eq_false hu] at HUP
    clear hu
    go_enter Try.func32, Try.ntmps32
    go_wp2_with (go_at_call 27; refine HUP.out.mono ?_; rintro r w' ⟨rfl, rfl⟩)
    go_ret
    exact ⟨rfl, rfl⟩

def cfB (bs : List BX) (a b : Nat) : Int := orL [compareInt (placeB bs a) (placeB bs b), compareInt ((a : Int) % 2) ((b : Int) % 2), compareInt (a : Int) (b : Int)]
theorem cmp0 (x y : Int) : compareInt x y = 0 ↔ x = y := by
  unfold compareInt
  repeat' split
  all_goals omega
theorem cmpN (x y : Int) : compareInt x y < 0 ↔ x < y := by
  unfold compareInt
  repeat' split
  all_goals omega
theorem or3N (x y z : Int) : orL [x, y, z] < 0 ↔ x < 0 ∨ (x = 0 ∧ (y < 0 ∨ (y = 0 ∧ z < 0))) := by
  unfold orL orL orL orL
  repeat' split
  all_goals omega
theorem or2N (x y : Int) : orL [x, y] < 0 ↔ x < 0 ∨ (x = 0 ∧ y < 0) := by
  unfold orL orL orL
  repeat' split
  all_goals omega
theorem cfB_lt (bs : List BX) (a b : Nat) : cfB bs a b < 0 ↔ before bs a b := by
  unfold cfB before
  rw [or3N, cmpN, cmp0, cmpN, cmp0, cmpN]
  omega
theorem cell_of_blk {w w' : World} {k : Nat} (h : w'.heap[k]? = w.heap[k]?) (i : Nat) : w'.cell? ⟨k, i, none⟩ = w.cell? ⟨k, i, none⟩ := by unfold World.cell?; rw [h]
theorem grow1 (W : World) (o : Obj) : ∃ q os', ((W.alloc o).drew) = grow (W.drewN q) os' := ⟨1, #[o], by rw [alloc_eq_grow]; rfl⟩
theorem alloc_drew (W : World) (o : Obj) : ((W.alloc o).drew).heap[W.heap.size]? = some o := alloc_new W o

set_option maxRecDepth 100000 in
set_option maxHeartbeats 4000000 in
theorem ends2_any (W : World) (pp pb bc : Nat) (bo : Option Addr) (bs : List BX) (hpp : W.cell? ⟨pp, 0, none⟩ = some (.func (.func 32) #[] #[.pointer (some ⟨pb, 0, none⟩)])) (hpb : W.cell? ⟨pb, 0, none⟩ = some (.slice bo bs.length bc)) (hrd : Rd W 4 bo bs.length (bs.flatMap BX.cl)) (hl : bs.length ≤ 1000)
    (a b : Nat) (ha : a < 2 * bs.length) (hb : b < 2 * bs.length) :
    Calls Try.prog 34 #[.int .i64 (a : Int), .int .i64 (b : Int), .pointer (some ⟨pp, 0, none⟩)] W fun r w' => r = .returned (.int .i64 (cfB bs a b)) ∧ ∃ q os', w' = grow (W.drewN q) os' := by
  have HPA := Lib.hid (fun (e : Nat) (he : e < 2 * bs.length) => ((place_any W.drew pb bc bo bs hpb (hrd.fr (Fr.refl [] W).drew (by simp)) hl e he).mono (fun _ _ h => ⟨h.1, h.2.symm⟩) : Calls Try.prog 32 #[.int .i64 (e : Int), .pointer (some ⟨pb, 0, none⟩)] W.drew fun r w' => r = .returned (.int .i64 (placeB bs e)) ∧ w' = W.drew))
  have hcon := fun x y (W' : World) => AnyG.cmp_Compare_int cmpI x y W'
  change ∀ x y W', Calls Try.prog 31 _ _ _ at hcon
  have HC := Lib.hid hcon
  have HA := Lib.hid ha
  have HB := Lib.hid hb
  have HOR := Lib.hid (fun u c k (l : List Int) (h : u.heap[k]? = some (.cells (intsB l).toArray 3 (0, 0))) hl => or_any u k c l h hl)
  clear hcon hpb hrd hl ha hb
  go_enter Try.func34, Try.ntmps34
  go_upto_region 1 with fail
  refine wp_still_tail 15 (by kernel_rfl) (by kernel_rfl) ?_
  simp only [List.take_succ_cons, List.take_zero, List.drop_succ_cons, List.drop_zero]
  repeat still_step
  still_call (HPA.out a HA.out)
  repeat still_step
  still_call (HPA.out b HB.out)
  repeat still_step
  still_call (HC.out _ _ _)
  repeat still_step
  still_call (HC.out _ _ _)
  repeat still_step
  still_call (HC.out _ _ _)
  refine wpStill_nil ?_
  go_wp2_with (go_at_call 30; refine (HOR.out _ _ _ [_, _, _] (alloc_drew W _) (by simp)).mono ?_; rintro r w' ⟨rfl, rfl⟩)
  go_ret
  exact ⟨by unfold cfB; rfl, grow1 W _⟩
end Go.Proofs.Ytoplpmkcfgadlaa
