/- Package broadphase: the small functions and the closures. -/
import Derived.Test.YtoplpmkcfgadlaaBroadP
import Derived.Test.YtoplpmkcfgadlaaSort1
import Derived.Test.YtoplpmkcfgadlaaShelf04
import Derived.Test.YtoplpmkcfgadlaaRound
namespace Go.Proofs.Ytoplpmkcfgadlaa
open Go.RowKit Go.Sort Go.Lib Go.Shelf

set_option maxRecDepth 100000 in
theorem meet_any (w : World) (a0 a1 b0 b1 : Int) : Calls Try.prog 25 #[.int .i64 a0, .int .i64 a1, .int .i64 b0, .int .i64 b1] w fun e w' => e = .returned (.bool (meetB a0 a1 b0 b1)) ∧ w = w' := by
  unfold meetB
  by_cases h : a0 ≤ b1
  · rw [decide_eq_true h, Bool.true_and]
    go_enter Try.func25, Try.ntmps25
    go_wp2
    go_ret
    exact ⟨rfl, rfl⟩
  · rw [decide_eq_false h, Bool.false_and]
    go_enter Try.func25, Try.ntmps25
    go_wp2
    go_ret
    exact ⟨rfl, rfl⟩

set_option maxRecDepth 100000 in
theorem isup_any (w : World) (e : Nat) (he : e ≤ 1000000) : Calls Try.prog 27 #[.int .i64 (e : Int)] w fun r w' => r = .returned (.bool (decide (e % 2 = 1))) ∧ w = w' := by
  obtain ⟨x, hx⟩ : ∃ x : Bool, x = decide (e % 2 = 1) := ⟨_, rfl⟩
  have h2 : Hid (((e : Int) % 2 == 1) = x) := Lib.hid (by
    rw [hx, Bool.eq_iff_iff, beq_iff_eq, decide_eq_true_eq]; omega)
  rw [← hx]
  clear hx
  go_enter Try.func27, Try.ntmps27
  go_wp2
  go_ret
  exact ⟨by rw [← h2.out]; rfl, rfl⟩

/-- cmp.Or -/
def orL : List Int → Int
  | [] => 0
  | x :: l => if x = 0 then orL l else x
theorem orL_drop {l : List Int} {i : Nat} (hi : i < l.length) (h : ∀ j (hj : j < l.length), j < i → l[j] = 0) : (l[i] ≠ 0 → orL l = l[i]) := by
  induction l generalizing i with
  | nil => simp at hi
  | cons x l ih =>
    intro hx
    cases i with
    | zero => unfold orL; simp at hx; simp [hx]
    | succ i =>
      have h0 := h 0 (by simp) (by omega)
      simp at h0
      unfold orL
      rw [if_pos h0]
      simp at hx
      simp
      exact ih (by simpa using hi) (fun j hj hji => by have k := h (j + 1) (by simpa using hj) (by omega); rw [List.getElem_cons_succ] at k; exact k) hx
theorem orL_zero {l : List Int} (h : ∀ x ∈ l, x = 0) : orL l = 0 := by
  induction l with
  | nil => rfl
  | cons x l ih => unfold orL; rw [if_pos (h x (by simp))]; exact ih fun y hy => h y (by simp [hy])
def intsB (l : List Int) : List Value := l.flatMap fun x => [.int .i64 x]
theorem intsB_len (l : List Int) : (intsB l).length = l.length := by unfold intsB; rw [flat_len _ 1 (fun _ => rfl)]; omega
theorem intsB_get (l : List Int) (i : Nat) : (intsB l)[i]? = l[i]?.map (.int .i64 ·) := by
  induction l generalizing i with
  | nil => simp [intsB]
  | cons x l ih =>
    unfold intsB
    rw [List.flatMap_cons]
    cases i with
    | zero => simp
    | succ i =>
      have := ih i
      unfold intsB at this
      simpa using this

set_option maxRecDepth 100000 in
set_option maxHeartbeats 1000000 in
theorem or_any (w : World) (b c : Nat) (l : List Int) (h : w.heap[b]? = some (.cells (intsB l).toArray 3 (0, 0))) (hl : l.length ≤ 1000) :
    Calls Try.prog 30 #[.slice (some ⟨b, 0, none⟩) l.length c] w fun r w' => r = .returned (.int .i64 (orL l)) ∧ w = w' := by
  have HB := Lib.hid h
  clear h
  go_enter Try.func30, Try.ntmps30
  go_wp2_with fail
  go_loopw [8] (fun iv wr => ∃ i : Nat, iv = .int .i64 (i : Int) ∧ i ≤ l.length ∧ (∀ j (hj : j < l.length), j < i → l[j] = 0) ∧ wr = w) (fun iv _ => l.length - (intOf iv).toNat)
  case atStart => exact ⟨0, rfl, by omega, fun j _ h => absurd h (by omega), rfl⟩
  case round =>
    obtain ⟨i, rfl, hi, hz, rfl⟩ := hrel
    have HZ := Lib.hid hz
    clear hz
    by_cases hil : i < l.length
    · have hlt : (i : Int) < (l.length : Int) := by omega
      have c0 : wr.cell? ⟨b, i, none⟩ = some (.int .i64 l[i]) := by
        rw [cell_blk HB.out]
        simp [intsB_get, hil]
      have HO := Lib.hid (orL_drop hil HZ.out)
      obtain ⟨x, hx⟩ : ∃ x, x = l[i] := ⟨_, rfl⟩
      have HX := Lib.hid hx
      rw [← hx] at c0 HO
      have wi : IntKind.i64.wrap ((i : Int) + 1) = (i : Int) + 1 := IntWalk.i64_in _ (by omega)
      clear hx
      by_cases hx0 : x = 0
      · have hne : (x != 0) = false := by simp [hx0]
        go_wp2_with fail
        go_roundw
        case rel => exact ⟨i + 1, by go_num, by omega, fun j hj hji => by
          rcases Nat.lt_or_ge j i with q | q
          · exact HZ.out j hj q
          · have : j = i := by omega
            subst this; rw [← HX.out]; exact hx0, by trivial⟩
        case measure => simp [intOf]; omega
      · have hne : (x != 0) = true := by simp [hx0]
        go_wp2_with fail
        go_ret
        exact ⟨by rw [HO.out hx0]; rfl, by trivial⟩
    · have hlt : ¬ (i : Int) < (l.length : Int) := by omega
      have HO : Hid (orL l = 0) := Lib.hid (orL_zero fun x hx => by
        obtain ⟨j, hj, rfl⟩ := List.getElem_of_mem hx
        exact HZ.out j hj (by omega))
      go_wp2_with fail
      go_ret
      exact ⟨by rw [HO.out]; rfl, by trivial⟩
end Go.Proofs.Ytoplpmkcfgadlaa
