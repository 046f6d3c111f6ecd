/- The statements' helpers of chapter 24: Around, keeps, flag, made, lives. -/
import Derived.OpenShut
import Derived.Test.YtchigfofcdildaaObj
namespace Go.Proofs.Ytchigfofcdildaa
open Go.RowKit

def around (n most : Int) : Int := (if n < 0 then -(n + 1) else n) % most

theorem around_any (n m : Int) (w : World) (h1 : -9223372036854775808 ≤ n) (h2 : n ≤ 9223372036854775807) (h3 : 1 ≤ m) (h4 : m ≤ 9223372036854775807) :
    Calls Try.prog 10 #[.int .i64 n, .int .i64 m] w fun e w' => e = .returned (.int .i64 (around n m)) ∧ w = w' := by
  by_cases hn : n < 0
  · go_enter Try.func10, Try.ntmps10
    go_wp2
    go_ret
    exact ⟨ret_int (by rw [around, if_pos hn, ← Int.neg_tmod, Int.tmod_eq_emod_of_nonneg (by omega)]), rfl⟩
  · go_enter Try.func10, Try.ntmps10
    go_wp2
    go_ret
    exact ⟨ret_int (by rw [around, if_neg (by omega)]), rfl⟩

theorem around_lt (n : Int) {m : Int} (h : 0 < m) : 0 ≤ around n m ∧ around n m < m := ⟨Int.emod_nonneg _ (by omega), Int.emod_lt_of_pos _ h⟩

def bounded (n : Int) : Prop := -9223372036854775808 ≤ n ∧ n ≤ 9223372036854775807
theorem wf_bounded {n : Int} (h : (Lit.int .i64 n).wf = true) : bounded n := by
  have := Go.bounds_i64 h
  exact ⟨by omega, by omega⟩

theorem keeps_any (n : Int) (w : World) (h1 : -9223372036854775808 ≤ n) (h2 : n ≤ 9223372036854775807) :
    Calls Try.prog 9 #[.int .i64 n] w fun e w' => e = .returned (.int .i64 (1 + around n 13)) ∧ w = w' := by
  have hb := around_lt n (m := 13) (by omega)
  go_enter Try.func9, Try.ntmps9
  go_wp2_with (go_at_call 10; refine (around_any _ _ _ (by omega) (by omega) (by omega) (by omega)).mono ?_; rintro e w' ⟨rfl, rfl⟩)
  go_ret
  exact ⟨rfl, rfl⟩

def cells6 : List Int := [3, 1, 4, 1, 5, 9]

/-- a memory with a ring has been made -/
def MadeTo (w : World) (l : List Int) (keep : Int) (e : Ending) (w' : World) : Prop :=
  ∃ p r, e = .returned (.tuple #[.pointer (some ⟨p, 0, none⟩), .pointer (some ⟨r, 0, none⟩)]) ∧ Own w p r { keep := keep, cells := l, L := [] } 0 (-1) w'

theorem rd_new {w : World} {b : Nat} {l : List Int} (h : w.heap[b]? = some (row l)) (hl : l.length ≤ maxLen) : Rd w 1 (some ⟨b, 0, none⟩) l.length (ints l) := (row_seg h hl).rd

theorem own_made {w w1 w2 : World} {p : Nat} {l : List Int} {keep : Int} (h1 : 1 ≤ keep) (h2 : keep ≤ 13) (hm : MemNew (w.alloc (row l)) p { cells := l, log := [], base := 0 } w1)
    (hr : IsRing w2 w1.heap.size p [w1.heap.size] { keep := keep, ents := [] }) (hf : Fr [] w1 w2) : Own w p w1.heap.size { keep := keep, cells := l, L := [] } 0 (-1) w2 := by
  obtain ⟨F, a, b, c⟩ := obj_new h1 h2 hm hr hf
  exact ⟨F, a, ((Fr.refl [] w).alloc _).trans b (by simp [Ext]), fun k hk => by rcases c k hk with h | h; simp at h; exact .inr (by simp at h; omega)⟩

theorem made_any (w : World) (keep : Int) (h1 : 1 ≤ keep) (h2 : keep ≤ 13) : Calls Try.prog 11 #[.int .i64 keep] w (MadeTo w cells6 keep) := by
  have hrd : Rd (w.alloc (row cells6)) 1 (some ⟨w.heap.size, 0, none⟩) 6 (ints cells6) := rd_new (l := cells6) (alloc_new _ _) (by simp [cells6, maxLen])
  have HRD := Lib.hid hrd
  clear hrd
  go_enter Try.func11, Try.ntmps11
  go_wp2_with fail
  refine (new_any (w := w.alloc (row cells6)) _ 6 cells6 HRD.out (by simp [cells6])).mono ?_
  rintro e w1 ⟨rfl, hm⟩
  rw [World.size_alloc] at hm
  go_wp2_with fail
  refine (ringnew_any w1 _ keep h1 h2).mono ?_
  rintro e w2 ⟨rfl, hr, hf⟩
  go_wp2_with fail
  go_ret2
  exact ⟨_, _, rfl, own_made h1 h2 hm hr hf⟩

theorem lives_any (w : World) : Calls Try.prog 19 #[] w fun e w' => e = .returned (.bool true) ∧ Fr [] w w' := by
  have hrd : Rd (w.alloc (row [1, 2])) 1 (some ⟨w.heap.size, 0, none⟩) 2 (ints [1, 2]) := rd_new (l := [1, 2]) (alloc_new _ _) (by simp [maxLen])
  have HRD := Lib.hid hrd
  clear hrd
  go_enter Try.func19, Try.ntmps19
  go_wp2_with fail
  refine (new_any (w := w.alloc (row [1, 2])) _ 2 [1, 2] HRD.out (by simp)).mono ?_
  rintro e w1 ⟨rfl, hm⟩
  rw [World.size_alloc] at hm
  go_wp2_with fail
  refine (ringnew_any w1 _ 2 (by omega) (by omega)).mono ?_
  rintro e w2 ⟨rfl, hr, hf⟩
  have ho := own_made (by omega) (by omega) hm hr hf
  clear hm hr hf
  go_wp2_with fail
  refine (own_oldest' ho (x := -1) rfl).mono ?_
  rintro e w3 ⟨rfl, h3'⟩
  have h3 := h3'.mono (Int.le_refl _) (show (-1 : Int) ≤ 100 by omega)
  clear ho h3'
  go_wp2_with fail
  refine (own_push' h3 5 (by omega) (by omega) (fun _ => by omega) (code := 0) rfl).mono ?_
  rintro e w4 ⟨rfl, h4⟩
  clear h3
  go_wp2_with fail
  refine (own_set' h4 0 8 (by omega) rfl).mono ?_
  rintro e w5 ⟨rfl, h5⟩
  clear h4
  go_wp2_with fail
  refine (own_push' h5 6 (by omega) (by omega) (fun _ => by omega) (code := 0) rfl).mono ?_
  rintro e w6 ⟨rfl, h6⟩
  clear h5
  go_wp2_with fail
  refine (own_set' h6 0 9 (by omega) rfl).mono ?_
  rintro e w7 ⟨rfl, h7⟩
  clear h6
  go_wp2_with fail
  refine (own_push' h7 7 (by omega) (by omega) (fun _ => by omega) (code := 0) rfl).mono ?_
  rintro e w8 ⟨rfl, h8⟩
  clear h7
  go_wp2_with fail
  refine (own_set' h8 1 9 (by omega) rfl).mono ?_
  rintro e w9 ⟨rfl, h9⟩
  clear h8
  go_wp2_with fail
  refine (own_oldest' h9 (x := 6) rfl).mono ?_
  rintro e w10 ⟨rfl, h10⟩
  clear h9
  go_wp2_with fail
  refine (own_rewind' h10 5 (by omega) (code := 24) rfl).mono ?_
  rintro e w11 ⟨rfl, h11⟩
  clear h10
  go_wp2_with fail
  refine (own_rewind' h11 6 (by omega) (code := 0) rfl).mono ?_
  rintro e w12 ⟨rfl, h12⟩
  clear h11
  go_wp2_with fail
  refine (own_get' h12 0 (x := 8) rfl).mono ?_
  rintro e w13 ⟨rfl, h13⟩
  clear h12
  go_wp2_with fail
  refine (own_get' h13 1 (x := 2) rfl).mono ?_
  rintro e w14 ⟨rfl, h14⟩
  clear h13
  go_wp2_with fail
  refine (own_newest' h14 (x := 6) rfl).mono ?_
  rintro e w15 ⟨rfl, h15⟩
  clear h14
  go_wp2_with fail
  go_ret
  exact ⟨rfl, h15.frame⟩
end Go.Proofs.Ytchigfofcdildaa
