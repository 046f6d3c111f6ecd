/- arenanetref01.Has. -/
import Derived.Test.YtdbngpncigjfiaaMem
namespace Go.Proofs.Ytdbngpncigjfiaa
open Go.RowKit

set_option maxRecDepth 100000 in
set_option maxHeartbeats 1000000 in
theorem hasn_any (w : World) (ao : Option Addr) (cap : Nat) (l : List Int) (n : Int) (h : Rd w 1 ao l.length (ints l)) :
    Calls Try.prog 23 #[.slice ao l.length cap, .int .i64 n] w fun e w' => e = .returned (.bool (decide (n ∈ l))) ∧ w = w' := by
  have hlen : l.length ≤ 9223372036854775807 := by have := h.2.1; unfold maxLen at this; omega
  have H := Lib.hid h
  clear h
  go_enter Try.func23, Try.ntmps23
  go_wp2
  go_loop [5] (fun iv => ∃ i : Nat, i ≤ l.length ∧ iv = .int .i64 (i : Int) ∧ n ∉ l.take i) (fun iv => l.length - (intOf iv).toNat)
  case atStart => exact ⟨0, by omega, rfl, by simp⟩
  case round =>
    obtain ⟨i, hi, rfl, hni⟩ := hrel
    have HNI := Lib.hid hni
    clear hni
    by_cases hlt : i < l.length
    · obtain ⟨g, off, rfl, hg, hc⟩ := H.out.at (by omega)
      have cx : w.cell? ⟨g, off + i, none⟩ = some (.int .i64 l[i]) := by rw [hc i (by omega), ints_get, List.getElem?_eq_getElem hlt]; rfl
      obtain ⟨x, hx⟩ : ∃ x, x = l[i] := ⟨_, rfl⟩
      rw [← hx] at cx
      have HX := Lib.hid hx
      clear hc hx
      by_cases hxn : x = n
      · have hb : (x == n) = true := by simpa using hxn
        have HXN := Lib.hid hxn
        clear hxn
        go_wp2
        go_ret
        exact ⟨ret_bool (by have h : n ∈ l := by rw [← HXN.out, HX.out]; exact List.getElem_mem hlt
                            simp [h]), rfl⟩
      · have hb : (x == n) = false := by simpa using hxn
        have HXN := Lib.hid hxn
        clear hxn
        go_wp2
        go_round
        case rel =>
          refine ⟨i + 1, by omega, by go_num, ?_⟩
          rw [List.take_succ_eq_append_getElem hlt, List.mem_append, List.mem_singleton, ← HX.out]
          rintro (h | h)
          · exact HNI.out h
          · exact HXN.out h.symm
        case measure => simp [intOf]; omega
    · go_wp2
      go_ret
      exact ⟨ret_bool (by have h := HNI.out; rw [List.take_of_length_le (by omega)] at h; simp [h]), rfl⟩
end Go.Proofs.Ytdbngpncigjfiaa
