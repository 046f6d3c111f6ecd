/- arenanetref01.SameInts of two equal rows. -/
import Derived.Test.YtoolojpjopodgaaRound
import Derived.Test.YtoolojpjopodgaaMem
namespace Go.Proofs.Ytoolojpjopodgaa
open Go.RowKit

set_option maxRecDepth 100000 in
set_option maxHeartbeats 1000000 in
theorem same_yes (w : World) (ao bo : Option Addr) (ca cb : Nat) (l : List Int) (ha : Rd w 1 ao l.length (ints l)) (hb : Rd w 1 bo l.length (ints l)) :
    Calls Try.prog 18 #[.slice ao l.length ca, .slice bo l.length cb] w fun e w' => e = .returned (.bool true) ∧ ∃ k, w' = w.drewN k := by
  have hlen : l.length ≤ 9223372036854775807 := by have := ha.2.1; unfold maxLen at this; omega
  have HA := Lib.hid ha
  have HB := Lib.hid hb
  clear ha hb
  go_enter Try.func18, Try.ntmps18
  go_wp2_with fail
  go_loopw [5] (fun i wr => ∃ i' : Nat, i' ≤ l.length ∧ i = .int .i64 i' ∧ ∃ k, wr = w.drewN k) (fun i _ => l.length - (intOf i).toNat)
  case atStart => exact ⟨0, Nat.zero_le _, rfl, 0, rfl⟩
  case round =>
    obtain ⟨i, hi, rfl, k, rfl⟩ := hrel
    by_cases hin : i < l.length
    · have hcx : ∃ g off g2 off2 x, ao = some ⟨g, off, none⟩ ∧ bo = some ⟨g2, off2, none⟩ ∧ w.cell? ⟨g, off + i, none⟩ = some (.int .i64 x) ∧ w.cell? ⟨g2, off2 + i, none⟩ = some (.int .i64 x) := by
        obtain ⟨g, off, h1, _, h2⟩ := HA.out.at (by omega)
        obtain ⟨g2, off2, h3, _, h4⟩ := HB.out.at (by omega)
        exact ⟨g, off, g2, off2, l[i], h1, h3, by rw [h2 i (by omega), ints_get, List.getElem?_eq_getElem hin]; rfl, by rw [h4 i (by omega), ints_get, List.getElem?_eq_getElem hin]; rfl⟩
      obtain ⟨g, off, g2, off2, x, rfl, rfl, c1, c2⟩ := hcx
      go_wp2_with fail
      go_quiet (fail)
      go_wp2_with fail
      go_roundw
      case rel => exact ⟨i + 1, by omega, by go_num, _, rfl⟩
      case measure => simp [intOf]; omega
    · go_wp2_with fail
      go_ret
      exact ⟨rfl, k, rfl⟩
end Go.Proofs.Ytoolojpjopodgaa
