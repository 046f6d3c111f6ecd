/- arenanetref01.Pick. -/
import Derived.Test.YtdbngpncigjfiaaMem
import Derived.Test.YtdbngpncigjfiaaAround
namespace Go.Proofs.Ytdbngpncigjfiaa
open Go.RowKit

def NatLt (m : Nat) (w : World) (e : Ending) (w' : World) : Prop := ∃ n : Nat, n < m ∧ e = .returned (.int .i64 (n : Int)) ∧ w = w'

set_option maxRecDepth 100000 in
set_option maxHeartbeats 1000000 in
theorem pick_any (w : World) (ao : Option Addr) (cap : Nat) (l : List Int) (i m : Nat) (h : Rd w 1 ao l.length (ints l)) (hb : ∀ x ∈ l, bounded x) (hi : i ≤ 1000000) (h1 : 1 ≤ m) (hm : m ≤ 1000000) :
    Calls Try.prog 30 #[.slice ao l.length cap, .int .i64 (i : Int), .int .i64 (m : Int)] w (NatLt m w) := by
  have hlen : l.length ≤ 9223372036854775807 := by have := h.2.1; unfold maxLen at this; omega
  by_cases hil : i < l.length
  · obtain ⟨g, off, rfl, hg, hc⟩ := h.at (by omega)
    obtain ⟨n, hn1, -, hA⟩ := around_nat l[i] m (hb _ (List.getElem_mem hil)) h1 (by omega)
    have HA := Lib.hid hA
    have ci : w.cell? ⟨g, off + i, none⟩ = some (.int .i64 l[i]) := by rw [hc i (by omega), ints_get, List.getElem?_eq_getElem hil]; rfl
    obtain ⟨x, hx⟩ : ∃ x, x = l[i] := ⟨_, rfl⟩
    rw [← hx] at ci HA
    have hii : (i : Int) < (l.length : Int) := by omega
    clear h hb hc hx hA
    go_enter Try.func30, Try.ntmps30
    go_wp2_with fail
    refine (HA.out _).mono ?_
    rintro e w1 ⟨rfl, rfl⟩
    go_wp2_with fail
    go_ret
    exact ⟨n, hn1, rfl, rfl⟩
  · have hii : (l.length : Int) ≤ (i : Int) := by omega
    clear h hb
    go_enter Try.func30, Try.ntmps30
    go_wp2_with fail
    go_ret
    exact ⟨0, by omega, rfl, rfl⟩
end Go.Proofs.Ytdbngpncigjfiaa
