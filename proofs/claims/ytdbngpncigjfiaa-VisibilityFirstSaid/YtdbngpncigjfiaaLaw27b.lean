/- More that chapter 27's laws share: Clamp; a copy of the cells. -/
import Derived.Test.YtdbngpncigjfiaaLaw27
namespace Go.Proofs.Ytdbngpncigjfiaa
open Go.RowKit

def clampI (n lo hi : Int) : Int := if n < lo then lo else if hi < n then hi else n
set_option maxHeartbeats 1000000 in
theorem clamp_any (w : World) (n lo hi : Int) : Calls Try.prog 26 #[.int .i64 n, .int .i64 lo, .int .i64 hi] w fun e w' => e = .returned (.int .i64 (clampI n lo hi)) ∧ w = w' := by
  by_cases h1 : n < lo
  · have e : clampI n lo hi = lo := by unfold clampI; rw [if_pos h1]
    rw [e]
    clear e
    go_enter Try.func26, Try.ntmps26
    go_wp2
    go_ret
    exact ⟨rfl, rfl⟩
  · by_cases h2 : hi < n
    · have e : clampI n lo hi = hi := by unfold clampI; rw [if_neg h1, if_pos h2]
      rw [e]
      clear e
      go_enter Try.func26, Try.ntmps26
      go_wp2
      go_ret
      exact ⟨rfl, rfl⟩
    · have e : clampI n lo hi = n := by unfold clampI; rw [if_neg h1, if_neg h2]
      rw [e]
      clear e
      go_enter Try.func26, Try.ntmps26
      go_wp2
      go_ret
      exact ⟨rfl, rfl⟩
theorem clampI_inC (n : Int) : inC (clampI n (-1048576) 1048576) := by unfold clampI inC; split <;> (try split) <;> omega

theorem Set27.vpreR {w w1 : World} {s : St} {bodies : List Bd} {rooms : List Bx} {doors : List (Int × Int)} (h : Set27 w w1 s bodies rooms doors) {u : World} (hu : Fr [] w1 u) {pl n : Nat} (hpl : s.players = (pl : Int)) (hn : n = 48 + 4 * pl + 8 * bodies.length)
    {co : Option Addr} {cc : Nat} {cells : List Int} (hr : Seg u 3 1 co n cc (ints cells)) (hl : cells.length = n) (hp : PosOk pl bodies.length cells) : VPre u s bodies rooms doors co cc cells := by
  have h1 := h.pl
  have h2 := h.nb
  have h3 := h.b5
  refine ⟨⟨h.ok, by omega, h.bd hu, by rw [hl]; exact hr.rd, by rw [hl]; exact hr.2.2.1, hr.2.1⟩, h.mapu hu, h.few, by rw [h2]; exact h.pn, by omega, fun i h0 h1 => ?_, h.fog.1, h.fog.2⟩
  have := hp i.toNat (by omega)
  unfold posX posY
  rw [show (48 + 4 * s.players + 8 * i).toNat = 48 + 4 * pl + 8 * i.toNat by omega]
  exact this
theorem PosOk.set1 {pl nb : Nat} {cells : List Int} (h : PosOk pl nb cells) {k : Nat} (hk : k < cells.length) {v : Int} (hv : inC v) : PosOk pl nb (cells.set k v) := by
  have key : ∀ j, inC (cells.getD j 0) → inC ((cells.set k v).getD j 0) := fun j hj => by
    by_cases e : k = j
    · subst e; rw [getD_set_eq hk]; exact hv
    · rw [getD_set_ne e]; exact hj
  intro i hi
  exact ⟨key _ (h i hi).1, key _ (h i hi).2⟩
theorem sees_same {s : St} {rooms : List Bx} {doors : List (Int × Int)} {c d : List Int} {p i : Int} (h1 : posX s c p = posX s d p) (h2 : posY s c p = posY s d p) (h3 : posX s c i = posX s d i) (h4 : posY s c i = posY s d i) :
    seesB s rooms doors c p i = seesB s rooms doors d p i := by
  unfold seesB; rw [h1, h2, h3, h4]
end Go.Proofs.Ytdbngpncigjfiaa
