/- Package layout: Size, Player, Body, and the reference's, on a setup that is at hand as a value. -/
import Derived.Test.YtlfomhknfpmhbaaProg
import Derived.Test.YtlfomhknfpmhbaaBase
namespace Go.Proofs.Ytlfomhknfpmhbaa
open Go.RowKit

def IV (n : Int) : Value := .int .i64 n

/-- a setup -/
structure St where
  players : Int
  bo : Option Addr
  nb : Nat
  bc : Nat
  x0 : Int
  y0 : Int
  x1 : Int
  y1 : Int
  ro : Option Addr
  rn : Nat
  rc : Nat
  dO : Option Addr
  dn : Nat
  dc : Nat
  fog : Int
  gx : Int
  gy : Int
  push : Int
  drag : Int
  rest : Int
  rounds : Int
  fuel : Int

def St.val (s : St) : Value := .agg #[.int .i64 s.players, .slice s.bo s.nb s.bc, .int .i64 s.x0, .int .i64 s.y0, .int .i64 s.x1, .int .i64 s.y1, .slice s.ro s.rn s.rc, .slice s.dO s.dn s.dc, .int .i64 s.fog, .int .i64 s.gx, .int .i64 s.gy, .int .i64 s.push, .int .i64 s.drag, .int .i64 s.rest, .int .i64 s.rounds, .int .i64 s.fuel]

/-- what the sums need -/
structure St.Ok (s : St) : Prop where
  p0 : -9223372036854775808 ≤ s.players
  p1 : s.players ≤ 1048576
  b1 : s.nb ≤ 1048576
  p2 : -1048576 ≤ s.players

def szOf (s : St) : Int := 48 + 4 * s.players + 8 * (s.nb : Int)
def plOf (s : St) (p : Int) : Int := if p < 0 ∨ s.players ≤ p then -1 else 48 + 4 * p
def bdOf (s : St) (i : Int) : Int := if i < 0 ∨ (s.nb : Int) ≤ i then -1 else 48 + 4 * s.players + 8 * i

set_option maxHeartbeats 1000000 in
theorem size_any (w : World) (s : St) (h : s.Ok) : Calls Try.prog 21 #[s.val] w fun e w' => e = .returned (.int .i64 (szOf s)) ∧ Fr [] w w' := by
  obtain ⟨h1, h2, h3, h4⟩ := h
  unfold St.val szOf
  go_enter Try.func21, Try.ntmps21
  go_wp2
  go_ret
  exact ⟨rfl, (Fr.refl _ _).alloc _⟩

set_option maxHeartbeats 1000000 in
theorem rsize_any (w : World) (s : St) (h : s.Ok) : Calls Try.prog 22 #[s.val] w fun e w' => e = .returned (.int .i64 (szOf s)) ∧ Fr [] w w' := by
  obtain ⟨h1, h2, h3, h4⟩ := h
  unfold St.val szOf
  go_enter Try.func22, Try.ntmps22
  go_wp2
  go_ret
  exact ⟨rfl, (Fr.refl _ _).alloc _⟩

set_option maxHeartbeats 1000000 in
theorem player_any (w : World) (s : St) (h : s.Ok) (p : Int) : Calls Try.prog 17 #[s.val, .int .i64 p] w fun e w' => e = .returned (.int .i64 (plOf s p)) ∧ Fr [] w w' := by
  obtain ⟨h1, h2, h3, h4⟩ := h
  unfold St.val
  by_cases hp : p < 0
  · have e : plOf s p = -1 := by unfold plOf; rw [if_pos (.inl hp)]
    rw [e]
    clear e
    go_enter Try.func17, Try.ntmps17
    go_wp2
    go_ret
    exact ⟨rfl, (Fr.refl _ _).alloc _⟩
  · by_cases hq : s.players ≤ p
    · have e : plOf s p = -1 := by unfold plOf; rw [if_pos (.inr hq)]
      rw [e]
      clear e
      go_enter Try.func17, Try.ntmps17
      go_wp2
      go_ret
      exact ⟨rfl, (Fr.refl _ _).alloc _⟩
    · have e : plOf s p = 48 + 4 * p := by unfold plOf; rw [if_neg (by omega)]
      rw [e]
      clear e
      go_enter Try.func17, Try.ntmps17
      go_wp2
      go_ret
      exact ⟨rfl, (Fr.refl _ _).alloc _⟩

set_option maxHeartbeats 1000000 in
theorem rplayer_any (w : World) (s : St) (h : s.Ok) (p : Int) : Calls Try.prog 18 #[s.val, .int .i64 p] w fun e w' => e = .returned (.int .i64 (plOf s p)) ∧ Fr [] w w' := by
  obtain ⟨h1, h2, h3, h4⟩ := h
  unfold St.val
  by_cases hp : p < 0
  · have e : plOf s p = -1 := by unfold plOf; rw [if_pos (.inl hp)]
    rw [e]
    clear e
    go_enter Try.func18, Try.ntmps18
    go_wp2
    go_ret
    exact ⟨rfl, (Fr.refl _ _).alloc _⟩
  · by_cases hq : s.players ≤ p
    · have e : plOf s p = -1 := by unfold plOf; rw [if_pos (.inr hq)]
      rw [e]
      clear e
      go_enter Try.func18, Try.ntmps18
      go_wp2
      go_ret
      exact ⟨rfl, (Fr.refl _ _).alloc _⟩
    · have e : plOf s p = 48 + 4 * p := by unfold plOf; rw [if_neg (by omega)]
      rw [e]
      clear e
      go_enter Try.func18, Try.ntmps18
      go_wp2
      go_ret
      exact ⟨rfl, (Fr.refl _ _).alloc _⟩

set_option maxHeartbeats 1000000 in
theorem body_any (w : World) (s : St) (h : s.Ok) (p : Int) : Calls Try.prog 19 #[s.val, .int .i64 p] w fun e w' => e = .returned (.int .i64 (bdOf s p)) ∧ Fr [] w w' := by
  obtain ⟨h1, h2, h3, h4⟩ := h
  unfold St.val
  by_cases hp : p < 0
  · have e : bdOf s p = -1 := by unfold bdOf; rw [if_pos (.inl hp)]
    rw [e]
    clear e
    go_enter Try.func19, Try.ntmps19
    go_wp2
    go_ret
    exact ⟨rfl, (Fr.refl _ _).alloc _⟩
  · by_cases hq : (s.nb : Int) ≤ p
    · have e : bdOf s p = -1 := by unfold bdOf; rw [if_pos (.inr hq)]
      rw [e]
      clear e
      go_enter Try.func19, Try.ntmps19
      go_wp2
      go_ret
      exact ⟨rfl, (Fr.refl _ _).alloc _⟩
    · have e : bdOf s p = 48 + 4 * s.players + 8 * p := by unfold bdOf; rw [if_neg (by omega)]
      rw [e]
      clear e
      go_enter Try.func19, Try.ntmps19
      go_wp2
      go_ret
      exact ⟨rfl, (Fr.refl _ _).alloc _⟩

set_option maxHeartbeats 1000000 in
theorem rbody_any (w : World) (s : St) (h : s.Ok) (p : Int) : Calls Try.prog 20 #[s.val, .int .i64 p] w fun e w' => e = .returned (.int .i64 (bdOf s p)) ∧ Fr [] w w' := by
  obtain ⟨h1, h2, h3, h4⟩ := h
  unfold St.val
  by_cases hp : p < 0
  · have e : bdOf s p = -1 := by unfold bdOf; rw [if_pos (.inl hp)]
    rw [e]
    clear e
    go_enter Try.func20, Try.ntmps20
    go_wp2
    go_ret
    exact ⟨rfl, (Fr.refl _ _).alloc _⟩
  · by_cases hq : (s.nb : Int) ≤ p
    · have e : bdOf s p = -1 := by unfold bdOf; rw [if_pos (.inr hq)]
      rw [e]
      clear e
      go_enter Try.func20, Try.ntmps20
      go_wp2
      go_ret
      exact ⟨rfl, (Fr.refl _ _).alloc _⟩
    · have e : bdOf s p = 48 + 4 * s.players + 8 * p := by unfold bdOf; rw [if_neg (by omega)]
      rw [e]
      clear e
      go_enter Try.func20, Try.ntmps20
      go_wp2
      go_ret
      exact ⟨rfl, (Fr.refl _ _).alloc _⟩
end Go.Proofs.Ytlfomhknfpmhbaa
