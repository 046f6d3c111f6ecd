/- Package layout: Motion at any index; comparing motions. -/
import Derived.Laws.StructEq
import Derived.Test.YtdbngpncigjfiaaMotion3
namespace Go.Proofs.Ytdbngpncigjfiaa
open Go.RowKit

theorem motion_any (w : World) (s : St) (bodies : List Bd) (co : Option Addr) (cc : Nat) (cells : List Int) (h : MotPre w s bodies co cc cells) (hcl : cells.length ≤ 4611686018427387904) (i : Int) :
    Calls Try.prog 41 #[s.val, .slice co cells.length cc, .int .i64 i] w fun e w' => e = .returned (motOf s bodies cells i) ∧ Fr [] w w' := by
  by_cases hi : motIn s cells i
  · obtain ⟨k, rfl⟩ := Int.eq_ofNat_of_zero_le hi.1
    unfold motOf
    rw [if_pos hi, Int.toNat_natCast]
    exact motion_in w s bodies co cc cells h k hi
  · unfold motOf
    rw [if_neg hi]
    exact motion_out w s co cc cells h.ok h.p0 hcl i hi


theorem eq_vec (u : World) (d : Nat) (a b c e : Int) : (Op.equalIn (d + 1 + 1) 29 (.agg #[.int .i64 a, .int .i64 b]) (.agg #[.int .i64 c, .int .i64 e])).run Try.prog u = .ok ((a == c) && (b == e)) u := by
  have hf : Try.prog.underlying 29 = some (.struct (Try.prog.fieldsOf 29)) := by unfold Program.fieldsOf; rw [Try.underlying29]
  have hp : Try.prog.stoodInHeld 29 = false := by kernel_rfl
  rw [run_equalIn_struct u _ _ _ _ hf hp]
  simp only [Program.fieldsOf, Try.underlying29]
  cases h1 : (a == c) <;> cases h2 : (b == e) <;> simp [Op.eqFields, part, run_equalIn_int u _ _ _ _ _ _ Try.underlying3, h1, h2]

theorem ne_motion (u : World) (a0 a1 a2 a3 a4 b0 b1 b2 b3 b4 : Int) : (binOp .neq 66 (.agg #[.int .i64 a0, .int .i64 a1, .int .i64 a2, .int .i64 a3, .int .i64 a4]) (.agg #[.int .i64 b0, .int .i64 b1, .int .i64 b2, .int .i64 b3, .int .i64 b4])).run Try.prog u = .ok (.bool (!((((a0 == b0) && (a1 == b1)) && ((a2 == b2) && (a3 == b3))) && (a4 == b4)))) u := by
  have hf : Try.prog.underlying 66 = some (.struct (Try.prog.fieldsOf 66)) := by unfold Program.fieldsOf; rw [Try.underlying66]
  have hp : Try.prog.stoodInHeld 66 = false := by kernel_rfl
  rw [run_neq_struct, run_equalIn_struct u _ _ _ _ hf hp]
  simp only [Program.fieldsOf, Try.underlying66]
  have hv : ∀ a b c e : Int, (Op.equalIn 9999 29 (.agg #[.int .i64 a, .int .i64 b]) (.agg #[.int .i64 c, .int .i64 e])).run Try.prog u = .ok ((a == c) && (b == e)) u := fun a b c e => eq_vec u 9997 a b c e
  have hi : ∀ a c : Int, (Op.equalIn 9999 3 (.int .i64 a) (.int .i64 c)).run Try.prog u = .ok (a == c) u := fun a c => run_equalIn_int u 9998 _ _ _ a c Try.underlying3
  have p0 : ∀ x0 x1 x2 x3 x4 : Value, (part 29 #[x0, x1, x2, x3, x4] 0).run Try.prog u = .ok (.agg #[x0, x1]) u := fun x0 x1 x2 x3 x4 => by
    simp [part, Try.isAgg29, Try.sizeOf29]
  have p2 : ∀ x0 x1 x2 x3 x4 : Value, (part 29 #[x0, x1, x2, x3, x4] 2).run Try.prog u = .ok (.agg #[x2, x3]) u := fun x0 x1 x2 x3 x4 => by
    simp [part, Try.isAgg29, Try.sizeOf29]
  have p4 : ∀ x0 x1 x2 x3 x4 : Value, (part 3 #[x0, x1, x2, x3, x4] 4).run Try.prog u = .ok x4 u := fun x0 x1 x2 x3 x4 => by
    simp [part, Try.isAgg3, Try.sizeOf3]
  cases h1 : ((a0 == b0) && (a1 == b1)) <;> cases h2 : ((a2 == b2) && (a3 == b3)) <;> cases h3 : (a4 == b4) <;> simp [Op.eqFields, p0, p2, p4, hv, hi, h1, h2, h3]
end Go.Proofs.Ytdbngpncigjfiaa
