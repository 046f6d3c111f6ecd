/- Laws: a struct stored into the middle of a block; a setup with other bodies. -/
import Derived.Test.YtlfomhknfpmhbaaShapeOf
namespace Go.Proofs.Ytlfomhknfpmhbaa
open Go.RowKit

section
variable {P : Program} {ops : Array Oper} {rest : List Oper} {op : Oper} {a : Act} {w : World} {Q : Exit → Act → World → Prop}
theorem wpList_storeM (hgd : op.guard = none) (ty : TypeId) (x y : Operand) (ho : op.op = .store ty x y) (b o n : Nat) (cells : Array Value) (hx : a.eval x = .pointer (some ⟨b, o, none⟩)) (hy : a.eval y = .agg cells)
    (z : Array Value) (T : TypeId) (hb : w.heap[b]? = some (.cells z T (0, 0))) (hz : o + n ≤ z.size) (hc : cells.size = n) (hi : (P.info? ty).map (·.size) = some n) (h1 : cells.all (·.oneCell') = true)
    (res : Array Value) (hres : (z.toList.take o ++ cells.toList ++ z.toList.drop (o + cells.toList.length)).toArray = res)
    (h : ∀ w', w'.heap[b]? = some (.cells res T (0, 0)) → Fr [b] w w' → wpList P ops Q rest (a.put op.dst undef) w') : wpList P ops Q (op :: rest) a w := by
  refine wpList_store_mid hgd ty x y ho b o cells hx hy (fun j hj => ?_) (by rw [hc]; exact hi) h1 (h _ ?_ ?_)
  · rw [cell_blk hb, Array.getElem?_eq_getElem (by omega)]
    exact ⟨rfl, frozen_blk hb _⟩
  · rw [← hres]
    exact setCells_blk cells.toList o w z hb (by simp; omega)
  · exact (Fr.refl [b] w).setCells (.inl (by simp)) o cells.toList
end

theorem infoMotion : (Try.prog.info? 50).map (·.size) = some 5 := by kernel_rfl
theorem infoBody : (Try.prog.info? 52).map (·.size) = some 9 := by kernel_rfl
theorem infoBodyZ : (Try.prog.info? 52).map (fun i => (i.zero, i.size, i.bytes)) = some (some (.agg #[.int .i64 0, .slice none 0 0, .int .i64 0, .int .i64 0, .int .i64 0, .int .i64 0, .int .i64 0, .int .i64 0, .int .i64 0]), 9, 88) := by kernel_rfl

def sw (s : St) (bo : Option Addr) (nb bc : Nat) : St := { s with bo := bo, nb := nb, bc := bc }

end Go.Proofs.Ytlfomhknfpmhbaa
