/- append(x, y...) where y is any slice that reads as some cells. -/
import Derived.Test.YtlfomhknfpmhbaaBase
namespace Go.Proofs.Ytlfomhknfpmhbaa
open Go.RowKit

/-! ### append(x, y...) where y is any slice that reads as some cells -/
theorem run_append_rd {P : Program} (w : World) (t ty e : TypeId) (i : TypeInfo) (z : Value) (size bytes : Nat) (ht : P.underlying t = some (.slice e)) (hi : P.info? e = some i) (hz : i.zero = some z)
    (hsize : i.size = size) (hby : i.bytes = bytes) (hzs : z.cells.size = size) (hsz : 0 < size)
    (ao : Option Addr) (n cap : Nat) (xs : List Value) (hseg : Seg w e size ao n cap xs)
    (xo : Option Addr) (m c : Nat) (news : List Value) (hx : Rd w size xo m news) (h1 : ∀ u ∈ news, u.oneCell' = true)
    (h63 : n + m ≤ maxLen) (hbytes : (n + m) * bytes ≤ 140737488355328) :
    ∃ ao' cap' w', (Builtin.append_ #[t, t] ty #[.slice ao n cap, .slice xo m c]).run P w = .ok (.slice ao' (n + m) cap') w' ∧ Seg w' e size ao' (n + m) cap' (xs ++ news) ∧
      Fr (blk ao) w w' ∧ Ext (blk ao) w (blk ao') := by
  rcases Nat.eq_zero_or_pos m with h0 | h0
  · subst h0
    have hn : news = [] := List.eq_nil_of_length_eq_zero (by simpa using hx.1)
    subst hn
    refine ⟨ao, cap, w, ?_, by simpa using hseg, Fr.refl _ _, Ext.refl _ _⟩
    have hc : n ≤ cap := hseg.2.2.1
    cases ao <;> cases xo <;> simp [Builtin.append_, run_underlying ht, sizeOf, typeInfo, hi, Builtin.lenOf, Builtin.firstCells, loadCells, loadCellsFrom, hc, storeCells]
  · obtain ⟨g, off, rfl, hg, hc⟩ := hx.at h0
    refine run_append_seg w t ty e i z size bytes ht hi hz hsize hby hzs hsz ao n cap xs hseg ⟨g, off, none⟩ m c news hx.1 (fun j u hu => ?_) h1 h63 hbytes
    have hj : j < m * size := by have := (List.getElem?_eq_some_iff.1 hu).1; rw [hx.1] at this; exact this
    rw [Addr.add_mid, hc j hj]; exact hu
theorem wpList_append_rd {P : Program} {ops : Array Oper} {rest : List Oper} {o : Oper} {a : Act} {w : World} {Q : Exit → Act → World → Prop} (hgd : o.guard = none) (s x : Operand) (t : TypeId)
    (ho : o.op = .call { callee := .builtin .append, args := #[s, x], argTypes := #[t, t] })
    (e : TypeId) (i : TypeInfo) (z : Value) (size bytes : Nat) (ht : P.underlying t = some (.slice e)) (hi : P.info? e = some i) (hz : i.zero = some z)
    (hsize : i.size = size) (hby : i.bytes = bytes) (hzs : z.cells.size = size) (hsz : 0 < size)
    (ao : Option Addr) (n cap : Nat) (xs : List Value) (hs : a.eval s = .slice ao n cap) (hseg : Seg w e size ao n cap xs)
    (xo : Option Addr) (m c : Nat) (news : List Value) (hx : a.eval x = .slice xo m c) (hr : Rd w size xo m news) (h1 : ∀ u ∈ news, u.oneCell' = true)
    (h63 : n + m ≤ maxLen) (hbytes : (n + m) * bytes ≤ 140737488355328)
    (h : ∀ ao' cap' w', Seg w' e size ao' (n + m) cap' (xs ++ news) → Fr (blk ao) w w' → Ext (blk ao) w (blk ao') → wpList P ops Q rest (a.put o.dst (.slice ao' (n + m) cap')) w') :
    wpList P ops Q (o :: rest) a w := by
  refine wpList_plain hgd fun K hK => ?_
  obtain ⟨ao', cap', w', hrun, h2, h3, h4⟩ := run_append_rd (P := P) w t o.type e i z size bytes ht hi hz hsize hby hzs hsz ao n cap xs hseg xo m c news hr h1 h63 hbytes
  unfold Oper.wp execOp
  simp only [ho, resolve, invoke, builtin, Sem.run_bind, Sem.run_pure, Result.andThen_ok, List.map_toArray, List.map_cons, List.map_nil, hs, hx, hrun]
  exact hK _ _ (h ao' cap' w' h2 h3 h4)
end Go.Proofs.Ytlfomhknfpmhbaa
