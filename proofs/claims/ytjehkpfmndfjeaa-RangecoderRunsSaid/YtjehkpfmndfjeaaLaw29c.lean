/- append of a slice that came in or that another function made (perhaps nil). -/
import Derived.Test.YtjehkpfmndfjeaaRefLen
namespace Go.Proofs.Ytjehkpfmndfjeaa
open Go.RowKit

theorem run_append_none {P : Program} (w : World) (t ty e : TypeId) (i : TypeInfo) (ht : P.underlying t = some (.slice e)) (hi : P.info? e = some i) (ao : Option Addr) (n cap c : Nat) (h : n ≤ cap) :
    (Builtin.append_ #[t, t] ty #[.slice ao n cap, .slice none 0 c]).run P w = .ok (.slice ao n cap) w := by
  cases ao <;> simp [Builtin.append_, run_underlying ht, sizeOf, typeInfo, hi, Builtin.lenOf, Builtin.firstCells, loadCells, loadCellsFrom, h, storeCells]

theorem run_append_src {P : Program} (w : World) (t ty e : TypeId) (i : TypeInfo) (z : Value) (size bytes : Nat) (ht : P.underlying t = some (.slice e)) (hi : P.info? e = some i) (hz : i.zero = some z)
    (hsize : i.size = size) (hby : i.bytes = bytes) (hzs : z.cells.size = size) (hsz : 0 < size)
    (ao : Option Addr) (n cap : Nat) (xs : List Value) (hseg : Seg w e size ao n cap xs)
    (bo : Option Addr) (m c : Nat) (news : List Value) (hrd : Rd w size bo m news) (hno : bo = none → m = 0) (h1 : ∀ u ∈ news, u.oneCell' = true)
    (h63 : n + m ≤ maxLen) (hbytes : (n + m) * bytes ≤ 140737488355328) :
    ∃ ao' cap' w', (Builtin.append_ #[t, t] ty #[.slice ao n cap, .slice bo m c]).run P w = .ok (.slice ao' (n + m) cap') w' ∧ Seg w' e size ao' (n + m) cap' (xs ++ news) ∧
      Fr (blk ao) w w' ∧ Ext (blk ao) w (blk ao') := by
  cases bo with
  | none =>
    have hm := hno rfl
    subst hm
    have hn : news = [] := List.eq_nil_of_length_eq_zero (by have := hrd.1; simpa using this)
    subst hn
    refine ⟨ao, cap, w, ?_, by simpa using hseg, Fr.refl _ _, Ext.refl _ _⟩
    rw [Nat.add_zero]
    exact run_append_none w t ty e i ht hi ao n cap c hseg.2.2.1
  | some ad =>
    refine run_append_seg w t ty e i z size bytes ht hi hz hsize hby hzs hsz ao n cap xs hseg ad m c news hrd.1 ?_ h1 h63 hbytes
    rcases Nat.eq_zero_or_pos m with h0 | h0
    · subst h0
      have hn : news = [] := List.eq_nil_of_length_eq_zero (by have := hrd.1; simpa using this)
      subst hn
      intro j u hu; simp at hu
    · intro j u hu
      obtain ⟨g, off, ha, _, hc⟩ := hrd.at h0
      cases ha
      have hj : j < m * size := by have := (List.getElem?_eq_some_iff.1 hu).1; rw [hrd.1] at this; exact this
      rw [Addr.add_mid, hc j hj, hu]

theorem wpList_append_src {P : Program} {ops : Array Oper} {rest : List Oper} {o : Oper} {a : Act} {w : World} {Q : Exit → Act → World → Prop} (hgd : o.guard = none) (s x : Operand) (t : TypeId)
    (ho : o.op = .call { callee := .builtin .append, args := #[s, x], argTypes := #[t, t] })
    (e : TypeId) (i : TypeInfo) (z : Value) (size bytes : Nat) (ht : P.underlying t = some (.slice e)) (hi : P.info? e = some i) (hz : i.zero = some z)
    (hsize : i.size = size) (hby : i.bytes = bytes) (hzs : z.cells.size = size) (hsz : 0 < size)
    (ao : Option Addr) (n cap : Nat) (xs : List Value) (hs : a.eval s = .slice ao n cap) (hseg : Seg w e size ao n cap xs)
    (bo : Option Addr) (m c : Nat) (news : List Value) (hx : a.eval x = .slice bo m c) (hrd : Rd w size bo m news) (hno : bo = none → m = 0) (h1 : ∀ u ∈ news, u.oneCell' = true)
    (h63 : n + m ≤ maxLen) (hbytes : (n + m) * bytes ≤ 140737488355328)
    (h : ∀ ao' cap' w', Seg w' e size ao' (n + m) cap' (xs ++ news) → Fr (blk ao) w w' → Ext (blk ao) w (blk ao') → wpList P ops Q rest (a.put o.dst (.slice ao' (n + m) cap')) w') :
    wpList P ops Q (o :: rest) a w :=
  wpList_plain hgd fun _ hK => by
    obtain ⟨ao', cap', w', hr, h2, h3, h4⟩ := run_append_src (P := P) w t o.type e i z size bytes ht hi hz hsize hby hzs hsz ao n cap xs hseg bo m c news hrd hno h1 h63 hbytes
    unfold Oper.wp execOp
    simp only [ho, resolve, invoke, builtin, Sem.run_bind, Sem.run_pure, Result.andThen_ok, List.map_toArray, List.map_cons, List.map_nil, hs, hx, hr]
    exact hK _ _ (h ao' cap' w' h2 h3 h4)
end Go.Proofs.Ytjehkpfmndfjeaa
