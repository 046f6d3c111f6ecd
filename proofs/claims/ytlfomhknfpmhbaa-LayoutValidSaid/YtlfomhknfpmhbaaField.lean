/- Package layout: Field. -/
import Derived.Test.YtlfomhknfpmhbaaLay
import Derived.MapKept
import Derived.Maps.RangeRun
namespace Go.Proofs.Ytlfomhknfpmhbaa
open Go.RowKit

theorem str_ne {s k : ByteArray} (h : ¬ s = k) : (s == k) = false := by
  cases e : (s == k)
  · rfl
  · exact absurd ((MapKept.bytes_beq s k).1 e) h

theorem run_insert_str {P : Program} {w : World} (t k e : TypeId) (ht : P.underlying t = some (.map k e)) (hk : P.underlying k = some .string) (b : Nat) (es : Array MapEntry) (clock : Nat) (hb : w.heap[b]? = some (.map es clock)) (s : ByteArray) (v : Value)
    (hn : Instr.findNow .string (.string s) es.toList 0 = some none) :
    (Instr.mapUpdate t (.map (some b)) (.string s) v).run P w = .ok () { w with heap := w.heap.setIfInBounds b (.map (es.push { key := .string s, val := v, born := clock }) (clock + 1)) } := by
  have hi : MapKept.IsKey .string (.string s) := trivial
  simp [Instr.mapUpdate, run_underlying ht, MapKept.run_getObj_map hb, MapKept.run_checkKey hk hi, MapKept.run_findKey hk hn, MapKept.run_setObj_map _ hb, Result.andThen]

theorem run_lookup_str {P : Program} {w : World} (t k e : TypeId) (ht : P.underlying t = some (.map k e)) (hk : P.underlying k = some .string) (z : Value) (hz : (zeroValue e).run P w = .ok z w) (b : Nat) (es : Array MapEntry) (clock : Nat) (hb : w.heap[b]? = some (.map es clock)) (s : ByteArray)
    (r : Option (Nat × Value)) (hn : Instr.findNow .string (.string s) es.toList 0 = some r) :
    (Instr.lookup t (.map (some b)) (.string s) true).run P w = .ok (match r with | some (_, v) => .tuple #[v, .bool true] | none => .tuple #[z, .bool false]) w := by
  have hi : MapKept.IsKey .string (.string s) := trivial
  cases r with
  | none => simp [Instr.lookup, run_underlying ht, MapKept.run_getObj_map hb, MapKept.run_checkKey hk hi, MapKept.run_findKey hk hn, hz, Result.andThen]
  | some x => obtain ⟨i, v⟩ := x; simp [Instr.lookup, run_underlying ht, MapKept.run_getObj_map hb, MapKept.run_checkKey hk hi, MapKept.run_findKey hk hn, Result.andThen]

theorem wpList_insert_str {P : Program} {w : World} {ops : Array Oper} {rest : List Oper} {o : Oper} {a : Act} {Q : Exit → Act → World → Prop} (hg : o.guard = none) (m x v : Operand) (t : TypeId) (hop : o.op = Op.insert t m x v)
    (k e : TypeId) (ht : P.underlying t = some (.map k e)) (hk : P.underlying k = some .string) (b : Nat) (es : Array MapEntry) (clock : Nat) (hm : a.eval m = .map (some b)) (hb : w.heap[b]? = some (.map es clock)) (s : ByteArray) (val : Value) (hx : a.eval x = .string s) (hv : a.eval v = val)
    (hn : Instr.findNow .string (.string s) es.toList 0 = some none)
    (hK : ∀ w', w'.heap[b]? = some (.map (es.push { key := .string s, val := val, born := clock }) (clock + 1)) → Fr [b] w w' → wpList P ops Q rest (a.put o.dst undef) w') :
    wpList P ops Q (o :: rest) a w := by
  refine wpList_plain hg fun K' hK' => ?_
  have hrun := run_insert_str t k e ht hk b es clock hb s val hn
  unfold Oper.wp
  simp [execOp, hop, hm, hx, hv, hrun, Result.andThen]
  refine hK' _ _ (hK _ (MapKept.heap_set hb).1 ⟨rfl, rfl, rfl, by simp, fun i _ hi => (MapKept.heap_set hb).2 i (by simpa using hi)⟩)

def fieldKeys : Array MapEntry := #[{ key := .string { data := #[120] }, val := .int .i64 0, born := 0 }, { key := .string { data := #[121] }, val := .int .i64 1, born := 1 }, { key := .string { data := #[118, 120] }, val := .int .i64 2, born := 2 }, { key := .string { data := #[118, 121] }, val := .int .i64 3, born := 3 }, { key := .string { data := #[97] }, val := .int .i64 4, born := 4 }, { key := .string { data := #[98] }, val := .int .i64 5, born := 5 }, { key := .string { data := #[104, 105, 116] }, val := .int .i64 6, born := 6 }, { key := .string { data := #[115, 116, 105, 108, 108] }, val := .int .i64 7, born := 7 }]
/-- what Field answers -/
def fieldOf (s : ByteArray) : Int := if s = { data := #[120] } then 0 else if s = { data := #[121] } then 1 else if s = { data := #[118, 120] } then 2 else if s = { data := #[118, 121] } then 3 else if s = { data := #[97] } then 4 else if s = { data := #[98] } then 5 else if s = { data := #[104, 105, 116] } then 6 else if s = { data := #[115, 116, 105, 108, 108] } then 7 else -1

theorem find_field (s : ByteArray) : ∃ r, Instr.findNow .string (.string s) fieldKeys.toList 0 = some r ∧ ((∃ i v, r = some (i, .int .i64 v) ∧ fieldOf s = v) ∨ (r = none ∧ fieldOf s = -1)) := by
  unfold fieldOf
  by_cases h0 : s = { data := #[120] }
  · subst h0
    exact ⟨some (0, .int .i64 0), by kernel_rfl, .inl ⟨_, _, rfl, by rfl⟩⟩
  by_cases h1 : s = { data := #[121] }
  · subst h1
    exact ⟨some (1, .int .i64 1), by kernel_rfl, .inl ⟨_, _, rfl, by rfl⟩⟩
  by_cases h2 : s = { data := #[118, 120] }
  · subst h2
    exact ⟨some (2, .int .i64 2), by kernel_rfl, .inl ⟨_, _, rfl, by rfl⟩⟩
  by_cases h3 : s = { data := #[118, 121] }
  · subst h3
    exact ⟨some (3, .int .i64 3), by kernel_rfl, .inl ⟨_, _, rfl, by rfl⟩⟩
  by_cases h4 : s = { data := #[97] }
  · subst h4
    exact ⟨some (4, .int .i64 4), by kernel_rfl, .inl ⟨_, _, rfl, by rfl⟩⟩
  by_cases h5 : s = { data := #[98] }
  · subst h5
    exact ⟨some (5, .int .i64 5), by kernel_rfl, .inl ⟨_, _, rfl, by rfl⟩⟩
  by_cases h6 : s = { data := #[104, 105, 116] }
  · subst h6
    exact ⟨some (6, .int .i64 6), by kernel_rfl, .inl ⟨_, _, rfl, by rfl⟩⟩
  by_cases h7 : s = { data := #[115, 116, 105, 108, 108] }
  · subst h7
    exact ⟨some (7, .int .i64 7), by kernel_rfl, .inl ⟨_, _, rfl, by rfl⟩⟩
  have e : ∀ (k : ByteArray), ¬ s = k → (s == k) = false := fun k h => str_ne h
  refine ⟨none, ?_, .inr ⟨rfl, ?_⟩⟩
  · simp only [fieldKeys, List.toList_toArray, Instr.findNow, Instr.sameNow, e _ h0, e _ h1, e _ h2, e _ h3, e _ h4, e _ h5, e _ h6, e _ h7]
  · rw [if_neg h0, if_neg h1, if_neg h2, if_neg h3, if_neg h4, if_neg h5, if_neg h6, if_neg h7]

theorem zeroInt (w : World) : (zeroValue 3).run Try.prog w = .ok (.int .i64 0) w := by kernel_rfl

set_option maxRecDepth 100000 in
set_option maxHeartbeats 4000000 in
theorem field_any (w : World) (s : ByteArray) : Calls Try.prog 23 #[.string s] w fun e w' => e = .returned (.int .i64 (fieldOf s)) ∧ Fr [] w w' := by
  obtain ⟨r, hr, hcase⟩ := find_field s
  have hmm := @run_makeMap Try.prog
  have HB0 := Lib.hid (alloc_new w (.map #[] 0))
  have HF0 := Lib.hid ((Fr.refl [] w).alloc (.map #[] 0))
  obtain ⟨b, hbe⟩ : ∃ b, b = w.heap.size := ⟨_, rfl⟩
  have HBE := Lib.hid hbe
  rw [← hbe] at HB0
  clear hbe
  rcases hcase with ⟨ri, rv, rfl, hfv⟩ | ⟨rfl, hfv⟩
  all_goals
    rw [hfv]
    have HR := Lib.hid hr
    clear hr hfv
    go_enter Try.func23, Try.ntmps23
    go_wp2_with (first | (refine wpList_insert_str rfl _ _ _ _ rfl 9 3 Try.underlying76 Try.underlying9 b #[{ key := .string { data := #[120] }, val := .int .i64 0, born := 0 }, { key := .string { data := #[121] }, val := .int .i64 1, born := 1 }, { key := .string { data := #[118, 120] }, val := .int .i64 2, born := 2 }, { key := .string { data := #[118, 121] }, val := .int .i64 3, born := 3 }, { key := .string { data := #[97] }, val := .int .i64 4, born := 4 }, { key := .string { data := #[98] }, val := .int .i64 5, born := 5 }, { key := .string { data := #[104, 105, 116] }, val := .int .i64 6, born := 6 }] 7 rfl HB7.out _ _ rfl rfl (by kernel_rfl) ?_; intro w8 hb hf; have HB8 := Lib.hid hb; have HF8 := Lib.hid (HF7.out.trans hf (fun k hk => .inr (by simp at hk; rw [hk, HBE.out]; exact Nat.le_refl _))); clear hb hf; have hlk := run_lookup_str 76 9 3 Try.underlying76 Try.underlying9 (.int .i64 0) (zeroInt w8) b fieldKeys 8 HB8.out s _ HR.out; dsimp only at hlk) | (refine wpList_insert_str rfl _ _ _ _ rfl 9 3 Try.underlying76 Try.underlying9 b #[{ key := .string { data := #[120] }, val := .int .i64 0, born := 0 }, { key := .string { data := #[121] }, val := .int .i64 1, born := 1 }, { key := .string { data := #[118, 120] }, val := .int .i64 2, born := 2 }, { key := .string { data := #[118, 121] }, val := .int .i64 3, born := 3 }, { key := .string { data := #[97] }, val := .int .i64 4, born := 4 }, { key := .string { data := #[98] }, val := .int .i64 5, born := 5 }] 6 rfl HB6.out _ _ rfl rfl (by kernel_rfl) ?_; intro w7 hb hf; have HB7 := Lib.hid hb; have HF7 := Lib.hid (HF6.out.trans hf (fun k hk => .inr (by simp at hk; rw [hk, HBE.out]; exact Nat.le_refl _))); clear hb hf) | (refine wpList_insert_str rfl _ _ _ _ rfl 9 3 Try.underlying76 Try.underlying9 b #[{ key := .string { data := #[120] }, val := .int .i64 0, born := 0 }, { key := .string { data := #[121] }, val := .int .i64 1, born := 1 }, { key := .string { data := #[118, 120] }, val := .int .i64 2, born := 2 }, { key := .string { data := #[118, 121] }, val := .int .i64 3, born := 3 }, { key := .string { data := #[97] }, val := .int .i64 4, born := 4 }] 5 rfl HB5.out _ _ rfl rfl (by kernel_rfl) ?_; intro w6 hb hf; have HB6 := Lib.hid hb; have HF6 := Lib.hid (HF5.out.trans hf (fun k hk => .inr (by simp at hk; rw [hk, HBE.out]; exact Nat.le_refl _))); clear hb hf) | (refine wpList_insert_str rfl _ _ _ _ rfl 9 3 Try.underlying76 Try.underlying9 b #[{ key := .string { data := #[120] }, val := .int .i64 0, born := 0 }, { key := .string { data := #[121] }, val := .int .i64 1, born := 1 }, { key := .string { data := #[118, 120] }, val := .int .i64 2, born := 2 }, { key := .string { data := #[118, 121] }, val := .int .i64 3, born := 3 }] 4 rfl HB4.out _ _ rfl rfl (by kernel_rfl) ?_; intro w5 hb hf; have HB5 := Lib.hid hb; have HF5 := Lib.hid (HF4.out.trans hf (fun k hk => .inr (by simp at hk; rw [hk, HBE.out]; exact Nat.le_refl _))); clear hb hf) | (refine wpList_insert_str rfl _ _ _ _ rfl 9 3 Try.underlying76 Try.underlying9 b #[{ key := .string { data := #[120] }, val := .int .i64 0, born := 0 }, { key := .string { data := #[121] }, val := .int .i64 1, born := 1 }, { key := .string { data := #[118, 120] }, val := .int .i64 2, born := 2 }] 3 rfl HB3.out _ _ rfl rfl (by kernel_rfl) ?_; intro w4 hb hf; have HB4 := Lib.hid hb; have HF4 := Lib.hid (HF3.out.trans hf (fun k hk => .inr (by simp at hk; rw [hk, HBE.out]; exact Nat.le_refl _))); clear hb hf) | (refine wpList_insert_str rfl _ _ _ _ rfl 9 3 Try.underlying76 Try.underlying9 b #[{ key := .string { data := #[120] }, val := .int .i64 0, born := 0 }, { key := .string { data := #[121] }, val := .int .i64 1, born := 1 }] 2 rfl HB2.out _ _ rfl rfl (by kernel_rfl) ?_; intro w3 hb hf; have HB3 := Lib.hid hb; have HF3 := Lib.hid (HF2.out.trans hf (fun k hk => .inr (by simp at hk; rw [hk, HBE.out]; exact Nat.le_refl _))); clear hb hf) | (refine wpList_insert_str rfl _ _ _ _ rfl 9 3 Try.underlying76 Try.underlying9 b #[{ key := .string { data := #[120] }, val := .int .i64 0, born := 0 }] 1 rfl HB1.out _ _ rfl rfl (by kernel_rfl) ?_; intro w2 hb hf; have HB2 := Lib.hid hb; have HF2 := Lib.hid (HF1.out.trans hf (fun k hk => .inr (by simp at hk; rw [hk, HBE.out]; exact Nat.le_refl _))); clear hb hf) | (rw [← HBE.out]; refine wpList_insert_str rfl _ _ _ _ rfl 9 3 Try.underlying76 Try.underlying9 b #[] 0 rfl HB0.out _ _ rfl rfl (by kernel_rfl) ?_; intro w1 hb hf; have HB1 := Lib.hid hb; have HF1 := Lib.hid (HF0.out.trans hf (fun k hk => .inr (by simp at hk; rw [hk, HBE.out]; exact Nat.le_refl _))); clear hb hf))
    go_ret
    exact ⟨rfl, HF8.out⟩
end Go.Proofs.Ytlfomhknfpmhbaa
