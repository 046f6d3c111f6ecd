/- Field, Lives12, Vis2, IsqP, Bits (merged by merge.py). -/
import Derived.Test.YtdbngpncigjfiaaZ271
import Derived.MapKept
import Derived.Maps.RangeRun
import Derived.Test.YtdbngpncigjfiaaZ273
import Derived.Deep.QuietTactic
import Derived.BigQuiet
import Derived.Deep.CutBlock
import Derived.Deep.DeepCutAuto
import Derived.Lib.BitFns
import Derived.Lib.ItoaNum
import Derived.Laws.Bits64b
import Derived.IntWalk
/- Package layout: Field. -/
namespace Go.Proofs.Ytdbngpncigjfiaa
open Go.RowKit

theorem str_ne {s k : ByteArray} (h : ¬ s = k) : (s == k) = false := by
  cases e : (s == k)
  · rfl
  · exact absurd ((MapKept.bytes_beq s k).1 e) h

theorem run_insert_str {P : Program} {w : World} (t k e : TypeId) (ht : P.underlying t = some (.map k e)) (hk : P.underlying k = some .string) (b : Nat) (es : Array MapEntry) (clock : Nat) (hb : w.heap[b]? = some (.map es clock)) (s : ByteArray) (v : Value)
    (hn : Instr.findNow .string (.string s) es.toList 0 = some none) :
    (Instr.mapUpdate t (.map (some b)) (.string s) v).run P w = .ok () { w with heap := w.heap.setIfInBounds b (.map (es.push { key := .string s, val := v, born := clock }) (clock + 1)) } := by
  have hi : MapKept.IsKey .string (.string s) := trivial
  simp [Instr.mapUpdate, run_underlying ht, MapKept.run_getObj_map hb, MapKept.run_checkKey hk hi, MapKept.run_findKey hk hn, MapKept.run_setObj_map _ hb, Result.andThen]

theorem run_lookup_str {P : Program} {w : World} (t k e : TypeId) (ht : P.underlying t = some (.map k e)) (hk : P.underlying k = some .string) (z : Value) (hz : (zeroValue e).run P w = .ok z w) (b : Nat) (es : Array MapEntry) (clock : Nat) (hb : w.heap[b]? = some (.map es clock)) (s : ByteArray)
    (r : Option (Nat × Value)) (hn : Instr.findNow .string (.string s) es.toList 0 = some r) :
    (Instr.lookup t (.map (some b)) (.string s) true).run P w = .ok (match r with | some (_, v) => .tuple #[v, .bool true] | none => .tuple #[z, .bool false]) w := by
  have hi : MapKept.IsKey .string (.string s) := trivial
  cases r with
  | none => simp [Instr.lookup, run_underlying ht, MapKept.run_getObj_map hb, MapKept.run_checkKey hk hi, MapKept.run_findKey hk hn, hz, Result.andThen]
  | some x => obtain ⟨i, v⟩ := x; simp [Instr.lookup, run_underlying ht, MapKept.run_getObj_map hb, MapKept.run_checkKey hk hi, MapKept.run_findKey hk hn, Result.andThen]

theorem wpList_insert_str {P : Program} {w : World} {ops : Array Oper} {rest : List Oper} {o : Oper} {a : Act} {Q : Exit → Act → World → Prop} (hg : o.guard = none) (m x v : Operand) (t : TypeId) (hop : o.op = Op.insert t m x v)
    (k e : TypeId) (ht : P.underlying t = some (.map k e)) (hk : P.underlying k = some .string) (b : Nat) (es : Array MapEntry) (clock : Nat) (hm : a.eval m = .map (some b)) (hb : w.heap[b]? = some (.map es clock)) (s : ByteArray) (val : Value) (hx : a.eval x = .string s) (hv : a.eval v = val)
    (hn : Instr.findNow .string (.string s) es.toList 0 = some none)
    (hK : ∀ w', w'.heap[b]? = some (.map (es.push { key := .string s, val := val, born := clock }) (clock + 1)) → Fr [b] w w' → wpList P ops Q rest (a.put o.dst undef) w') :
    wpList P ops Q (o :: rest) a w := by
  refine wpList_plain hg fun K' hK' => ?_
  have hrun := run_insert_str t k e ht hk b es clock hb s val hn
  unfold Oper.wp
  simp [execOp, hop, hm, hx, hv, hrun, Result.andThen]
  refine hK' _ _ (hK _ (MapKept.heap_set hb).1 ⟨rfl, rfl, rfl, by simp, fun i _ hi => (MapKept.heap_set hb).2 i (by simpa using hi)⟩)

def fieldKeys : Array MapEntry := #[{ key := .string { data := #[120] }, val := .int .i64 0, born := 0 }, { key := .string { data := #[121] }, val := .int .i64 1, born := 1 }, { key := .string { data := #[118, 120] }, val := .int .i64 2, born := 2 }, { key := .string { data := #[118, 121] }, val := .int .i64 3, born := 3 }, { key := .string { data := #[97] }, val := .int .i64 4, born := 4 }, { key := .string { data := #[98] }, val := .int .i64 5, born := 5 }, { key := .string { data := #[104, 105, 116] }, val := .int .i64 6, born := 6 }, { key := .string { data := #[115, 116, 105, 108, 108] }, val := .int .i64 7, born := 7 }]
/-- what Field answers -/
def fieldOf (s : ByteArray) : Int := if s = { data := #[120] } then 0 else if s = { data := #[121] } then 1 else if s = { data := #[118, 120] } then 2 else if s = { data := #[118, 121] } then 3 else if s = { data := #[97] } then 4 else if s = { data := #[98] } then 5 else if s = { data := #[104, 105, 116] } then 6 else if s = { data := #[115, 116, 105, 108, 108] } then 7 else -1

theorem find_field (s : ByteArray) : ∃ r, Instr.findNow .string (.string s) fieldKeys.toList 0 = some r ∧ ((∃ i v, r = some (i, .int .i64 v) ∧ fieldOf s = v) ∨ (r = none ∧ fieldOf s = -1)) := by
  unfold fieldOf
  by_cases h0 : s = { data := #[120] }
  · subst h0
    exact ⟨some (0, .int .i64 0), by kernel_rfl, .inl ⟨_, _, rfl, by rfl⟩⟩
  by_cases h1 : s = { data := #[121] }
  · subst h1
    exact ⟨some (1, .int .i64 1), by kernel_rfl, .inl ⟨_, _, rfl, by rfl⟩⟩
  by_cases h2 : s = { data := #[118, 120] }
  · subst h2
    exact ⟨some (2, .int .i64 2), by kernel_rfl, .inl ⟨_, _, rfl, by rfl⟩⟩
  by_cases h3 : s = { data := #[118, 121] }
  · subst h3
    exact ⟨some (3, .int .i64 3), by kernel_rfl, .inl ⟨_, _, rfl, by rfl⟩⟩
  by_cases h4 : s = { data := #[97] }
  · subst h4
    exact ⟨some (4, .int .i64 4), by kernel_rfl, .inl ⟨_, _, rfl, by rfl⟩⟩
  by_cases h5 : s = { data := #[98] }
  · subst h5
    exact ⟨some (5, .int .i64 5), by kernel_rfl, .inl ⟨_, _, rfl, by rfl⟩⟩
  by_cases h6 : s = { data := #[104, 105, 116] }
  · subst h6
    exact ⟨some (6, .int .i64 6), by kernel_rfl, .inl ⟨_, _, rfl, by rfl⟩⟩
  by_cases h7 : s = { data := #[115, 116, 105, 108, 108] }
  · subst h7
    exact ⟨some (7, .int .i64 7), by kernel_rfl, .inl ⟨_, _, rfl, by rfl⟩⟩
  have e : ∀ (k : ByteArray), ¬ s = k → (s == k) = false := fun k h => str_ne h
  refine ⟨none, ?_, .inr ⟨rfl, ?_⟩⟩
  · simp only [fieldKeys, List.toList_toArray, Instr.findNow, Instr.sameNow, e _ h0, e _ h1, e _ h2, e _ h3, e _ h4, e _ h5, e _ h6, e _ h7]
  · rw [if_neg h0, if_neg h1, if_neg h2, if_neg h3, if_neg h4, if_neg h5, if_neg h6, if_neg h7]

theorem zeroInt (w : World) : (zeroValue 3).run Try.prog w = .ok (.int .i64 0) w := by kernel_rfl

end Go.Proofs.Ytdbngpncigjfiaa
/- Chapter 12: shape.Validate on a circle; lives. -/
namespace Go.Proofs.Ytdbngpncigjfiaa
open Go.RowKit


theorem infoSetup : (Try.prog.info? 31).map (·.size) = some 16 := by kernel_rfl

def lvD : Bd := ⟨5, none, 0, 0, 0, 0, 0, 0, 0, 0, 0⟩
def lvS (b : Nat) : St := ⟨1, some ⟨b, 0, none⟩, 1, 1, 0, 0, 0, 0, none, 0, 0, none, 0, 0, 0, 0, 0, 0, 0, 0, 1, 0⟩

theorem lv_valid (b : Nat) : validB (lvS b) [lvD] [0] [] [] = 0 := by
  unfold validB numsB n1 n2 n3 n4 n5 n6 n7 n8 properB mapB bodyB d1 d2 d3 d4 d5 inB lvS lvD
  simp
theorem lv_size (b : Nat) : szOf (lvS b) = 60 := by simp [szOf, lvS]
theorem lv_player (b : Nat) : plOf (lvS b) 0 = 48 := by simp [plOf, lvS]
theorem lv_body (b : Nat) : bdOf (lvS b) 0 = 52 := by simp [bdOf, lvS]
theorem lv_field : fieldOf { data := #[118, 120] } = 2 := by rfl
theorem lv_ok (b : Nat) : (lvS b).Ok := ⟨by simp only [lvS]; omega, by simp only [lvS]; omega, by simp only [lvS]; omega, by simp only [lvS]; omega⟩


end Go.Proofs.Ytdbngpncigjfiaa
/- Package visibility: Rooms; the reference's Rooms. -/
namespace Go.Proofs.Ytdbngpncigjfiaa
open Go.RowKit

set_option maxRecDepth 100000 in
set_option maxHeartbeats 4000000 in
theorem roomsC_any (w : World) (k : Nat) (hk : k < 8) (tb V : Nat) (hV : V < 256) (ht : w.cell? ⟨tb, 0, none⟩ = some (.int .u64 (V : Int))) :
    Calls Try.prog 33 #[.int .i64 (k : Int), .pointer (some ⟨tb, 0, none⟩)] w (fun e w' => e = .returned (.bool (V.testBit k)) ∧ Fr [] w w') := by
  have hk8 : (k : Int) < 8 := by omega
  have hk0 : 0 ≤ (k : Int) := by omega
  have ha := bits_and_u64 V (bitN (k : Int)) hV (bitN_lt hk8)
  have h0 := and_bitN V hk0
  rw [Int.toNat_natCast] at h0
  by_cases hx : V &&& bitN (k : Int) = 0
  · have HT := Lib.hid (h0.1 hx)
    rw [hx] at ha
    have ha0 : bits .and .u64 (V : Int) ((bitN (k : Int) : Nat) : Int) = 0 := ha
    clear ha h0 hx
    go_enter Try.func33, Try.ntmps33
    go_wp2_with fail
    go_region_held3 (fun w' => w'.cell? ⟨tb, 0, none⟩ = some (.int .u64 (V : Int))) (first | exact ht) (first | (go_at_call 34; refine (bit_any _ _ hk0 hk8).mono ?_; rintro e w' ⟨rfl, rfl⟩))
    all_goals
      go_wp2_with fail
      go_ret
      exact ⟨ret_bool HT.out.symm, (Fr.refl _ _).drew⟩
  · have HT := Lib.hid (by cases e : V.testBit k with | false => exact absurd (h0.2 e) hx | true => rfl : V.testBit k = true)
    obtain ⟨X, hX⟩ : ∃ X, X = V &&& bitN (k : Int) := ⟨_, rfl⟩
    rw [← hX] at ha hx
    have hx1 : ((X : Int) == 0) = false := beq_eq_false_iff_ne.2 (by omega)
    have hx2 : ((X : Int) != 0) = true := by rw [bne, hx1]; rfl
    clear h0 hX hx
    go_enter Try.func33, Try.ntmps33
    go_wp2_with fail
    go_region_held3 (fun w' => w'.cell? ⟨tb, 0, none⟩ = some (.int .u64 (V : Int))) (first | exact ht) (first | (go_at_call 34; refine (bit_any _ _ hk0 hk8).mono ?_; rintro e w' ⟨rfl, rfl⟩))
    all_goals
      go_wp2_with fail
      go_ret
      exact ⟨ret_bool HT.out.symm, (Fr.refl _ _).drew⟩

theorem visOk_acc {rooms : List Bx} {doors : List (Int × Int)} {r : Int} {V : Nat} (h : VisOk rooms doors r V) (h8 : rooms.length ≤ 8) : accL (fun k => V.testBit k) rooms.length = roomsVis rooms doors r := by
  unfold roomsVis
  split
  · exact accL_false fun k hk => by rw [h.2 k (by omega), decide_eq_false (by omega), Bool.false_and]
  · exact accL_congr fun k hk => by rw [h.2 k (by omega), decide_eq_true (by omega), Bool.true_and]

set_option maxRecDepth 100000 in
set_option maxHeartbeats 4000000 in
theorem rooms_any (w : World) (s : St) (rooms : List Bx) (doors : List (Int × Int)) (h : MapAt w s rooms doors) (hfew : Few rooms doors) (r : Int) :
    Calls Try.prog 15 #[s.val, .int .i64 r] w (IntsTo w (roomsVis rooms doors r)) := by
  have h8 := hfew.1
  have HFW := Lib.hid hfew
  have HM := Lib.hid h
  obtain ⟨C, hC⟩ : ∃ C : Array Value, C = #[.int .i64 s.players, .slice s.bo s.nb s.bc, .int .i64 s.x0, .int .i64 s.y0, .int .i64 s.x1, .int .i64 s.y1, .slice s.ro rooms.length s.rc, .slice s.dO doors.length s.dc, .int .i64 s.fog, .int .i64 s.gx, .int .i64 s.gy, .int .i64 s.push, .int .i64 s.drag, .int .i64 s.rest, .int .i64 s.rounds, .int .i64 s.fuel] := ⟨_, rfl⟩
  have HV := Lib.hid (by rw [hC]; exact val_spelt h : s.val = .agg C)
  have HCS := Lib.hid (by rw [hC]; rfl : C.size = 16)
  have HC6 := Lib.hid (by rw [hC]; rfl : C[6]? = some (.slice s.ro rooms.length s.rc))
  have HVIS := Lib.hid fun wb hf => (by rw [← HV.out]; exact vis_any wb s rooms doors (HM.out.old hf) hfew r : Calls Try.prog 31 #[.agg C, .int .i64 r] wb (VisAny rooms doors r wb))
  clear h hC hfew
  obtain ⟨bx, hbx⟩ : ∃ bx, bx = w.heap.size := ⟨_, rfl⟩
  obtain ⟨wb, hwb⟩ : ∃ wb, wb = w.alloc (.cells C 31) := ⟨_, rfl⟩
  have HB := Lib.hid (by rw [hwb, hbx]; exact alloc_new w _ : wb.heap[bx]? = some (.cells C 31 (0, 0)))
  have HWB := Lib.hid (by rw [hwb]; exact (Fr.refl [] w).alloc _ : Fr [] w wb)
  have HBX := Lib.hid hbx
  have HWE := Lib.hid hwb
  clear hbx hwb
  rw [HV.out]
  go_enter Try.func15, Try.ntmps15
  go_upto_region 1 with (fail)
  rw [← HBX.out, ← HWE.out]
  go_wp2_with (first | (refine wpList_loadB rfl 31 (Operand.tmp 2) rfl bx 16 rfl C 31 (0, 0) HB.out _ Try.underlying31 rfl HCS.out infoSetup ?_) | (go_at_call 31; refine (HVIS.out wb HWB.out).mono ?_; rintro e w1 ⟨V, rfl, hV, hf1⟩; have HVO := Lib.hid hV; have HF1 := Lib.hid hf1; have cx : ∀ o, (w1.alloc o).cell? ⟨bx, 6, none⟩ = some (.slice s.ro rooms.length s.rc) := fun o => (cell_blk (alloc_old (hf1.blk HB.out (by simp))) 6).trans HC6.out; have HBEL := Lib.hid (below_rooms (w1.alloc (.cells #[.int .u64 (V : Int)] 57)) rooms.length (by omega) w1.heap.size (fun k => V.testBit k) (fun k wr hk hf => roomsC_any wr k (by omega) w1.heap.size V hV.1 (cell_blk (hf.blk (alloc_new w1 _) (by simp)) 0))); clear hV hf1) | (go_at_call 32; refine HBEL.out.mono ?_; rintro e w2 ⟨oa, oc, rfl, hs2, hf2, hb2⟩; have HS2 := Lib.hid hs2; have HF2 := Lib.hid hf2; have HB2 := Lib.hid hb2; clear hs2 hf2 hb2))
  go_ret
  have hl := visOk_acc HVO.out h8
  have hf := (HWB.out.trans HF1.out (by simp [Ext])).alloc (.cells #[.int .u64 (V : Int)] 57)
  rw [← hl]
  exact ⟨oa, oc, rfl, HS2.out, hf.trans HF2.out (by simp [Ext]), fun k hk => by have := HB2.out k hk; have := hf.size; omega⟩

set_option maxRecDepth 100000 in
set_option maxHeartbeats 4000000 in
theorem rrooms_any (w : World) (s : St) (rooms : List Bx) (doors : List (Int × Int)) (h : MapAt w s rooms doors) (hfew : Few rooms doors) (r : Int) :
    Calls Try.prog 16 #[s.val, .int .i64 r] w (IntsTo w (roomsVis rooms doors r)) := by
  have h8 := hfew.1
  have HFW := Lib.hid hfew
  have HM := Lib.hid h
  obtain ⟨C, hC⟩ : ∃ C : Array Value, C = #[.int .i64 s.players, .slice s.bo s.nb s.bc, .int .i64 s.x0, .int .i64 s.y0, .int .i64 s.x1, .int .i64 s.y1, .slice s.ro rooms.length s.rc, .slice s.dO doors.length s.dc, .int .i64 s.fog, .int .i64 s.gx, .int .i64 s.gy, .int .i64 s.push, .int .i64 s.drag, .int .i64 s.rest, .int .i64 s.rounds, .int .i64 s.fuel] := ⟨_, rfl⟩
  have HV := Lib.hid (by rw [hC]; exact val_spelt h : s.val = .agg C)
  have HCS := Lib.hid (by rw [hC]; rfl : C.size = 16)
  have HC6 := Lib.hid (by rw [hC]; rfl : C[6]? = some (.slice s.ro rooms.length s.rc))
  have HCON := Lib.hid fun wr hf b => (by rw [← HV.out]; exact conn_any wr s rooms doors (HM.out.old hf) r b : Calls Try.prog 35 #[.agg C, .int .i64 r, .int .i64 b] wr fun e w' => e = .returned (.bool (connB doors r b)) ∧ Fr [] wr w')
  clear h hC hfew
  obtain ⟨bx, hbx⟩ : ∃ bx, bx = w.heap.size := ⟨_, rfl⟩
  obtain ⟨wb, hwb⟩ : ∃ wb, wb = w.alloc (.cells C 31) := ⟨_, rfl⟩
  have HB := Lib.hid (by rw [hwb, hbx]; exact alloc_new w _ : wb.heap[bx]? = some (.cells C 31 (0, 0)))
  have HWB := Lib.hid (by rw [hwb]; exact (Fr.refl [] w).alloc _ : Fr [] w wb)
  have HBX := Lib.hid hbx
  have HWE := Lib.hid hwb
  clear hbx hwb
  rw [HV.out]
  have c6 : ∀ wr, Fr [] wb wr → wr.cell? ⟨bx, 6, none⟩ = some (.slice s.ro rooms.length s.rc) := fun wr hf => (cell_blk (hf.blk HB.out (by simp)) 6).trans HC6.out
  have C6 := Lib.hid c6
  have cb := c6 wb (Fr.refl _ _)
  clear c6
  obtain ⟨ii, hii, hii0, hii1, hii2⟩ := info_parts infoInt
  by_cases hin : r < 0 ∨ (rooms.length : Int) ≤ r
  · have HR := Lib.hid (by unfold roomsVis; rw [if_pos hin] : roomsVis rooms doors r = [])
    by_cases h0 : r < 0
    · clear hin
      go_enter Try.func16, Try.ntmps16
      go_upto_region 1 with (fail)
      rw [← HBX.out, ← HWE.out]
      go_wp2_with fail
      go_ret
      rw [HR.out]
      exact ((AccAt.start wb).from HWB.out).to
    · have h1 : 0 ≤ r := by omega
      have h2 : (rooms.length : Int) ≤ r := by omega
      clear hin h0
      go_enter Try.func16, Try.ntmps16
      go_upto_region 1 with (fail)
      rw [← HBX.out, ← HWE.out]
      go_wp2_with fail
      go_ret
      rw [HR.out]
      exact ((AccAt.start wb).from HWB.out).to
  · have HR := Lib.hid (by unfold roomsVis; rw [if_neg hin] : roomsVis rooms doors r = accL (fun k => connB doors r (k : Int)) rooms.length)
    have h1 : 0 ≤ r := by omega
    have h2 : r < (rooms.length : Int) := by omega
    clear hin
    go_enter Try.func16, Try.ntmps16
    go_upto_region 1 with (fail)
    rw [← HBX.out, ← HWE.out]
    go_wp2_with fail
    go_loopw [5, 6] (fun vv iv wr => ∃ i : Nat, i ≤ rooms.length ∧ iv = .int .i64 (i : Int) ∧ AccAt wb (accL (fun k => connB doors r (k : Int)) i) vv wr) (fun _ iv _ => rooms.length - (intOf iv).toNat)
    case atStart => exact ⟨0, by omega, rfl, AccAt.start wb⟩
    case round =>
      obtain ⟨i, hi, rfl, hac⟩ := hrel
      by_cases hil : i < rooms.length
      · obtain ⟨oa, oc, rfl, hseg, hf, hbl⟩ := hac
        have hlen := accL_len (fun k => connB doors r (k : Int)) i
        obtain ⟨L, hL⟩ : ∃ L, L = accL (fun k => connB doors r (k : Int)) i := ⟨_, rfl⟩
        have HL := Lib.hid hL
        rw [← hL] at hlen hseg ⊢
        have HS := Lib.hid hseg
        have HBL := Lib.hid hbl
        have HF := Lib.hid hf
        have hB := hf.blk HB.out (by simp)
        have HBR := Lib.hid hB
        have cr := C6.out wr hf
        have HC := Lib.hid (HCON.out wr (HWB.out.trans hf (by simp [Ext])) (i : Int))
        obtain ⟨b, hb⟩ : ∃ b, b = connB doors r (i : Int) := ⟨_, rfl⟩
        rw [← hb] at HC
        have HP := Lib.hid hb
        have hini : (i : Int) < (rooms.length : Int) := by omega
        clear hL hseg hbl hf hb hB
        cases b
        · go_wp2_with (first | (refine wpList_loadB rfl 31 (Operand.tmp 2) rfl bx 16 rfl C 31 (0, 0) HBR.out _ Try.underlying31 rfl HCS.out infoSetup ?_) | (go_at_call 35; refine HC.out.mono ?_; rintro e w1 ⟨rfl, hf1⟩; have HF1 := Lib.hid hf1; clear hf1))
          go_roundw
          case rel => exact ⟨i + 1, by omega, by go_num, by rw [accL_no HP.out.symm, ← HL.out]; exact ⟨oa, oc, rfl, HS.out.fr HF1.out (by simp), HF.out.trans HF1.out (by simp [Ext]), HBL.out⟩⟩
          case measure => simp [intOf]; omega
        · go_wp2_with (first | (refine wpList_loadB rfl 31 (Operand.tmp 2) rfl bx 16 rfl C 31 (0, 0) HBR.out _ Try.underlying31 rfl HCS.out infoSetup ?_) | (go_at_call 35; refine HC.out.mono ?_; rintro e w1 ⟨rfl, hf1⟩; have HF1 := Lib.hid hf1; clear hf1; have HSA := Lib.hid fun (o : Obj) => (HS.out.fr HF1.out (by simp)).alloc o; have HNE := Lib.hid (one_new w1)) | (at_builtin; refine wpList_append_seg rfl _ _ 22 rfl 3 ii _ 1 8 Try.underlying22 hii hii0 hii1 hii2 rfl (by decide) oa L.length oc (ints L) rfl (HSA.out _) ⟨_, 0, none⟩ 1 1 [_] rfl rfl (HNE.out _ _) (by simp [Value.oneCell']) (by unfold maxLen; omega) (by omega) ?_; intro ao' cap' w5 hs5 hf5 hx5; have HS5 := Lib.hid hs5; have HF5 := Lib.hid hf5; have HX5 := Lib.hid hx5; clear hs5 hf5 hx5))
          go_roundw
          case rel =>
            refine ⟨i + 1, by omega, by go_num, ?_⟩
            rw [accL_yes HP.out.symm, ← HL.out]
            have hbo := HBL.out
            have hf1 := HF.out.trans HF1.out (by simp [Ext])
            refine ⟨ao', cap', by simp, by rw [ints_append]; simpa [ints] using HS5.out, ?_, fun k hk => ?_⟩
            · exact ((hf1.alloc _).trans HF5.out fun k hk => .inr (hbo k hk))
            · rcases HX5.out k hk with h | h
              · exact hbo k h
              · have := hf1.size; simp at h; omega
          case measure => simp [intOf]; omega
      · have hke : i = rooms.length := by omega
        have HQ := Lib.hid (by rw [hke] at hac; exact (hac.from HWB.out).to)
        have cr := C6.out wr (by obtain ⟨_, _, _, _, hf, _⟩ := hac; exact hf)
        clear hke hac
        go_wp2_with fail
        go_ret
        rw [HR.out]
        exact HQ.out
end Go.Proofs.Ytdbngpncigjfiaa
/- The integer square root, plain: the program's digits, the reference's bisection. -/
namespace Go.Proofs.Ytdbngpncigjfiaa
open Go

/-- r is the root of n, rounded down -/
def IsRoot (n r : Nat) : Prop := r * r ≤ n ∧ n < (r + 1) * (r + 1)
theorem sq_lt_of {a b : Nat} (h : a * a < b * b) : a < b := Decidable.byContradiction fun hn => by
  have := Nat.mul_le_mul (Nat.le_of_not_lt hn) (Nat.le_of_not_lt hn); omega
theorem IsRoot.uniq {n r s : Nat} (hr : IsRoot n r) (hs : IsRoot n s) : r = s := by
  have h1 := sq_lt_of (Nat.lt_of_le_of_lt hr.1 hs.2)
  have h2 := sq_lt_of (Nat.lt_of_le_of_lt hs.1 hr.2)
  omega
theorem IsRoot.le_iff {n r : Nat} (h : IsRoot n r) (f : Nat) : r ≤ f ↔ n < (f + 1) * (f + 1) := by
  constructor
  · intro hf
    exact Nat.lt_of_lt_of_le h.2 (Nat.mul_le_mul (by omega) (by omega))
  · intro hf
    have := sq_lt_of (Nat.lt_of_le_of_lt h.1 hf)
    omega

/-- a place of the digits' loop: a multiple of the unit below which the root is not yet known -/
def Digit (n r k : Nat) : Prop := ∃ m, r = m * 2 ^ k ∧ r * r ≤ n ∧ n < (r + 2 ^ k) * (r + 2 ^ k)
theorem Digit.root {n r : Nat} (h : Digit n r 0) : IsRoot n r := by obtain ⟨m, _, h1, h2⟩ := h; exact ⟨h1, by simpa using h2⟩
theorem Digit.start {n k : Nat} (h : n < 2 ^ k * 2 ^ k) : Digit n 0 k := ⟨0, by simp, by omega, by simpa using h⟩
theorem Digit.or {n r k : Nat} (h : Digit n r (k + 1)) : r ||| 2 ^ k = r + 2 ^ k := by
  obtain ⟨m, rfl, _, _⟩ := h
  have := Nat.two_pow_add_eq_or_of_lt (Nat.pow_lt_pow_right (by omega) (by omega) : 2 ^ k < 2 ^ (k + 1)) m
  rw [Nat.mul_comm m]; exact this.symm
theorem Digit.no {n r k : Nat} (h : Digit n r (k + 1)) (hg : n / (r + 2 ^ k) < r + 2 ^ k) : Digit n r k := by
  obtain ⟨m, hm, h1, _⟩ := h
  refine ⟨2 * m, by rw [hm, Nat.pow_succ]; rw [Nat.mul_comm (2 ^ k) 2, ← Nat.mul_assoc, Nat.mul_comm m 2], h1, ?_⟩
  exact (Nat.div_lt_iff_lt_mul (by have := Nat.two_pow_pos k; omega)).1 hg
theorem Digit.yes {n r k : Nat} (h : Digit n r (k + 1)) (hg : r + 2 ^ k ≤ n / (r + 2 ^ k)) : Digit n (r + 2 ^ k) k := by
  obtain ⟨m, hm, _, h2⟩ := h
  refine ⟨2 * m + 1, by rw [Nat.add_mul, Nat.one_mul, hm, Nat.pow_succ, Nat.mul_comm (2 ^ k) 2, ← Nat.mul_assoc, Nat.mul_comm m 2], ?_, ?_⟩
  · exact (Nat.le_div_iff_mul_le (by have := Nat.two_pow_pos k; omega)).1 hg
  · have e : r + 2 ^ k + 2 ^ k = r + 2 ^ (k + 1) := by rw [Nat.pow_succ]; omega
    rw [e]; exact h2
theorem Digit.no' {n r k N : Nat} (h : Digit n r (k + 1)) (hN : N = r + 2 ^ k) (hg : n / N < N) : Digit n r k := by subst hN; exact h.no hg
theorem Digit.yes' {n r k N : Nat} (h : Digit n r (k + 1)) (hN : N = r + 2 ^ k) (hg : N ≤ n / N) : Digit n N k := by subst hN; exact h.yes hg
theorem Digit.small {n r k : Nat} (h : Digit n r k) (hn : n < 4611686018427387904) : r < 2147483648 := by
  obtain ⟨_, _, h1, _⟩ := h
  exact sq_lt_of (by omega)
theorem bitLen_up (x : Nat) (h : x < 2 ^ 64) : x < 2 ^ Lib.bitLen x := by
  by_cases e : x = 0
  · subst e; exact Nat.two_pow_pos _
  · exact (Lib.bitLenAux_bounds 64 x h e).2.2
theorem Digit.first (n : Nat) (h : n < 2 ^ 64) : Digit n 0 ((Lib.bitLen n + 1) / 2) := by
  refine Digit.start (Nat.lt_of_lt_of_le (bitLen_up n h) ?_)
  rw [← Nat.pow_add]
  exact Nat.pow_le_pow_right (by omega) (by omega)

/-- a place of the bisection -/
def Bis (n lo hi : Nat) : Prop := lo < hi ∧ lo * lo ≤ n ∧ n < hi * hi
theorem Bis.start {n : Nat} (h : n < 4611686018427387904) : Bis n 0 2147483649 := ⟨by omega, by omega, by omega⟩
theorem Bis.root {n lo hi : Nat} (h : Bis n lo hi) (e : hi ≤ lo + 1) : IsRoot n lo := by
  obtain ⟨h0, h1, h2⟩ := h
  have : hi = lo + 1 := by omega
  subst this
  exact ⟨h1, h2⟩
end Go.Proofs.Ytdbngpncigjfiaa
/- Bits of small numbers, as the walk meets them. -/
namespace Go.Proofs.Ytdbngpncigjfiaa
open Go

theorem or_low (a b i : Nat) (h : b < 2 ^ i) : a * 2 ^ i ||| b = a * 2 ^ i + b := by rw [Nat.mul_comm]; exact (Nat.two_pow_add_eq_or_of_lt h a).symm

theorem bits_or_u32 (a b : Nat) (ha : a < 4294967296) (hb : b < 4294967296) : bits .or .u32 (a : Int) (b : Int) = ((a ||| b : Nat) : Int) := by
  have hx : a ||| b < 2 ^ 32 := Nat.or_lt_two_pow (by omega) (by omega)
  have h1 : (BitVec.ofInt 32 (a : Int)).toNat = a := by rw [BitVec.ofInt_natCast, BitVec.toNat_ofNat]; exact Nat.mod_eq_of_lt (by omega)
  have h2 : (BitVec.ofInt 32 (b : Int)).toNat = b := by rw [BitVec.ofInt_natCast, BitVec.toNat_ofNat]; exact Nat.mod_eq_of_lt (by omega)
  show IntKind.u32.wrap ((BitVec.ofInt 32 (a : Int) ||| BitVec.ofInt 32 (b : Int)).toNat : Int) = _
  rw [BitVec.toNat_or, h1, h2]
  exact IntWalk.u32_in _ (by omega)

theorem bits_or_u8 (a b : Nat) (ha : a < 256) (hb : b < 256) : bits .or .u8 (a : Int) (b : Int) = ((a ||| b : Nat) : Int) := by
  have hx : a ||| b < 2 ^ 8 := Nat.or_lt_two_pow (by omega) (by omega)
  have h1 : (BitVec.ofInt 8 (a : Int)).toNat = a := by rw [BitVec.ofInt_natCast, BitVec.toNat_ofNat]; exact Nat.mod_eq_of_lt (by omega)
  have h2 : (BitVec.ofInt 8 (b : Int)).toNat = b := by rw [BitVec.ofInt_natCast, BitVec.toNat_ofNat]; exact Nat.mod_eq_of_lt (by omega)
  show IntKind.u8.wrap ((BitVec.ofInt 8 (a : Int) ||| BitVec.ofInt 8 (b : Int)).toNat : Int) = _
  rw [BitVec.toNat_or, h1, h2]
  exact IntWalk.u8_in _ (by omega)

theorem bits_and_u8 (a b : Nat) (ha : a < 256) (hb : b < 256) : bits .and .u8 (a : Int) (b : Int) = ((a &&& b : Nat) : Int) := by
  have hx : a &&& b < 2 ^ 8 := Nat.and_lt_two_pow _ (by omega)
  have h1 : (BitVec.ofInt 8 (a : Int)).toNat = a := by rw [BitVec.ofInt_natCast, BitVec.toNat_ofNat]; exact Nat.mod_eq_of_lt (by omega)
  have h2 : (BitVec.ofInt 8 (b : Int)).toNat = b := by rw [BitVec.ofInt_natCast, BitVec.toNat_ofNat]; exact Nat.mod_eq_of_lt (by omega)
  show IntKind.u8.wrap ((BitVec.ofInt 8 (a : Int) &&& BitVec.ofInt 8 (b : Int)).toNat : Int) = _
  rw [BitVec.toNat_and, h1, h2]
  exact IntWalk.u8_in _ (by omega)

theorem bits_or_i64 (a b : Nat) (ha : a < 9223372036854775808) (hb : b < 9223372036854775808) : bits .or .i64 (a : Int) (b : Int) = ((a ||| b : Nat) : Int) := by
  have hx : a ||| b < 2 ^ 63 := Nat.or_lt_two_pow (by omega) (by omega)
  have h1 : (BitVec.ofInt 64 (a : Int)).toNat = a := by rw [BitVec.ofInt_natCast, BitVec.toNat_ofNat]; exact Nat.mod_eq_of_lt (by omega)
  have h2 : (BitVec.ofInt 64 (b : Int)).toNat = b := by rw [BitVec.ofInt_natCast, BitVec.toNat_ofNat]; exact Nat.mod_eq_of_lt (by omega)
  show IntKind.i64.wrap ((BitVec.ofInt 64 (a : Int) ||| BitVec.ofInt 64 (b : Int)).toNat : Int) = _
  rw [BitVec.toNat_or, h1, h2]
  exact IntWalk.i64_in _ (by omega)

theorem bits_and_i64 (a b : Nat) (ha : a < 9223372036854775808) (hb : b < 9223372036854775808) : bits .and .i64 (a : Int) (b : Int) = ((a &&& b : Nat) : Int) := by
  have hx : a &&& b < 2 ^ 63 := Nat.and_lt_two_pow _ (by omega)
  have h1 : (BitVec.ofInt 64 (a : Int)).toNat = a := by rw [BitVec.ofInt_natCast, BitVec.toNat_ofNat]; exact Nat.mod_eq_of_lt (by omega)
  have h2 : (BitVec.ofInt 64 (b : Int)).toNat = b := by rw [BitVec.ofInt_natCast, BitVec.toNat_ofNat]; exact Nat.mod_eq_of_lt (by omega)
  show IntKind.i64.wrap ((BitVec.ofInt 64 (a : Int) &&& BitVec.ofInt 64 (b : Int)).toNat : Int) = _
  rw [BitVec.toNat_and, h1, h2]
  exact IntWalk.i64_in _ (by omega)

end Go.Proofs.Ytdbngpncigjfiaa
