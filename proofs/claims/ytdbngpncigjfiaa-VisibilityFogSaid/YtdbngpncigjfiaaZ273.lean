/- Vis1, Blk, Val4 (merged by merge.py). -/
import Derived.Test.YtdbngpncigjfiaaZ271
import Derived.Test.YtdbngpncigjfiaaZ272
import Derived.Deep.RegionHeld3
import Derived.Test.YtdbngpncigjfiaaZ270
/- Package visibility: bit, visible, below, Rooms; the reference's Rooms. -/
namespace Go.Proofs.Ytdbngpncigjfiaa
open Go.RowKit

theorem val_spelt {w : World} {s : St} {rooms : List Bx} {doors : List (Int × Int)} (h : MapAt w s rooms doors) :
    s.val = .agg #[.int .i64 s.players, .slice s.bo s.nb s.bc, .int .i64 s.x0, .int .i64 s.y0, .int .i64 s.x1, .int .i64 s.y1, .slice s.ro rooms.length s.rc, .slice s.dO doors.length s.dc, .int .i64 s.fog, .int .i64 s.gx, .int .i64 s.gy, .int .i64 s.push, .int .i64 s.drag, .int .i64 s.rest, .int .i64 s.rounds, .int .i64 s.fuel] := by
  have hrn : s.rn = rooms.length := h.rn
  have hdn : s.dn = doors.length := h.dn
  unfold St.val
  rw [hrn, hdn]

/-- the doors lead to rooms of the setup, of which there are at most eight -/
def Few (rooms : List Bx) (doors : List (Int × Int)) : Prop := rooms.length ≤ 8 ∧ ∀ d ∈ doors, (0 ≤ d.1 ∧ d.1 < 8) ∧ (0 ≤ d.2 ∧ d.2 < 8)

set_option maxRecDepth 100000 in
set_option maxHeartbeats 1000000 in
theorem bit_any (w : World) (k : Int) (h0 : 0 ≤ k) (h1 : k < 8) :
    Calls Try.prog 34 #[.int .i64 k] w fun e w' => e = .returned (.int .u64 ((bitN k : Nat) : Int)) ∧ w = w' := by
  obtain ⟨n, rfl⟩ : ∃ n : Nat, k = n := ⟨k.toNat, by omega⟩
  have hn : n < 8 := by omega
  clear h0 h1
  have hc : n = 0 ∨ n = 1 ∨ n = 2 ∨ n = 3 ∨ n = 4 ∨ n = 5 ∨ n = 6 ∨ n = 7 := by omega
  clear hn
  rcases hc with rfl | rfl | rfl | rfl | rfl | rfl | rfl | rfl
  all_goals
    go_enter Try.func34, Try.ntmps34
    go_wp2_with fail
    go_ret
    exact ⟨rfl, rfl⟩

/-- what visible leaves at a room that there is -/
def VisTo (doors : List (Int × Int)) (r : Int) (w : World) (e : Ending) (w' : World) : Prop := ∃ V : Nat, e = .returned (.int .u64 (V : Int)) ∧ VisK doors doors.length r V ∧ Fr [] w w'

set_option maxRecDepth 100000 in
set_option maxHeartbeats 4000000 in
theorem vis_in (w : World) (s : St) (rooms : List Bx) (doors : List (Int × Int)) (h : MapAt w s rooms doors) (hfew : Few rooms doors) (r : Int) (h0 : 0 ≤ r) (h1 : r < (rooms.length : Int)) :
    Calls Try.prog 31 #[s.val, .int .i64 r] w (VisTo doors r w) := by
  have hr8 : r < 8 := by have := hfew.1; omega
  have HFW := Lib.hid hfew.2
  clear hfew
  have hrl : rooms.length ≤ 9223372036854775807 := by have := h.rr.2.1; unfold maxLen at this; omega
  have hdl : doors.length ≤ 9223372036854775807 := by have := h.dr.2.1; unfold maxLen at this; omega
  have HM := Lib.hid h
  have HV := Lib.hid (val_spelt h)
  clear h
  obtain ⟨bx, hbx⟩ : ∃ bx, bx = w.heap.size := ⟨_, rfl⟩
  obtain ⟨wb, hwb⟩ : ∃ wb, wb = w.alloc (.cells #[.int .i64 s.players, .slice s.bo s.nb s.bc, .int .i64 s.x0, .int .i64 s.y0, .int .i64 s.x1, .int .i64 s.y1, .slice s.ro rooms.length s.rc, .slice s.dO doors.length s.dc, .int .i64 s.fog, .int .i64 s.gx, .int .i64 s.gy, .int .i64 s.push, .int .i64 s.drag, .int .i64 s.rest, .int .i64 s.rounds, .int .i64 s.fuel] 31) := ⟨_, rfl⟩
  have HB := Lib.hid (by rw [hwb, hbx]; exact alloc_new w _ : wb.heap[bx]? = some (.cells #[.int .i64 s.players, .slice s.bo s.nb s.bc, .int .i64 s.x0, .int .i64 s.y0, .int .i64 s.x1, .int .i64 s.y1, .slice s.ro rooms.length s.rc, .slice s.dO doors.length s.dc, .int .i64 s.fog, .int .i64 s.gx, .int .i64 s.gy, .int .i64 s.push, .int .i64 s.drag, .int .i64 s.rest, .int .i64 s.rounds, .int .i64 s.fuel] 31 (0, 0)))
  have HWB := Lib.hid (by rw [hwb]; exact (Fr.refl [] w).alloc _ : Fr [] w wb)
  have HBX := Lib.hid hbx
  have HWE := Lib.hid hwb
  clear hbx hwb
  rw [HV.out]
  go_enter Try.func31, Try.ntmps31
  go_wp2_with (go_at_call 34; refine (bit_any _ _ h0 hr8).mono ?_; rintro e w' ⟨rfl, rfl⟩)
  rw [← HBX.out, ← HWE.out]
  go_loopw [5, 22] (fun vv iv wr => ∃ V i : Nat, i ≤ doors.length ∧ vv = .int .u64 (V : Int) ∧ iv = .int .i64 (i : Int) ∧ VisK doors i r V ∧ Fr [] wb wr) (fun _ iv _ => doors.length - (intOf iv).toNat)
  case atStart => exact ⟨bitN r, 0, by omega, rfl, rfl, VisK.start doors h0 hr8, Fr.refl _ _⟩
  case round =>
    obtain ⟨V, i, hi, rfl, rfl, hV, hf⟩ := hrel
    have hV8 := hV.1
    have HVK := Lib.hid hV
    have HF := Lib.hid hf
    have c7 : wr.cell? ⟨bx, 7, none⟩ = some (.slice s.dO doors.length s.dc) := cell_blk (hf.blk HB.out (by simp)) 7
    clear hV
    by_cases hil : i < doors.length
    · obtain ⟨g, off, hro, hg, k0, k1⟩ := (HM.out.old (HWB.out.trans hf (by simp [Ext]))).dr.door hil
      obtain ⟨p, hp⟩ : ∃ p, p = doors[i].1 := ⟨_, rfl⟩
      obtain ⟨q, hq⟩ : ∃ q, q = doors[i].2 := ⟨_, rfl⟩
      have hdp := HFW.out _ (List.getElem_mem hil)
      rw [← hp] at k0
      rw [← hq] at k1
      rw [← hp, ← hq] at hdp
      obtain ⟨⟨p0, p1⟩, q0, q1⟩ := hdp
      have HD := Lib.hid (by rw [hp, hq] : doors[i] = (p, q))
      rw [hro] at c7 ⊢
      have hii : (i : Int) < (doors.length : Int) := by omega
      have hqb := bitN_lt q1
      have hpb := bitN_lt p1
      have hoq : bits .or .u64 (V : Int) ((bitN q : Nat) : Int) = ((V ||| bitN q : Nat) : Int) := bits_or_u64 V _ hV8 hqb
      have hop : bits .or .u64 (V : Int) ((bitN p : Nat) : Int) = ((V ||| bitN p : Nat) : Int) := bits_or_u64 V _ hV8 hpb
      clear hp hq hro hf
      cases e0 : (r == p)
      · cases e1 : (r == q)
        · have HS := Lib.hid (HVK.out.no hil HD.out e0 e1)
          go_wp2_with fail
          go_roundw
          case rel => exact ⟨V, i + 1, by omega, rfl, by go_num, HS.out, HF.out.alloc _⟩
          case measure => simp [intOf]; omega
        · have HS := Lib.hid (HVK.out.two hil HD.out ⟨p0, p1⟩ e0 e1)
          go_wp2_with (go_at_call 34; refine (bit_any _ _ p0 p1).mono ?_; rintro e w' ⟨rfl, rfl⟩)
          go_roundw
          case rel => exact ⟨V ||| bitN p, i + 1, by omega, rfl, by go_num, HS.out, HF.out.alloc _⟩
          case measure => simp [intOf]; omega
      · have HS := Lib.hid (HVK.out.one hil HD.out ⟨q0, q1⟩ e0)
        go_wp2_with (go_at_call 34; refine (bit_any _ _ q0 q1).mono ?_; rintro e w' ⟨rfl, rfl⟩)
        go_roundw
        case rel => exact ⟨V ||| bitN q, i + 1, by omega, rfl, by go_num, HS.out, HF.out.alloc _⟩
        case measure => simp [intOf]; omega
    · have hke : i = doors.length := by omega
      have HV2 := Lib.hid (by rw [hke] at HVK; exact HVK.out : VisK doors doors.length r V)
      clear hke hf
      go_wp2_with fail
      go_ret
      exact ⟨V, rfl, HV2.out, HWB.out.trans HF.out (by simp [Ext])⟩

/-- what visible leaves, at any number -/
def VisOk (rooms : List Bx) (doors : List (Int × Int)) (r : Int) (V : Nat) : Prop := V < 256 ∧ ∀ k : Nat, k < 8 → V.testBit k = (decide (0 ≤ r ∧ r < (rooms.length : Int)) && connB doors r (k : Int))
def VisAny (rooms : List Bx) (doors : List (Int × Int)) (r : Int) (w : World) (e : Ending) (w' : World) : Prop := ∃ V : Nat, e = .returned (.int .u64 (V : Int)) ∧ VisOk rooms doors r V ∧ Fr [] w w'

set_option maxRecDepth 100000 in
set_option maxHeartbeats 4000000 in
theorem vis_any (w : World) (s : St) (rooms : List Bx) (doors : List (Int × Int)) (h : MapAt w s rooms doors) (hfew : Few rooms doors) (r : Int) :
    Calls Try.prog 31 #[s.val, .int .i64 r] w (VisAny rooms doors r w) := by
  by_cases hin : 0 ≤ r ∧ r < (rooms.length : Int)
  · refine (vis_in w s rooms doors h hfew r hin.1 hin.2).mono ?_
    rintro e w' ⟨V, rfl, hV, hf⟩
    exact ⟨V, rfl, ⟨hV.1, fun k hk => by rw [hV.full hk, decide_eq_true hin, Bool.true_and]⟩, hf⟩
  · have HZ := Lib.hid (⟨by omega, fun k hk => by rw [decide_eq_false hin, Nat.zero_testBit]; rfl⟩ : VisOk rooms doors r 0)
    clear hfew
    have hrl : rooms.length ≤ 9223372036854775807 := by have := h.rr.2.1; unfold maxLen at this; omega
    have hdl : doors.length ≤ 9223372036854775807 := by have := h.dr.2.1; unfold maxLen at this; omega
    have HM := Lib.hid h
    have HV := Lib.hid (val_spelt h)
    clear h
    obtain ⟨bx, hbx⟩ : ∃ bx, bx = w.heap.size := ⟨_, rfl⟩
    obtain ⟨wb, hwb⟩ : ∃ wb, wb = w.alloc (.cells #[.int .i64 s.players, .slice s.bo s.nb s.bc, .int .i64 s.x0, .int .i64 s.y0, .int .i64 s.x1, .int .i64 s.y1, .slice s.ro rooms.length s.rc, .slice s.dO doors.length s.dc, .int .i64 s.fog, .int .i64 s.gx, .int .i64 s.gy, .int .i64 s.push, .int .i64 s.drag, .int .i64 s.rest, .int .i64 s.rounds, .int .i64 s.fuel] 31) := ⟨_, rfl⟩
    have HB := Lib.hid (by rw [hwb, hbx]; exact alloc_new w _ : wb.heap[bx]? = some (.cells #[.int .i64 s.players, .slice s.bo s.nb s.bc, .int .i64 s.x0, .int .i64 s.y0, .int .i64 s.x1, .int .i64 s.y1, .slice s.ro rooms.length s.rc, .slice s.dO doors.length s.dc, .int .i64 s.fog, .int .i64 s.gx, .int .i64 s.gy, .int .i64 s.push, .int .i64 s.drag, .int .i64 s.rest, .int .i64 s.rounds, .int .i64 s.fuel] 31 (0, 0)))
    have HWB := Lib.hid (by rw [hwb]; exact (Fr.refl [] w).alloc _ : Fr [] w wb)
    have HBX := Lib.hid hbx
    have HWE := Lib.hid hwb
    clear hbx hwb
    rw [HV.out]
    clear hrl hdl
    by_cases h0 : r < 0
    · clear hin
      go_enter Try.func31, Try.ntmps31
      go_wp2_with fail
      rw [← HWE.out]
      go_ret
      exact ⟨0, rfl, HZ.out, HWB.out⟩
    · have h1 : 0 ≤ r := by omega
      have h2 : (rooms.length : Int) ≤ r := by omega
      clear hin h0
      go_enter Try.func31, Try.ntmps31
      go_wp2_with fail
      rw [← HWE.out]
      go_ret
      exact ⟨0, rfl, HZ.out, HWB.out⟩

/-- a list that is being written in fresh memory -/
def AccAt (w : World) (l : List Int) (v : Value) (wr : World) : Prop := ∃ oa oc, v = .slice oa l.length oc ∧ Seg wr 3 1 oa l.length oc (ints l) ∧ Fr [] w wr ∧ ∀ k ∈ blk oa, w.heap.size ≤ k
theorem AccAt.start (w : World) : AccAt w [] (.slice none 0 0) w := ⟨none, 0, rfl, by simpa [ints] using Seg.nil _ _ _, Fr.refl _ _, by simp [blk]⟩
theorem AccAt.go {w wr w' : World} {l : List Int} {v : Value} (h : AccAt w l v wr) (hf : Fr [] wr w') : AccAt w l v w' := by
  obtain ⟨oa, oc, h1, h2, h3, h4⟩ := h
  exact ⟨oa, oc, h1, h2.fr hf (by simp), h3.trans hf (by simp [Ext]), h4⟩
theorem AccAt.from {w0 w wr : World} {l : List Int} {v : Value} (h : AccAt w l v wr) (hf : Fr [] w0 w) : AccAt w0 l v wr := by
  obtain ⟨oa, oc, h1, h2, h3, h4⟩ := h
  exact ⟨oa, oc, h1, h2, hf.trans h3 (by simp [Ext]), fun k hk => by have := h4 k hk; have := hf.size; omega⟩
theorem AccAt.to {w wr : World} {l : List Int} {v : Value} (h : AccAt w l v wr) : IntsTo w l (.returned v) wr := by
  obtain ⟨oa, oc, h1, h2, h3, h4⟩ := h
  exact ⟨oa, oc, by rw [h1], h2, h3, h4⟩
theorem one_new (w : World) (v : Value) (T : TypeId) : ∀ j u, [v][j]? = some u → (w.alloc (.cells #[v] T)).cell? ((⟨w.heap.size, 0, none⟩ : Addr).add j) = some u := fun j u hu => by
  rw [Addr.add_mid, Nat.zero_add, World.cell?_alloc_new]; simpa using hu

set_option maxRecDepth 100000 in
set_option maxHeartbeats 4000000 in
theorem below_rooms (w : World) (n : Nat) (hn : n ≤ 1048576) (tb : Nat) (p : Nat → Bool)
    (hacc : ∀ (k : Nat) (wr : World), k < n → Fr [] w wr → Calls Try.prog 33 #[.int .i64 (k : Int), .pointer (some ⟨tb, 0, none⟩)] wr (fun e w' => e = .returned (.bool (p k)) ∧ Fr [] wr w')) :
    Calls Try.prog 32 #[.int .i64 (n : Int), .func (.func 33) #[] #[.pointer (some ⟨tb, 0, none⟩)]] w (IntsTo w (accL p n)) := by
  have HA := Lib.hid hacc
  clear hacc
  obtain ⟨ii, hii, hii0, hii1, hii2⟩ := info_parts infoInt
  go_enter Try.func32, Try.ntmps32
  go_wp2_with fail
  go_loopw [5, 8] (fun vv iv wr => ∃ i : Nat, i ≤ n ∧ iv = .int .i64 (i : Int) ∧ AccAt w (accL p i) vv wr) (fun _ iv _ => n - (intOf iv).toNat)
  case atStart => exact ⟨0, by omega, rfl, AccAt.start w⟩
  case round =>
    obtain ⟨i, hi, rfl, hac⟩ := hrel
    by_cases hin : i < n
    · have HAC := Lib.hid hac
      obtain ⟨oa, oc, rfl, hseg, hf, hbl⟩ := hac
      have hlen := accL_len p i
      obtain ⟨L, hL⟩ : ∃ L, L = accL p i := ⟨_, rfl⟩
      have HL := Lib.hid hL
      rw [← hL] at hlen hseg ⊢
      have HS := Lib.hid hseg
      have HB := Lib.hid hbl
      have HF := Lib.hid hf
      have hini : (i : Int) < (n : Int) := by omega
      have HC := Lib.hid (HA.out i wr hin hf)
      obtain ⟨b, hb⟩ : ∃ b, b = p i := ⟨_, rfl⟩
      rw [← hb] at HC
      have HP := Lib.hid hb
      clear hL hseg hbl hf hb
      cases b
      · go_wp2_with (go_at_call 33; refine HC.out.mono ?_; rintro e w1 ⟨rfl, hf1⟩; have HF1 := Lib.hid hf1; clear hf1)
        go_roundw
        case rel => exact ⟨i + 1, by omega, by go_num, by rw [accL_no HP.out.symm, ← HL.out]; exact ⟨oa, oc, rfl, HS.out.fr HF1.out (by simp), HF.out.trans HF1.out (by simp [Ext]), HB.out⟩⟩
        case measure => simp [intOf]; omega
      · go_wp2_with (first | (go_at_call 33; refine HC.out.mono ?_; rintro e w1 ⟨rfl, hf1⟩; have HF1 := Lib.hid hf1; clear hf1; have HSA := Lib.hid fun (o : Obj) => (HS.out.fr HF1.out (by simp)).alloc o; have HNE := Lib.hid (one_new w1)) | (at_builtin; refine wpList_append_seg rfl _ _ 22 rfl 3 ii _ 1 8 Try.underlying22 hii hii0 hii1 hii2 rfl (by decide) oa L.length oc (ints L) rfl (HSA.out _) ⟨_, 0, none⟩ 1 1 [_] rfl rfl (HNE.out _ _) (by simp [Value.oneCell']) (by unfold maxLen; omega) (by omega) ?_; intro ao' cap' w5 hs5 hf5 hx5; have HS5 := Lib.hid hs5; have HF5 := Lib.hid hf5; have HX5 := Lib.hid hx5; clear hs5 hf5 hx5))
        go_roundw
        case rel =>
          refine ⟨i + 1, by omega, by go_num, ?_⟩
          rw [accL_yes HP.out.symm, ← HL.out]
          have hbo := HB.out
          have hf1 := HF.out.trans HF1.out (by simp [Ext])
          refine ⟨ao', cap', by simp, by rw [ints_append]; simpa [ints] using HS5.out, ?_, fun k hk => ?_⟩
          · exact ((hf1.alloc _).trans HF5.out fun k hk => .inr (hbo k hk))
          · rcases HX5.out k hk with h | h
            · exact hbo k h
            · have := hf1.size; simp at h; omega
        case measure => simp [intOf]; omega
    · have hke : i = n := by omega
      have HQ := Lib.hid (by rw [hke] at hac; exact hac.to)
      clear hke hac
      go_wp2_with fail
      go_ret
      exact HQ.out

set_option maxRecDepth 100000 in
set_option maxHeartbeats 4000000 in
theorem below_seen (w : World) (n : Nat) (hn : n ≤ 1048576) (tb t2 t3 : Nat) (p : Nat → Bool)
    (hacc : ∀ (k : Nat) (wr : World), k < n → Fr [] w wr → Calls Try.prog 39 #[.int .i64 (k : Int), .pointer (some ⟨tb, 0, none⟩), .pointer (some ⟨t2, 0, none⟩), .pointer (some ⟨t3, 0, none⟩)] wr (fun e w' => e = .returned (.bool (p k)) ∧ Fr [] wr w')) :
    Calls Try.prog 32 #[.int .i64 (n : Int), .func (.func 39) #[] #[.pointer (some ⟨tb, 0, none⟩), .pointer (some ⟨t2, 0, none⟩), .pointer (some ⟨t3, 0, none⟩)]] w (IntsTo w (accL p n)) := by
  have HA := Lib.hid hacc
  clear hacc
  obtain ⟨ii, hii, hii0, hii1, hii2⟩ := info_parts infoInt
  go_enter Try.func32, Try.ntmps32
  go_wp2_with fail
  go_loopw [5, 8] (fun vv iv wr => ∃ i : Nat, i ≤ n ∧ iv = .int .i64 (i : Int) ∧ AccAt w (accL p i) vv wr) (fun _ iv _ => n - (intOf iv).toNat)
  case atStart => exact ⟨0, by omega, rfl, AccAt.start w⟩
  case round =>
    obtain ⟨i, hi, rfl, hac⟩ := hrel
    by_cases hin : i < n
    · have HAC := Lib.hid hac
      obtain ⟨oa, oc, rfl, hseg, hf, hbl⟩ := hac
      have hlen := accL_len p i
      obtain ⟨L, hL⟩ : ∃ L, L = accL p i := ⟨_, rfl⟩
      have HL := Lib.hid hL
      rw [← hL] at hlen hseg ⊢
      have HS := Lib.hid hseg
      have HB := Lib.hid hbl
      have HF := Lib.hid hf
      have hini : (i : Int) < (n : Int) := by omega
      have HC := Lib.hid (HA.out i wr hin hf)
      obtain ⟨b, hb⟩ : ∃ b, b = p i := ⟨_, rfl⟩
      rw [← hb] at HC
      have HP := Lib.hid hb
      clear hL hseg hbl hf hb
      cases b
      · go_wp2_with (go_at_call 39; refine HC.out.mono ?_; rintro e w1 ⟨rfl, hf1⟩; have HF1 := Lib.hid hf1; clear hf1)
        go_roundw
        case rel => exact ⟨i + 1, by omega, by go_num, by rw [accL_no HP.out.symm, ← HL.out]; exact ⟨oa, oc, rfl, HS.out.fr HF1.out (by simp), HF.out.trans HF1.out (by simp [Ext]), HB.out⟩⟩
        case measure => simp [intOf]; omega
      · go_wp2_with (first | (go_at_call 39; refine HC.out.mono ?_; rintro e w1 ⟨rfl, hf1⟩; have HF1 := Lib.hid hf1; clear hf1; have HSA := Lib.hid fun (o : Obj) => (HS.out.fr HF1.out (by simp)).alloc o; have HNE := Lib.hid (one_new w1)) | (at_builtin; refine wpList_append_seg rfl _ _ 22 rfl 3 ii _ 1 8 Try.underlying22 hii hii0 hii1 hii2 rfl (by decide) oa L.length oc (ints L) rfl (HSA.out _) ⟨_, 0, none⟩ 1 1 [_] rfl rfl (HNE.out _ _) (by simp [Value.oneCell']) (by unfold maxLen; omega) (by omega) ?_; intro ao' cap' w5 hs5 hf5 hx5; have HS5 := Lib.hid hs5; have HF5 := Lib.hid hf5; have HX5 := Lib.hid hx5; clear hs5 hf5 hx5))
        go_roundw
        case rel =>
          refine ⟨i + 1, by omega, by go_num, ?_⟩
          rw [accL_yes HP.out.symm, ← HL.out]
          have hbo := HB.out
          have hf1 := HF.out.trans HF1.out (by simp [Ext])
          refine ⟨ao', cap', by simp, by rw [ints_append]; simpa [ints] using HS5.out, ?_, fun k hk => ?_⟩
          · exact ((hf1.alloc _).trans HF5.out fun k hk => .inr (hbo k hk))
          · rcases HX5.out k hk with h | h
            · exact hbo k h
            · have := hf1.size; simp at h; omega
        case measure => simp [intOf]; omega
    · have hke : i = n := by omega
      have HQ := Lib.hid (by rw [hke] at hac; exact hac.to)
      clear hke hac
      go_wp2_with fail
      go_ret
      exact HQ.out

end Go.Proofs.Ytdbngpncigjfiaa
/- Laws: a struct's whole block stored, loaded. Generic over the program. -/
namespace Go.Proofs.Ytdbngpncigjfiaa
open Go.RowKit

section
variable {P : Program} {ops : Array Oper} {rest : List Oper} {op : Oper} {a : Act} {w : World} {Q : Exit → Act → World → Prop}

theorem wpList_storeB (hgd : op.guard = none) (ty : TypeId) (x y : Operand) (ho : op.op = .store ty x y) (b n : Nat) (cells : Array Value) (hx : a.eval x = .pointer (some ⟨b, 0, none⟩)) (hy : a.eval y = .agg cells)
    (z : Array Value) (T : TypeId) (hb : w.heap[b]? = some (.cells z T (0, 0))) (hz : z.size = n) (hc : cells.size = n) (hi : (P.info? ty).map (·.size) = some n) (h1 : cells.all (·.oneCell') = true)
    (h : ∀ w', w'.heap[b]? = some (.cells cells T (0, 0)) → Fr [b] w w' → wpList P ops Q rest (a.put op.dst undef) w') : wpList P ops Q (op :: rest) a w := by
  refine wpList_store_mid hgd ty x y ho b 0 cells hx hy (fun j hj => ?_) (by rw [hc]; exact hi) h1 (h _ ?_ ?_)
  · rw [Nat.zero_add, cell_blk hb, Array.getElem?_eq_getElem (by omega)]
    exact ⟨rfl, frozen_blk hb j⟩
  · have h2 := setCells_blk cells.toList 0 w z hb (by simp; omega)
    rw [h2]
    congr 2
    apply Array.ext'
    simp only [List.take_zero, List.nil_append, Nat.zero_add]
    rw [List.drop_of_length_le (by simp; omega), List.append_nil]
  · exact (Fr.refl [b] w).setCells (.inl (by simp)) 0 cells.toList

theorem wpList_loadB (hgd : op.guard = none) (ty : TypeId) (x : Operand) (ho : op.op = .load ty x) (b n : Nat) (hx : a.eval x = .pointer (some ⟨b, 0, none⟩)) (c : Array Value) (T : TypeId) (f : Nat × Nat) (hb : w.heap[b]? = some (.cells c T f))
    (d : TypeDesc) (hu : P.underlying ty = some d) (hd : d.isRow = true) (hc : c.size = n) (hi : (P.info? ty).map (·.size) = some n)
    (h : wpList P ops Q rest (a.put op.dst (.agg c)) w) : wpList P ops Q (op :: rest) a w := by
  refine wpList_load_mid hgd ty x ho b 0 hx c.toList d (fun j v hv => ?_) hu hd (by rw [Array.length_toList, hc]; exact hi) h
  rw [Nat.zero_add, cell_blk hb, ← Array.getElem?_toList]
  exact hv

/-- the same at a guarded operation whose guard says yes -/
theorem wpList_loadG (hw : Region.wanted op (yielded ops a.tmps) = true) (ty : TypeId) (x : Operand) (ho : op.op = .load ty x) (b n : Nat) (hx : a.eval x = .pointer (some ⟨b, 0, none⟩)) (c : Array Value) (T : TypeId) (f : Nat × Nat) (hb : w.heap[b]? = some (.cells c T f))
    (d : TypeDesc) (hu : P.underlying ty = some d) (hd : d.isRow = true) (hc : c.size = n) (hi : (P.info? ty).map (·.size) = some n)
    (h : wpList P ops Q rest (a.put op.dst (.agg c)) w) : wpList P ops Q (op :: rest) a w :=
  BigFrame.wpList_want hw fun K hK => by
    refine wp_load_mid ty x ho b 0 hx c.toList d (fun j v hv => ?_) hu hd (by rw [Array.length_toList, hc]; exact hi) (hK _ _ h)
    rw [Nat.zero_add, cell_blk hb, ← Array.getElem?_toList]
    exact hv

theorem wp_storeB {K : Act → World → Prop} (ty : TypeId) (x y : Operand) (ho : op.op = .store ty x y) (b n : Nat) (cells : Array Value) (hx : a.eval x = .pointer (some ⟨b, 0, none⟩)) (hy : a.eval y = .agg cells)
    (z : Array Value) (T : TypeId) (hb : w.heap[b]? = some (.cells z T (0, 0))) (hz : z.size = n) (hc : cells.size = n) (hi : (P.info? ty).map (·.size) = some n) (h1 : cells.all (·.oneCell') = true)
    (h : ∀ w', w'.heap[b]? = some (.cells cells T (0, 0)) → Fr [b] w w' → K (a.put op.dst undef) w') : op.wp P a w K Q := by
  refine wp_store_mid ty x y ho b 0 cells hx hy (fun j hj => ?_) (by rw [hc]; exact hi) h1 (h _ ?_ ?_)
  · rw [Nat.zero_add, cell_blk hb, Array.getElem?_eq_getElem (by omega)]
    exact ⟨rfl, frozen_blk hb j⟩
  · have h2 := setCells_blk cells.toList 0 w z hb (by simp; omega)
    rw [h2]
    congr 2
    apply Array.ext'
    simp only [List.take_zero, List.nil_append, Nat.zero_add]
    rw [List.drop_of_length_le (by simp; omega), List.append_nil]
  · exact (Fr.refl [b] w).setCells (.inl (by simp)) 0 cells.toList
end

section
variable {P : Program} {l : List Oper} {Q : Exit → Act → World → Prop} {md : Region.Mode} {S : World → Prop}
theorem wpAnyH_takeL {i : Nat} {oi : Oper} {v : Value} {fuel : Nat} {listed : Array Bool} {a : Act} {w : World} (hi : l[i]? = some oi)
    (hs : Region.noSelect l.toArray = true) (hf : Region.free md l.toArray listed i = true) (hr : (Region.ready md l.toArray listed).contains i = true)
    (hQ : ∀ c a w, Q (.panic c) (a.put oi.dst v) w → Q (.panic c) a w) (hy : YieldsIf P l.toArray S oi v a) (hS : S w)
    (h : wpAnyH P md l.toArray Q S fuel (listed.setIfInBounds i true) (a.put oi.dst v) w) : wpAnyH P md l.toArray Q S (fuel + 1) listed a w :=
  wpAnyH_take (by simpa using hi) hs hf hr hQ hy hS h
theorem AllReadyH.consL {fuel : Nat} {listed : Array Bool} {a : Act} {w : World} {i : Nat} {o : Oper} {rs : List Nat} (ho : l[i]? = some o)
    (h : ∀ K' : Act → World → Prop, Shut (∀ a w, S w → (S w → wpAnyH P md l.toArray Q S fuel (listed.setIfInBounds i true) a w) → K' a w) → if Region.wanted o (yielded l.toArray a.tmps) = true then Oper.wp P o a w K' Q else K' (a.put o.dst undef) w)
    (hs : AllReadyH P md l.toArray Q S fuel listed a w rs) : AllReadyH P md l.toArray Q S fuel listed a w (i :: rs) := AllReadyH.cons (by simpa using ho) h hs
end
end Go.Proofs.Ytdbngpncigjfiaa
/- Package layout: Validate. -/
namespace Go.Proofs.Ytdbngpncigjfiaa
open Go.RowKit

def validB (s : St) (bodies : List Bd) (shs : List Int) (rooms : List Bx) (doors : List (Int × Int)) : Int :=
  if shs.all (fun e => e == 0) then (if numsB s && properB s.x0 s.y0 s.x1 s.y1 && mapB rooms doors && bodies.all (fun d => bodyB d s.x0 s.y0 s.x1 s.y1) then 0 else 11) else 10

structure BodiesAt (w : World) (s : St) (bodies : List Bd) : Prop where
  nb : s.nb = bodies.length
  rd : Rd w 9 s.bo bodies.length (bodies.flatMap Bd.cells)
theorem BodiesAt.old {w w' : World} {s : St} {bodies : List Bd} (h : BodiesAt w s bodies) (hf : Fr [] w w') : BodiesAt w' s bodies := ⟨h.nb, h.rd.fr hf (by simp)⟩

theorem Rd.body {w : World} {ao : Option Addr} {bodies : List Bd} (h : Rd w 9 ao bodies.length (bodies.flatMap Bd.cells)) {i : Nat} (hi : i < bodies.length) {d : Bd} (hd : d = bodies[i]) : ∃ g off, ao = some ⟨g, off, none⟩ ∧ g < w.heap.size ∧
    w.cell? ⟨g, off + i * 9, none⟩ = some (.int .i64 d.rad) ∧ w.cell? ⟨g, off + i * 9 + 1, none⟩ = some (.slice d.po d.pn d.pc) ∧ w.cell? ⟨g, off + i * 9 + 2, none⟩ = some (.int .i64 d.px) ∧ w.cell? ⟨g, off + i * 9 + 3, none⟩ = some (.int .i64 d.py) ∧ w.cell? ⟨g, off + i * 9 + 4, none⟩ = some (.int .i64 d.vx) ∧ w.cell? ⟨g, off + i * 9 + 5, none⟩ = some (.int .i64 d.vy) ∧ w.cell? ⟨g, off + i * 9 + 6, none⟩ = some (.int .i64 d.im) ∧ w.cell? ⟨g, off + i * 9 + 7, none⟩ = some (.int .i64 d.a) ∧ w.cell? ⟨g, off + i * 9 + 8, none⟩ = some (.int .i64 d.b) := by
  obtain ⟨g, off, ha, hg, hc⟩ := h.at (by omega)
  have key : ∀ j, j < 9 → w.cell? ⟨g, off + i * 9 + j, none⟩ = (Bd.cells d)[j]? := fun j hj => by
    rw [Nat.add_assoc, hc _ (by omega), flat_get Bd.cells 9 (fun _ => rfl) bodies i j hi hj, hd]
  exact ⟨g, off, ha, hg, key 0 (by omega), key 1 (by omega), key 2 (by omega), key 3 (by omega), key 4 (by omega), key 5 (by omega), key 6 (by omega), key 7 (by omega), key 8 (by omega)⟩

end Go.Proofs.Ytdbngpncigjfiaa
