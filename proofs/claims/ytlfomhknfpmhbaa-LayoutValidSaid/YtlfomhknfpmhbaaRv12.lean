/- arenanetref12.Validate. -/
import Derived.Test.YtlfomhknfpmhbaaRf03
import Derived.Test.YtlfomhknfpmhbaaRf12V
namespace Go.Proofs.Ytlfomhknfpmhbaa
open Go.RowKit

def restB (s : St) (bodies : List Bd) (rooms : List Bx) (doors : List (Int × Int)) : Bool := numsB s && properB s.x0 s.y0 s.x1 s.y1 && mapB rooms doors && bodies.all (fun d => bodyB d s.x0 s.y0 s.x1 s.y1)
section
variable {s : St} {bodies : List Bd} {rooms : List Bx} {doors : List (Int × Int)}
theorem rest_n (h : numsB s = false) : restB s bodies rooms doors = false := by unfold restB; rw [h]; simp
theorem rest_p (h : properB s.x0 s.y0 s.x1 s.y1 = false) : restB s bodies rooms doors = false := by unfold restB; rw [h]; simp
theorem rest_m (h : mapB rooms doors = false) : restB s bodies rooms doors = false := by unfold restB; rw [h]; simp
theorem rest_b (h : bodies.all (fun d => bodyB d s.x0 s.y0 s.x1 s.y1) = false) : restB s bodies rooms doors = false := by unfold restB; rw [h]; simp
theorem rest_ok (h1 : numsB s = true) (h2 : properB s.x0 s.y0 s.x1 s.y1 = true) (h3 : mapB rooms doors = true) (h4 : bodies.all (fun d => bodyB d s.x0 s.y0 s.x1 s.y1) = true) : restB s bodies rooms doors = true := by unfold restB; rw [h1, h2, h3, h4]; rfl
theorem map_rl (h : 8 < rooms.length) : mapB rooms doors = false := by unfold mapB; rw [decide_eq_false (show ¬ rooms.length ≤ 8 by omega)]; simp
theorem map_dl (h : 16 < doors.length) : mapB rooms doors = false := by unfold mapB; rw [decide_eq_false (show ¬ doors.length ≤ 16 by omega)]; simp
theorem map_r (h : rooms.all Bx.ok = false) : mapB rooms doors = false := by unfold mapB; rw [h]; simp
theorem map_d (h : doors.all (drOk ((rooms.length : Int) - 1)) = false) : mapB rooms doors = false := by unfold mapB; rw [h]; simp
theorem map_ok (h1 : rooms.length ≤ 8) (h2 : doors.length ≤ 16) (h3 : rooms.all Bx.ok = true) (h4 : doors.all (drOk ((rooms.length : Int) - 1)) = true) : mapB rooms doors = true := by unfold mapB; rw [decide_eq_true h1, decide_eq_true h2, h3, h4]; rfl
theorem nums_n1 (h : n1 s = false) : numsB s = false := by unfold numsB; rw [h]; rfl
theorem nums_n2 (h : n2 s = false) : numsB s = false := by unfold numsB; rw [h]; simp
theorem nums_n3 (h : n3 s = false) : numsB s = false := by unfold numsB; rw [h]; simp
theorem nums_n4 (h : n4 s = false) : numsB s = false := by unfold numsB; rw [h]; simp
theorem nums_n5 (h : n5 s = false) : numsB s = false := by unfold numsB; rw [h]; simp
theorem nums_n6 (h : n6 s = false) : numsB s = false := by unfold numsB; rw [h]; simp
theorem nums_n7 (h : n7 s = false) : numsB s = false := by unfold numsB; rw [h]; simp
theorem nums_n8 (h : n8 s = false) : numsB s = false := by unfold numsB; rw [h]; simp
theorem nums_ok (h1 : n1 s = true) (h2 : n2 s = true) (h3 : n3 s = true) (h4 : n4 s = true) (h5 : n5 s = true) (h6 : n6 s = true) (h7 : n7 s = true) (h8 : n8 s = true) : numsB s = true := by unfold numsB; rw [h1, h2, h3, h4, h5, h6, h7, h8]; rfl
end

set_option maxRecDepth 100000 in
set_option maxHeartbeats 32000000 in
theorem rvalidate_any (w : World) (s : St) (bodies : List Bd) (polys : List (List (Int × Int))) (rooms : List Bx) (doors : List (Int × Int)) (h : SK w s bodies polys rooms doors) :
    Calls Try.prog 14 #[s.val] w fun e w' => e = .returned (.int .i64 (validB s bodies (codes bodies polys) rooms doors)) ∧ Fr [] w w' := by
  have hbl : bodies.length ≤ 9223372036854775807 := by have := h.bod.rd.2.1; unfold maxLen at this; omega
  have hrl : rooms.length ≤ 9223372036854775807 := by have := h.map.rr.2.1; unfold maxLen at this; omega
  have hdl : doors.length ≤ 9223372036854775807 := by have := h.map.dr.2.1; unfold maxLen at this; omega
  have HK := Lib.hid h
  have HPL := Lib.hid h.pl
  have hnb : s.nb = bodies.length := h.bod.nb
  have hrn : s.rn = rooms.length := h.map.rn
  have hdn : s.dn = doors.length := h.map.dn
  have hcl : (codes bodies polys).length = bodies.length := by have := h.pl; simp [codes]; omega
  have HCL := Lib.hid hcl
  have HN2 := Lib.hid (by unfold n2; rw [hnb] : n2 s = inB s.players 24 (bodies.length : Int))
  obtain ⟨C, hC⟩ : ∃ C : Array Value, C = #[.int .i64 s.players, .slice s.bo bodies.length s.bc, .int .i64 s.x0, .int .i64 s.y0, .int .i64 s.x1, .int .i64 s.y1, .slice s.ro rooms.length s.rc, .slice s.dO doors.length s.dc, .int .i64 s.fog, .int .i64 s.gx, .int .i64 s.gy, .int .i64 s.push, .int .i64 s.drag, .int .i64 s.rest, .int .i64 s.rounds, .int .i64 s.fuel] := ⟨_, rfl⟩
  have HC0 := Lib.hid (by rw [hC]; rfl : C[0]? = some (.int .i64 s.players))
  have HC1 := Lib.hid (by rw [hC]; rfl : C[1]? = some (.slice s.bo bodies.length s.bc))
  have HC2 := Lib.hid (by rw [hC]; rfl : C[2]? = some (.int .i64 s.x0))
  have HC3 := Lib.hid (by rw [hC]; rfl : C[3]? = some (.int .i64 s.y0))
  have HC4 := Lib.hid (by rw [hC]; rfl : C[4]? = some (.int .i64 s.x1))
  have HC5 := Lib.hid (by rw [hC]; rfl : C[5]? = some (.int .i64 s.y1))
  have HC6 := Lib.hid (by rw [hC]; rfl : C[6]? = some (.slice s.ro rooms.length s.rc))
  have HC7 := Lib.hid (by rw [hC]; rfl : C[7]? = some (.slice s.dO doors.length s.dc))
  have HC8 := Lib.hid (by rw [hC]; rfl : C[8]? = some (.int .i64 s.fog))
  have HC9 := Lib.hid (by rw [hC]; rfl : C[9]? = some (.int .i64 s.gx))
  have HC10 := Lib.hid (by rw [hC]; rfl : C[10]? = some (.int .i64 s.gy))
  have HC11 := Lib.hid (by rw [hC]; rfl : C[11]? = some (.int .i64 s.push))
  have HC12 := Lib.hid (by rw [hC]; rfl : C[12]? = some (.int .i64 s.drag))
  have HC13 := Lib.hid (by rw [hC]; rfl : C[13]? = some (.int .i64 s.rest))
  have HC14 := Lib.hid (by rw [hC]; rfl : C[14]? = some (.int .i64 s.rounds))
  have HC15 := Lib.hid (by rw [hC]; rfl : C[15]? = some (.int .i64 s.fuel))
  obtain ⟨bx, hbx⟩ : ∃ bx, bx = w.heap.size := ⟨_, rfl⟩
  obtain ⟨wb, hwb⟩ : ∃ wb, wb = w.alloc (.cells C 31) := ⟨_, rfl⟩
  have HBB := Lib.hid (by rw [hwb, hbx]; exact alloc_new w _ : wb.heap[bx]? = some (.cells C 31 (0, 0)))
  have HWB := Lib.hid (by rw [hwb]; exact (Fr.refl [] w).alloc _ : Fr [] w wb)
  have HBX := Lib.hid hbx
  have HWE := Lib.hid (by rw [hwb, hC] : wb = w.alloc (.cells #[.int .i64 s.players, .slice s.bo bodies.length s.bc, .int .i64 s.x0, .int .i64 s.y0, .int .i64 s.x1, .int .i64 s.y1, .slice s.ro rooms.length s.rc, .slice s.dO doors.length s.dc, .int .i64 s.fog, .int .i64 s.gx, .int .i64 s.gy, .int .i64 s.push, .int .i64 s.drag, .int .i64 s.rest, .int .i64 s.rounds, .int .i64 s.fuel] 31))
  unfold St.val
  rw [hnb, hrn, hdn]
  clear hbx hwb hnb hrn hdn hcl hC h
  go_enter Try.func14, Try.ntmps14
  go_wp2_with fail
  rw [← HBX.out, ← HWE.out]
  go_loopw [3] (fun iv wr => ∃ i : Nat, i ≤ bodies.length ∧ iv = .int .i64 (i : Int) ∧ ((codes bodies polys).take i).all (fun e => e == 0) = true ∧ Fr [] wb wr) (fun iv _ => bodies.length - (intOf iv).toNat)
  case atStart => exact ⟨0, by omega, rfl, rfl, Fr.refl _ _⟩
  case round =>
    obtain ⟨i, hi, rfl, ht, hf⟩ := hrel
    have HT := Lib.hid ht
    have HF := Lib.hid hf
    have c1 := (cell_blk (hf.blk HBB.out (by simp)) 1).trans HC1.out
    clear ht hf
    by_cases hil : i < bodies.length
    · obtain ⟨d, hd⟩ : ∃ d, d = bodies[i] := ⟨_, rfl⟩
      obtain ⟨g, off, hbo, hg, k0, k1, k2, k3, k4, k5, k6, k7, k8⟩ := (HK.out.bod.old (HWB.out.trans HF.out (by simp [Ext]))).rd.body hil hd
      have hip : i < polys.length := by have := HPL.out; omega
      obtain ⟨e1, e2, e3⟩ := (HK.out.old (HWB.out.trans HF.out (by simp [Ext]))).sh i hil hip
      rw [← hd] at e1 e3
      obtain ⟨t, htt⟩ : ∃ t, t = shB d.rad polys[i] := ⟨_, rfl⟩
      have HCS := Lib.hid (fun (u : World) (hu : Fr [] wr u) => (by have hh := rvalid_any u d.rad d.po d.pc polys[i] e2 (e3.fr hu (by simp)); rw [← htt, ← e1] at hh; exact hh : Calls Try.prog 42 #[.agg #[.int .i64 d.rad, .slice d.po d.pn d.pc]] u fun e w' => e = .returned (.bool t) ∧ Fr [] u w'))
      have HCI := Lib.hid (by simp only [codes, List.getElem_zipWith]; rw [← hd]; unfold shV; rw [← htt] : (codes bodies polys)[i]'(by have := HCL.out; omega) = if t then 0 else 10)
      rw [hbo] at c1
      have hii : (i : Int) < (bodies.length : Int) := by omega
      clear hd hbo e1 e2 e3 htt k2 k3 k4 k5 k6 k7 k8
      go_wp2_with fail
      refine (HCS.out _ (Fr.refl _ _)).mono ?_
      rintro e w2 ⟨rfl, f2⟩
      have F2 := Lib.hid (HF.out.trans f2 (by simp [Ext]))
      clear f2
      cases t
      · go_wp2_with fail
        go_ret
        exact ⟨congrArg (fun x => Ending.returned (.int .i64 x)) (by
          unfold validB
          rw [not_all_of (by have := HCL.out; omega : i < (codes bodies polys).length) (by rw [HCI.out]; rfl)]; rfl), HWB.out.trans F2.out (by simp [Ext])⟩
      · go_wp2_with fail
        go_roundw
        case rel => exact ⟨i + 1, by omega, by go_num, all_snoc (by have := HCL.out; omega) HT.out (by rw [HCI.out]; rfl), F2.out⟩
        case measure => simp [intOf]; omega
    · have hke : (codes bodies polys).take i = codes bodies polys := List.take_of_length_le (by have := HCL.out; omega)
      rw [hke] at HT
      have HV := Lib.hid (by unfold validB; rw [if_pos HT.out]; rfl : validB s bodies (codes bodies polys) rooms doors = if restB s bodies rooms doors then 0 else 11)
      have HBAD := Lib.hid (fun (hh : restB s bodies rooms doors = false) => (by rw [HV.out, hh]; rfl : validB s bodies (codes bodies polys) rooms doors = 11))
      have c0 := (cell_blk (HF.out.blk HBB.out (by simp)) 0).trans HC0.out
      have c6 := (cell_blk (HF.out.blk HBB.out (by simp)) 6).trans HC6.out
      have c7 := (cell_blk (HF.out.blk HBB.out (by simp)) 7).trans HC7.out
      have hil' : ¬ (i : Int) < (bodies.length : Int) := by omega
      clear hke hi hil
      by_cases q0 : s.players < 1
      case pos =>
        go_wp2_with fail
        go_ret
        exact ⟨congrArg (fun x => Ending.returned (.int .i64 x)) (HBAD.out (rest_n (nums_n1 (by unfold n1 inB; exact decide_eq_false (by omega))))).symm, HWB.out.trans HF.out (by simp [Ext])⟩
      case neg =>
      by_cases q1 : 8 < s.players
      case pos =>
        go_wp2_with fail
        go_ret
        exact ⟨congrArg (fun x => Ending.returned (.int .i64 x)) (HBAD.out (rest_n (nums_n1 (by unfold n1 inB; exact decide_eq_false (by omega))))).symm, HWB.out.trans HF.out (by simp [Ext])⟩
      case neg =>
      by_cases q2 : (bodies.length : Int) < s.players
      case pos =>
        go_wp2_with fail
        go_ret
        exact ⟨congrArg (fun x => Ending.returned (.int .i64 x)) (HBAD.out (rest_n (nums_n2 (by rw [HN2.out]; unfold inB; exact decide_eq_false (by omega))))).symm, HWB.out.trans HF.out (by simp [Ext])⟩
      case neg =>
      by_cases q3 : 24 < (bodies.length : Int)
      case pos =>
        go_wp2_with fail
        go_ret
        exact ⟨congrArg (fun x => Ending.returned (.int .i64 x)) (HBAD.out (rest_n (nums_n2 (by rw [HN2.out]; unfold inB; exact decide_eq_false (by omega))))).symm, HWB.out.trans HF.out (by simp [Ext])⟩
      case neg =>
      by_cases q4 : 8 < (rooms.length : Int)
      case pos =>
        go_wp2_with fail
        go_ret
        exact ⟨congrArg (fun x => Ending.returned (.int .i64 x)) (HBAD.out (rest_m (map_rl (by omega)))).symm, HWB.out.trans HF.out (by simp [Ext])⟩
      case neg =>
      by_cases q5 : 16 < (doors.length : Int)
      case pos =>
        go_wp2_with fail
        go_ret
        exact ⟨congrArg (fun x => Ending.returned (.int .i64 x)) (HBAD.out (rest_m (map_dl (by omega)))).symm, HWB.out.trans HF.out (by simp [Ext])⟩
      case neg =>
      have HN1 := Lib.hid (by unfold n1 inB; exact decide_eq_true (by omega) : n1 s = true)
      have HN2' := Lib.hid (by rw [HN2.out]; unfold inB; exact decide_eq_true (by omega) : n2 s = true)
      have HRL := Lib.hid (by omega : rooms.length ≤ 8)
      have HDL := Lib.hid (by omega : doors.length ≤ 16)
      have c2 := (cell_blk (HF.out.blk HBB.out (by simp)) 2).trans HC2.out
      have c3 := (cell_blk (HF.out.blk HBB.out (by simp)) 3).trans HC3.out
      have c4 := (cell_blk (HF.out.blk HBB.out (by simp)) 4).trans HC4.out
      have c5 := (cell_blk (HF.out.blk HBB.out (by simp)) 5).trans HC5.out
      obtain ⟨tp, htp⟩ : ∃ t, t = properB s.x0 s.y0 s.x1 s.y1 := ⟨_, rfl⟩
      have HPR := Lib.hid (fun (u : World) => (by rw [htp]; exact rproper_any u _ _ _ _ : Calls Try.prog 43 #[.agg #[.int .i64 s.x0, .int .i64 s.y0, .int .i64 s.x1, .int .i64 s.y1]] u fun e w' => e = .returned (.bool tp) ∧ Fr [] u w'))
      have HTP := Lib.hid htp
      clear htp
      go_wp2_with fail
      refine (HPR.out _).mono ?_
      rintro e w3 ⟨rfl, f3⟩
      have F3 := Lib.hid (HF.out.trans f3 (by simp [Ext]))
      clear f3 c0 c1 c2 c3 c4 c5 c6 c7 q0 q1 q2 q3 q4 q5 hil'
      cases tp
      · go_wp2_with fail
        go_ret
        exact ⟨congrArg (fun x => Ending.returned (.int .i64 x)) (HBAD.out (rest_p HTP.out.symm)).symm, HWB.out.trans F3.out (by simp [Ext])⟩
      have c1 := (cell_blk (F3.out.blk HBB.out (by simp)) 1).trans HC1.out
      go_wp2_with fail
      clear c1
      go_loopw [6] (fun iv wr2 => ∃ j : Nat, j ≤ bodies.length ∧ iv = .int .i64 (j : Int) ∧ (bodies.take j).all (fun d => bodyB d s.x0 s.y0 s.x1 s.y1) = true ∧ Fr [] wb wr2) (fun iv _ => bodies.length - (intOf iv).toNat)
      case atStart => exact ⟨0, by omega, rfl, rfl, F3.out⟩
      case round =>
        obtain ⟨j, hj, rfl, ht2, hf2⟩ := hrel
        have HT2 := Lib.hid ht2
        have HF2 := Lib.hid hf2
        have c1 := (cell_blk (hf2.blk HBB.out (by simp)) 1).trans HC1.out
        clear ht2 hf2
        by_cases hjl : j < bodies.length
        · obtain ⟨d, hd⟩ : ∃ d, d = bodies[j] := ⟨_, rfl⟩
          obtain ⟨g, off, hbo, hg, k0, k1, k2, k3, k4, k5, k6, k7, k8⟩ := (HK.out.bod.old (HWB.out.trans HF2.out (by simp [Ext]))).rd.body hjl hd
          have HD := Lib.hid hd
          rw [hbo] at c1
          have hjj : (j : Int) < (bodies.length : Int) := by omega
          have HFB := Lib.hid ((HF2.out.alloc (.cells #[.int .i64 d.rad, .slice d.po d.pn d.pc, .int .i64 d.px, .int .i64 d.py, .int .i64 d.vx, .int .i64 d.vy, .int .i64 d.im, .int .i64 d.a, .int .i64 d.b] 52)).alloc (.cells #[.int .i64 d.px, .int .i64 d.py, .int .i64 d.vx, .int .i64 d.vy, .int .i64 d.im] 50))
          have HBB2 := Lib.hid (fun (hh : bodyB d s.x0 s.y0 s.x1 s.y1 = false) => rest_b (rooms := rooms) (doors := doors) (not_all_of (p := fun d => bodyB d s.x0 s.y0 s.x1 s.y1) hjl (by rw [← HD.out]; exact hh)))
          have c2 := (cell_blk (HFB.out.blk HBB.out (by simp)) 2).trans HC2.out
          have c3 := (cell_blk (HFB.out.blk HBB.out (by simp)) 3).trans HC3.out
          have c4 := (cell_blk (HFB.out.blk HBB.out (by simp)) 4).trans HC4.out
          have c5 := (cell_blk (HFB.out.blk HBB.out (by simp)) 5).trans HC5.out
          obtain ⟨t0, ht0⟩ : ∃ t, t = inB 0 4096 d.im := ⟨_, rfl⟩
          have H0 := Lib.hid (fun (u : World) => (by rw [ht0]; exact rin_any u _ _ _ : Calls Try.prog 44 #[.int .i64 d.im, .int .i64 0, .int .i64 4096] u fun e w' => e = .returned (.bool t0) ∧ w' = u))
          obtain ⟨t1, ht1⟩ : ∃ t, t = inB (-16384) 16384 d.vx := ⟨_, rfl⟩
          have H1 := Lib.hid (fun (u : World) => (by rw [ht1]; exact rin_any u _ _ _ : Calls Try.prog 44 #[.int .i64 d.vx, .int .i64 (-16384), .int .i64 16384] u fun e w' => e = .returned (.bool t1) ∧ w' = u))
          obtain ⟨t2, ht2⟩ : ∃ t, t = inB (-16384) 16384 d.vy := ⟨_, rfl⟩
          have H2 := Lib.hid (fun (u : World) => (by rw [ht2]; exact rin_any u _ _ _ : Calls Try.prog 44 #[.int .i64 d.vy, .int .i64 (-16384), .int .i64 16384] u fun e w' => e = .returned (.bool t2) ∧ w' = u))
          obtain ⟨t3, ht3⟩ : ∃ t, t = inB s.x0 s.x1 d.px := ⟨_, rfl⟩
          have H3 := Lib.hid (fun (u : World) => (by rw [ht3]; exact rin_any u _ _ _ : Calls Try.prog 44 #[.int .i64 d.px, .int .i64 s.x0, .int .i64 s.x1] u fun e w' => e = .returned (.bool t3) ∧ w' = u))
          obtain ⟨t4, ht4⟩ : ∃ t, t = inB s.y0 s.y1 d.py := ⟨_, rfl⟩
          have H4 := Lib.hid (fun (u : World) => (by rw [ht4]; exact rin_any u _ _ _ : Calls Try.prog 44 #[.int .i64 d.py, .int .i64 s.y0, .int .i64 s.y1] u fun e w' => e = .returned (.bool t4) ∧ w' = u))
          obtain ⟨t5, ht5⟩ : ∃ t, t = inB (-2147483647) 2147483647 d.a := ⟨_, rfl⟩
          have H5 := Lib.hid (fun (u : World) => (by rw [ht5]; exact rin_any u _ _ _ : Calls Try.prog 44 #[.int .i64 d.a, .int .i64 (-2147483647), .int .i64 2147483647] u fun e w' => e = .returned (.bool t5) ∧ w' = u))
          obtain ⟨t6, ht6⟩ : ∃ t, t = inB (-2147483647) 2147483647 d.b := ⟨_, rfl⟩
          have H6 := Lib.hid (fun (u : World) => (by rw [ht6]; exact rin_any u _ _ _ : Calls Try.prog 44 #[.int .i64 d.b, .int .i64 (-2147483647), .int .i64 2147483647] u fun e w' => e = .returned (.bool t6) ∧ w' = u))
          have HBY := Lib.hid (by unfold bodyB d1 d2 d3 d4 d5; rw [← ht0, ← ht1, ← ht2, ← ht3, ← ht4, ← ht5, ← ht6] : bodyB d s.x0 s.y0 s.x1 s.y1 = (t0 && (t1 && t2) && t3 && t4 && (t5 && t6)))
          clear hd hbo hg ht0 ht1 ht2 ht3 ht4 ht5 ht6
          go_wp2_with fail
          refine (H0.out _).mono ?_
          rintro e u90 ⟨rfl, rfl⟩
          cases t0
          · go_wp2_with fail
            go_ret
            exact ⟨congrArg (fun x => Ending.returned (.int .i64 x)) (HBAD.out (HBB2.out (by rw [HBY.out]; simp))).symm, HWB.out.trans HFB.out (by simp [Ext])⟩
          go_wp2_with fail
          refine (H1.out _).mono ?_
          rintro e u91 ⟨rfl, rfl⟩
          cases t1
          · go_wp2_with fail
            go_ret
            exact ⟨congrArg (fun x => Ending.returned (.int .i64 x)) (HBAD.out (HBB2.out (by rw [HBY.out]; simp))).symm, HWB.out.trans HFB.out (by simp [Ext])⟩
          go_wp2_with fail
          refine (H2.out _).mono ?_
          rintro e u92 ⟨rfl, rfl⟩
          cases t2
          · go_wp2_with fail
            go_ret
            exact ⟨congrArg (fun x => Ending.returned (.int .i64 x)) (HBAD.out (HBB2.out (by rw [HBY.out]; simp))).symm, HWB.out.trans HFB.out (by simp [Ext])⟩
          go_wp2_with fail
          refine (H3.out _).mono ?_
          rintro e u93 ⟨rfl, rfl⟩
          cases t3
          · go_wp2_with fail
            go_ret
            exact ⟨congrArg (fun x => Ending.returned (.int .i64 x)) (HBAD.out (HBB2.out (by rw [HBY.out]; simp))).symm, HWB.out.trans HFB.out (by simp [Ext])⟩
          go_wp2_with fail
          refine (H4.out _).mono ?_
          rintro e u94 ⟨rfl, rfl⟩
          cases t4
          · go_wp2_with fail
            go_ret
            exact ⟨congrArg (fun x => Ending.returned (.int .i64 x)) (HBAD.out (HBB2.out (by rw [HBY.out]; simp))).symm, HWB.out.trans HFB.out (by simp [Ext])⟩
          go_wp2_with fail
          refine (H5.out _).mono ?_
          rintro e u95 ⟨rfl, rfl⟩
          cases t5
          · go_wp2_with fail
            go_ret
            exact ⟨congrArg (fun x => Ending.returned (.int .i64 x)) (HBAD.out (HBB2.out (by rw [HBY.out]; simp))).symm, HWB.out.trans HFB.out (by simp [Ext])⟩
          go_wp2_with fail
          refine (H6.out _).mono ?_
          rintro e u96 ⟨rfl, rfl⟩
          cases t6
          · go_wp2_with fail
            go_ret
            exact ⟨congrArg (fun x => Ending.returned (.int .i64 x)) (HBAD.out (HBB2.out (by rw [HBY.out]; simp))).symm, HWB.out.trans HFB.out (by simp [Ext])⟩
          go_wp2_with fail
          go_roundw
          case rel => exact ⟨j + 1, by omega, by go_num, all_snoc hjl HT2.out (by rw [← HD.out, HBY.out]; rfl), HFB.out⟩
          case measure => simp [intOf]; omega
        · have hke : bodies.take j = bodies := List.take_of_length_le (by omega)
          rw [hke] at HT2
          have hjl' : ¬ (j : Int) < (bodies.length : Int) := by omega
          have c6 := (cell_blk (HF2.out.blk HBB.out (by simp)) 6).trans HC6.out
          clear hke
          go_wp2_with fail
          clear c1 c6 hj hjl
          go_loopw [9] (fun iv wr3 => ∃ j : Nat, j ≤ rooms.length ∧ iv = .int .i64 (j : Int) ∧ (rooms.take j).all Bx.ok = true ∧ Fr [] wb wr3) (fun iv _ => rooms.length - (intOf iv).toNat)
          case atStart => exact ⟨0, by omega, rfl, rfl, HF2.out⟩
          case round =>
            obtain ⟨q, hq, rfl, ht3, hf3⟩ := hrel
            have HT3 := Lib.hid ht3
            have HF3 := Lib.hid hf3
            have c6 := (cell_blk (hf3.blk HBB.out (by simp)) 6).trans HC6.out
            clear ht3 hf3
            by_cases hql : q < rooms.length
            · obtain ⟨g, off, hro, hg, k0, k1, k2, k3⟩ := (HK.out.map.old (HWB.out.trans HF3.out (by simp [Ext]))).rr.room hql
              obtain ⟨r, hr⟩ : ∃ r, r = rooms[q] := ⟨_, rfl⟩
              rw [← hr] at k0 k1 k2 k3
              rw [hro] at c6
              obtain ⟨t, ht⟩ : ∃ t, t = properB r.x0 r.y0 r.x1 r.y1 := ⟨_, rfl⟩
              have HPQ := Lib.hid (fun (u : World) => (by rw [ht]; exact rproper_any u _ _ _ _ : Calls Try.prog 43 #[.agg #[.int .i64 r.x0, .int .i64 r.y0, .int .i64 r.x1, .int .i64 r.y1]] u fun e w' => e = .returned (.bool t) ∧ Fr [] u w'))
              have HOK := Lib.hid (by rw [← hr, ht]; rfl : Bx.ok rooms[q] = t)
              have hqq : (q : Int) < (rooms.length : Int) := by omega
              clear hr hro ht hg
              go_wp2_with fail
              refine (HPQ.out _).mono ?_
              rintro e w4 ⟨rfl, f4⟩
              have F4 := Lib.hid (HF3.out.trans f4 (by simp [Ext]))
              clear f4
              cases t
              · go_wp2_with fail
                go_ret
                exact ⟨congrArg (fun x => Ending.returned (.int .i64 x)) (HBAD.out (rest_m (map_r (not_all_of hql HOK.out)))).symm, HWB.out.trans F4.out (by simp [Ext])⟩
              · go_wp2_with fail
                go_roundw
                case rel => exact ⟨q + 1, by omega, by go_num, all_snoc hql HT3.out HOK.out, F4.out⟩
                case measure => simp [intOf]; omega
            · have hke : rooms.take q = rooms := List.take_of_length_le (by omega)
              rw [hke] at HT3
              have hql' : ¬ (q : Int) < (rooms.length : Int) := by omega
              have c7 := (cell_blk (HF3.out.blk HBB.out (by simp)) 7).trans HC7.out
              clear hke
              go_wp2_with fail
              clear c6 c7 hq hql
              go_loopw [11] (fun iv wr4 => ∃ j : Nat, j ≤ doors.length ∧ iv = .int .i64 (j : Int) ∧ (doors.take j).all (drOk ((rooms.length : Int) - 1)) = true ∧ Fr [] wb wr4) (fun iv _ => doors.length - (intOf iv).toNat)
              case atStart => exact ⟨0, by omega, rfl, rfl, HF3.out⟩
              case round =>
                obtain ⟨p, hp, rfl, ht4, hf4⟩ := hrel
                have HT4 := Lib.hid ht4
                have HF4 := Lib.hid hf4
                have c7 := (cell_blk (hf4.blk HBB.out (by simp)) 7).trans HC7.out
                clear ht4 hf4
                by_cases hpl : p < doors.length
                · obtain ⟨g, off, hdo, hg, k0, k1⟩ := (HK.out.map.old (HWB.out.trans HF4.out (by simp [Ext]))).dr.door hpl
                  obtain ⟨r, hr⟩ : ∃ r, r = doors[p] := ⟨_, rfl⟩
                  rw [← hr] at k0 k1
                  rw [hdo] at c7
                  have HR := Lib.hid hr
                  have hpp : (p : Int) < (doors.length : Int) := by omega
                  have HF5 := Lib.hid (HF4.out.alloc (.cells #[.int .i64 r.1, .int .i64 r.2] 68))
                  have c6 := (cell_blk (HF5.out.blk HBB.out (by simp)) 6).trans HC6.out
                  have HDB := Lib.hid (fun (hh : drOk ((rooms.length : Int) - 1) r = false) => rest_m (s := s) (bodies := bodies) (map_d (not_all_of (p := drOk ((rooms.length : Int) - 1)) hpl (by rw [← HR.out]; exact hh))))
                  clear hr hdo hg
                  by_cases q0 : r.1 = r.2
                  case pos =>
                    have qb : (r.1 == r.2) = true := beq_iff_eq.2 q0
                    clear q0
                    go_wp2_with fail
                    go_ret
                    exact ⟨congrArg (fun x => Ending.returned (.int .i64 x)) (HBAD.out (HDB.out (by unfold drOk; rw [qb]; simp))).symm, HWB.out.trans HF5.out (by simp [Ext])⟩
                  case neg =>
                  have qb : (r.1 == r.2) = false := beq_eq_false_iff_ne.2 q0
                  by_cases q1 : r.1 < 0
                  case pos =>
                    go_wp2_with fail
                    go_ret
                    exact ⟨congrArg (fun x => Ending.returned (.int .i64 x)) (HBAD.out (HDB.out (by unfold drOk; rw [show inB 0 ((rooms.length : Int) - 1) r.1 = false from by (unfold inB; exact decide_eq_false (by omega))]; simp))).symm, HWB.out.trans HF5.out (by simp [Ext])⟩
                  case neg =>
                  by_cases q2 : r.2 < 0
                  case pos =>
                    go_wp2_with fail
                    go_ret
                    exact ⟨congrArg (fun x => Ending.returned (.int .i64 x)) (HBAD.out (HDB.out (by unfold drOk; rw [show inB 0 ((rooms.length : Int) - 1) r.2 = false from by (unfold inB; exact decide_eq_false (by omega))]; simp))).symm, HWB.out.trans HF5.out (by simp [Ext])⟩
                  case neg =>
                  by_cases q3 : (rooms.length : Int) ≤ r.1
                  case pos =>
                    go_wp2_with fail
                    go_ret
                    exact ⟨congrArg (fun x => Ending.returned (.int .i64 x)) (HBAD.out (HDB.out (by unfold drOk; rw [show inB 0 ((rooms.length : Int) - 1) r.1 = false from by (unfold inB; exact decide_eq_false (by omega))]; simp))).symm, HWB.out.trans HF5.out (by simp [Ext])⟩
                  case neg =>
                  by_cases q4 : (rooms.length : Int) ≤ r.2
                  case pos =>
                    go_wp2_with fail
                    go_ret
                    exact ⟨congrArg (fun x => Ending.returned (.int .i64 x)) (HBAD.out (HDB.out (by unfold drOk; rw [show inB 0 ((rooms.length : Int) - 1) r.2 = false from by (unfold inB; exact decide_eq_false (by omega))]; simp))).symm, HWB.out.trans HF5.out (by simp [Ext])⟩
                  case neg =>
                  have HOKD := Lib.hid (by unfold drOk inB; rw [qb, decide_eq_true (by omega), decide_eq_true (by omega)]; rfl : drOk ((rooms.length : Int) - 1) r = true)
                  go_wp2_with fail
                  go_roundw
                  case rel => exact ⟨p + 1, by omega, by go_num, all_snoc hpl HT4.out (by rw [← HR.out]; exact HOKD.out), HF5.out⟩
                  case measure => simp [intOf]; omega
                · have hke : doors.take p = doors := List.take_of_length_le (by omega)
                  rw [hke] at HT4
                  have hpl' : ¬ (p : Int) < (doors.length : Int) := by omega
                  have HMO := Lib.hid (map_ok HRL.out HDL.out HT3.out HT4.out)
                  clear hke
                  have c8 := (cell_blk (HF4.out.blk HBB.out (by simp)) 8).trans HC8.out
                  have c9 := (cell_blk (HF4.out.blk HBB.out (by simp)) 9).trans HC9.out
                  have c10 := (cell_blk (HF4.out.blk HBB.out (by simp)) 10).trans HC10.out
                  have c11 := (cell_blk (HF4.out.blk HBB.out (by simp)) 11).trans HC11.out
                  have c12 := (cell_blk (HF4.out.blk HBB.out (by simp)) 12).trans HC12.out
                  have c13 := (cell_blk (HF4.out.blk HBB.out (by simp)) 13).trans HC13.out
                  have c14 := (cell_blk (HF4.out.blk HBB.out (by simp)) 14).trans HC14.out
                  have c15 := (cell_blk (HF4.out.blk HBB.out (by simp)) 15).trans HC15.out
                  obtain ⟨t0, ht0⟩ : ∃ t, t = inB 0 4194304 s.fog := ⟨_, rfl⟩
                  have H0 := Lib.hid (fun (u : World) => (by rw [ht0]; exact rin_any u _ _ _ : Calls Try.prog 44 #[.int .i64 s.fog, .int .i64 0, .int .i64 4194304] u fun e w' => e = .returned (.bool t0) ∧ w' = u))
                  obtain ⟨t1, ht1⟩ : ∃ t, t = inB (-16384) 16384 s.gx := ⟨_, rfl⟩
                  have H1 := Lib.hid (fun (u : World) => (by rw [ht1]; exact rin_any u _ _ _ : Calls Try.prog 44 #[.int .i64 s.gx, .int .i64 (-16384), .int .i64 16384] u fun e w' => e = .returned (.bool t1) ∧ w' = u))
                  obtain ⟨t2, ht2⟩ : ∃ t, t = inB (-16384) 16384 s.gy := ⟨_, rfl⟩
                  have H2 := Lib.hid (fun (u : World) => (by rw [ht2]; exact rin_any u _ _ _ : Calls Try.prog 44 #[.int .i64 s.gy, .int .i64 (-16384), .int .i64 16384] u fun e w' => e = .returned (.bool t2) ∧ w' = u))
                  obtain ⟨t3, ht3⟩ : ∃ t, t = inB 0 16384 s.push := ⟨_, rfl⟩
                  have H3 := Lib.hid (fun (u : World) => (by rw [ht3]; exact rin_any u _ _ _ : Calls Try.prog 44 #[.int .i64 s.push, .int .i64 0, .int .i64 16384] u fun e w' => e = .returned (.bool t3) ∧ w' = u))
                  obtain ⟨t4, ht4⟩ : ∃ t, t = inB 0 1024 s.drag := ⟨_, rfl⟩
                  have H4 := Lib.hid (fun (u : World) => (by rw [ht4]; exact rin_any u _ _ _ : Calls Try.prog 44 #[.int .i64 s.drag, .int .i64 0, .int .i64 1024] u fun e w' => e = .returned (.bool t4) ∧ w' = u))
                  obtain ⟨t5, ht5⟩ : ∃ t, t = inB 0 1024 s.rest := ⟨_, rfl⟩
                  have H5 := Lib.hid (fun (u : World) => (by rw [ht5]; exact rin_any u _ _ _ : Calls Try.prog 44 #[.int .i64 s.rest, .int .i64 0, .int .i64 1024] u fun e w' => e = .returned (.bool t5) ∧ w' = u))
                  obtain ⟨t6, ht6⟩ : ∃ t, t = inB 1 4 s.rounds := ⟨_, rfl⟩
                  have H6 := Lib.hid (fun (u : World) => (by rw [ht6]; exact rin_any u _ _ _ : Calls Try.prog 44 #[.int .i64 s.rounds, .int .i64 1, .int .i64 4] u fun e w' => e = .returned (.bool t6) ∧ w' = u))
                  obtain ⟨t7, ht7⟩ : ∃ t, t = inB 0 1000 s.fuel := ⟨_, rfl⟩
                  have H7 := Lib.hid (fun (u : World) => (by rw [ht7]; exact rin_any u _ _ _ : Calls Try.prog 44 #[.int .i64 s.fuel, .int .i64 0, .int .i64 1000] u fun e w' => e = .returned (.bool t7) ∧ w' = u))
                  have HM3 := Lib.hid (by unfold n3; rw [← ht0] : n3 s = t0)
                  have HM4 := Lib.hid (by unfold n4; rw [← ht1, ← ht2] : n4 s = (t1 && t2))
                  have HM5 := Lib.hid (by unfold n5; rw [← ht3] : n5 s = t3)
                  have HM6 := Lib.hid (by unfold n6; rw [← ht4, ← ht5] : n6 s = (t4 && t5))
                  have HM7 := Lib.hid (by unfold n7; rw [← ht6] : n7 s = t6)
                  have HM8 := Lib.hid (by unfold n8; rw [← ht7] : n8 s = t7)
                  clear ht0 ht1 ht2 ht3 ht4 ht5 ht6 ht7
                  go_wp2_with fail
                  refine (H0.out _).mono ?_
                  rintro e u80 ⟨rfl, rfl⟩
                  cases t0
                  · go_wp2_with fail
                    go_ret
                    exact ⟨congrArg (fun x => Ending.returned (.int .i64 x)) (HBAD.out (rest_n (nums_n3 (by rw [HM3.out]; try simp)))).symm, HWB.out.trans HF4.out (by simp [Ext])⟩
                  go_wp2_with fail
                  refine (H1.out _).mono ?_
                  rintro e u81 ⟨rfl, rfl⟩
                  cases t1
                  · go_wp2_with fail
                    go_ret
                    exact ⟨congrArg (fun x => Ending.returned (.int .i64 x)) (HBAD.out (rest_n (nums_n4 (by rw [HM4.out]; try simp)))).symm, HWB.out.trans HF4.out (by simp [Ext])⟩
                  go_wp2_with fail
                  refine (H2.out _).mono ?_
                  rintro e u82 ⟨rfl, rfl⟩
                  cases t2
                  · go_wp2_with fail
                    go_ret
                    exact ⟨congrArg (fun x => Ending.returned (.int .i64 x)) (HBAD.out (rest_n (nums_n4 (by rw [HM4.out]; try simp)))).symm, HWB.out.trans HF4.out (by simp [Ext])⟩
                  go_wp2_with fail
                  refine (H3.out _).mono ?_
                  rintro e u83 ⟨rfl, rfl⟩
                  cases t3
                  · go_wp2_with fail
                    go_ret
                    exact ⟨congrArg (fun x => Ending.returned (.int .i64 x)) (HBAD.out (rest_n (nums_n5 (by rw [HM5.out]; try simp)))).symm, HWB.out.trans HF4.out (by simp [Ext])⟩
                  go_wp2_with fail
                  refine (H4.out _).mono ?_
                  rintro e u84 ⟨rfl, rfl⟩
                  cases t4
                  · go_wp2_with fail
                    go_ret
                    exact ⟨congrArg (fun x => Ending.returned (.int .i64 x)) (HBAD.out (rest_n (nums_n6 (by rw [HM6.out]; try simp)))).symm, HWB.out.trans HF4.out (by simp [Ext])⟩
                  go_wp2_with fail
                  refine (H5.out _).mono ?_
                  rintro e u85 ⟨rfl, rfl⟩
                  cases t5
                  · go_wp2_with fail
                    go_ret
                    exact ⟨congrArg (fun x => Ending.returned (.int .i64 x)) (HBAD.out (rest_n (nums_n6 (by rw [HM6.out]; try simp)))).symm, HWB.out.trans HF4.out (by simp [Ext])⟩
                  go_wp2_with fail
                  refine (H6.out _).mono ?_
                  rintro e u86 ⟨rfl, rfl⟩
                  cases t6
                  · go_wp2_with fail
                    go_ret
                    exact ⟨congrArg (fun x => Ending.returned (.int .i64 x)) (HBAD.out (rest_n (nums_n7 (by rw [HM7.out]; try simp)))).symm, HWB.out.trans HF4.out (by simp [Ext])⟩
                  go_wp2_with fail
                  refine (H7.out _).mono ?_
                  rintro e u87 ⟨rfl, rfl⟩
                  cases t7
                  · go_wp2_with fail
                    go_ret
                    exact ⟨congrArg (fun x => Ending.returned (.int .i64 x)) (HBAD.out (rest_n (nums_n8 (by rw [HM8.out]; try simp)))).symm, HWB.out.trans HF4.out (by simp [Ext])⟩
                  go_wp2_with fail
                  go_ret
                  exact ⟨congrArg (fun x => Ending.returned (.int .i64 x)) (by rw [HV.out, rest_ok (nums_ok HN1.out HN2'.out HM3.out HM4.out HM5.out HM6.out HM7.out HM8.out) HTP.out.symm HMO.out HT2.out]; rfl), HWB.out.trans HF4.out (by simp [Ext])⟩
end Go.Proofs.Ytlfomhknfpmhbaa
