/- Package layout: Validate. -/
import Derived.Test.YtlfomhknfpmhbaaVal3
namespace Go.Proofs.Ytlfomhknfpmhbaa
open Go.RowKit

def validB (s : St) (bodies : List Bd) (shs : List Int) (rooms : List Bx) (doors : List (Int × Int)) : Int :=
  if shs.all (fun e => e == 0) then (if numsB s && properB s.x0 s.y0 s.x1 s.y1 && mapB rooms doors && bodies.all (fun d => bodyB d s.x0 s.y0 s.x1 s.y1) then 0 else 11) else 10

structure BodiesAt (w : World) (s : St) (bodies : List Bd) : Prop where
  nb : s.nb = bodies.length
  rd : Rd w 9 s.bo bodies.length (bodies.flatMap Bd.cells)
theorem BodiesAt.old {w w' : World} {s : St} {bodies : List Bd} (h : BodiesAt w s bodies) (hf : Fr [] w w') : BodiesAt w' s bodies := ⟨h.nb, h.rd.fr hf (by simp)⟩

theorem Rd.body {w : World} {ao : Option Addr} {bodies : List Bd} (h : Rd w 9 ao bodies.length (bodies.flatMap Bd.cells)) {i : Nat} (hi : i < bodies.length) {d : Bd} (hd : d = bodies[i]) : ∃ g off, ao = some ⟨g, off, none⟩ ∧ g < w.heap.size ∧
    w.cell? ⟨g, off + i * 9, none⟩ = some (.int .i64 d.rad) ∧ w.cell? ⟨g, off + i * 9 + 1, none⟩ = some (.slice d.po d.pn d.pc) ∧ w.cell? ⟨g, off + i * 9 + 2, none⟩ = some (.int .i64 d.px) ∧ w.cell? ⟨g, off + i * 9 + 3, none⟩ = some (.int .i64 d.py) ∧ w.cell? ⟨g, off + i * 9 + 4, none⟩ = some (.int .i64 d.vx) ∧ w.cell? ⟨g, off + i * 9 + 5, none⟩ = some (.int .i64 d.vy) ∧ w.cell? ⟨g, off + i * 9 + 6, none⟩ = some (.int .i64 d.im) ∧ w.cell? ⟨g, off + i * 9 + 7, none⟩ = some (.int .i64 d.a) ∧ w.cell? ⟨g, off + i * 9 + 8, none⟩ = some (.int .i64 d.b) := by
  obtain ⟨g, off, ha, hg, hc⟩ := h.at (by omega)
  have key : ∀ j, j < 9 → w.cell? ⟨g, off + i * 9 + j, none⟩ = (Bd.cells d)[j]? := fun j hj => by
    rw [Nat.add_assoc, hc _ (by omega), flat_get Bd.cells 9 (fun _ => rfl) bodies i j hi hj, hd]
  exact ⟨g, off, ha, hg, key 0 (by omega), key 1 (by omega), key 2 (by omega), key 3 (by omega), key 4 (by omega), key 5 (by omega), key 6 (by omega), key 7 (by omega), key 8 (by omega)⟩

set_option maxRecDepth 100000 in
set_option maxHeartbeats 8000000 in
theorem validate_any (w : World) (s : St) (bodies : List Bd) (shs : List Int) (rooms : List Bx) (doors : List (Int × Int)) (h : MapAt w s rooms doors) (hb : BodiesAt w s bodies) (hsl : shs.length = bodies.length)
    (hsh : ∀ (i : Nat) (h1 : i < bodies.length) (h2 : i < shs.length) (u : World), Fr [] w u → Calls Try.prog 25 #[(bodies[i]).shape] u fun e w' => e = .returned (.int .i64 shs[i]) ∧ Fr [] u w') :
    Calls Try.prog 13 #[s.val] w fun e w' => e = .returned (.int .i64 (validB s bodies shs rooms doors)) ∧ Fr [] w w' := by
  have hbl : bodies.length ≤ 9223372036854775807 := by have := hb.rd.2.1; unfold maxLen at this; omega
  have HM := Lib.hid h
  have HB := Lib.hid hb
  have HSH := Lib.hid hsh
  have HSL := Lib.hid hsl
  have hnb : s.nb = bodies.length := hb.nb
  have HNU := Lib.hid (fun (u : World) => nums_any u s)
  have HMP := Lib.hid (fun (u : World) (hf : Fr [] w u) => vmap_any u s rooms doors (h.old hf))
  unfold St.val at HNU HMP ⊢
  rw [hnb] at HNU HMP ⊢
  clear hnb h hb hsh hsl
  obtain ⟨bx, hbx⟩ : ∃ bx, bx = w.heap.size := ⟨_, rfl⟩
  obtain ⟨wb, hwb⟩ : ∃ wb, wb = w.alloc (.cells #[.int .i64 s.players, .slice s.bo bodies.length s.bc, .int .i64 s.x0, .int .i64 s.y0, .int .i64 s.x1, .int .i64 s.y1, .slice s.ro s.rn s.rc, .slice s.dO s.dn s.dc, .int .i64 s.fog, .int .i64 s.gx, .int .i64 s.gy, .int .i64 s.push, .int .i64 s.drag, .int .i64 s.rest, .int .i64 s.rounds, .int .i64 s.fuel] 31) := ⟨_, rfl⟩
  have HBB := Lib.hid (by rw [hwb, hbx]; exact alloc_new w _ : wb.heap[bx]? = some (.cells #[.int .i64 s.players, .slice s.bo bodies.length s.bc, .int .i64 s.x0, .int .i64 s.y0, .int .i64 s.x1, .int .i64 s.y1, .slice s.ro s.rn s.rc, .slice s.dO s.dn s.dc, .int .i64 s.fog, .int .i64 s.gx, .int .i64 s.gy, .int .i64 s.push, .int .i64 s.drag, .int .i64 s.rest, .int .i64 s.rounds, .int .i64 s.fuel] 31 (0, 0)))
  have HWB := Lib.hid (by rw [hwb]; exact (Fr.refl [] w).alloc _ : Fr [] w wb)
  have HBX := Lib.hid hbx
  have HWE := Lib.hid hwb
  clear hbx hwb
  go_enter Try.func13, Try.ntmps13
  go_wp2_with fail
  rw [← HBX.out, ← HWE.out]
  go_loopw [10] (fun iv wr => ∃ i : Nat, i ≤ bodies.length ∧ iv = .int .i64 (i : Int) ∧ (shs.take i).all (fun e => e == 0) = true ∧ Fr [] wb wr) (fun iv _ => bodies.length - (intOf iv).toNat)
  case atStart => exact ⟨0, by omega, rfl, rfl, Fr.refl _ _⟩
  case round =>
    obtain ⟨i, hi, rfl, ht, hf⟩ := hrel
    have HT := Lib.hid ht
    have HF := Lib.hid hf
    by_cases hil : i < bodies.length
    · obtain ⟨d, hd⟩ : ∃ d, d = bodies[i] := ⟨_, rfl⟩
      obtain ⟨g, off, hbo, hg, k0, k1, k2, k3, k4, k5, k6, k7, k8⟩ := (HB.out.old (HWB.out.trans hf (by simp [Ext]))).rd.body hil hd
      have his : i < shs.length := by rw [HSL.out]; exact hil
      obtain ⟨er, her⟩ : ∃ er, er = shs[i] := ⟨_, rfl⟩
      have HCS := Lib.hid (fun (u : World) (hu : Fr [] w u) => (by have hh := HSH.out i hil his u hu; rw [← hd, ← her] at hh; exact hh : Calls Try.prog 25 #[.agg #[.int .i64 d.rad, .slice d.po d.pn d.pc]] u fun e w' => e = .returned (.int .i64 er) ∧ Fr [] u w'))
      have HD := Lib.hid hd
      have HER := Lib.hid her
      rw [hbo]
      have hii : (i : Int) < (bodies.length : Int) := by omega
      clear ht hf hd hbo her
      go_wp2_with fail
      refine (HCS.out _ ((HWB.out.trans HF.out (by simp [Ext])).alloc _)).mono ?_
      rintro e w2 ⟨rfl, f2⟩
      have F2 := Lib.hid ((HF.out.alloc _).trans f2 (by simp [Ext]))
      clear f2
      by_cases he : er = 0
      · have hq : (er != 0) = false := by simp [he]
        have HE0 := Lib.hid he
        clear he
        go_wp2_with fail
        go_roundw
        case rel => exact ⟨i + 1, by omega, by go_num, all_snoc his HT.out (by rw [← HER.out, HE0.out]; rfl), F2.out⟩
        case measure => simp [intOf]; omega
      · have hq : (er != 0) = true := bne_iff_ne.2 he
        have HE0 := Lib.hid he
        clear he
        go_wp2_with fail
        go_ret
        exact ⟨congrArg (fun x => Ending.returned (.int .i64 x)) (by
          unfold validB
          rw [not_all_of his (by rw [← HER.out]; simpa using HE0.out)]; rfl), HWB.out.trans F2.out (by simp [Ext])⟩
    · have hke : shs.take i = shs := List.take_of_length_le (by rw [HSL.out]; omega)
      rw [hke] at HT
      have HV := Lib.hid (by unfold validB; rw [if_pos HT.out] : validB s bodies shs rooms doors = if numsB s && properB s.x0 s.y0 s.x1 s.y1 && mapB rooms doors && bodies.all (fun d => bodyB d s.x0 s.y0 s.x1 s.y1) then 0 else 11)
      have c0 : wr.cell? ⟨bx, 0, none⟩ = some (.int .i64 s.players) := cell_blk (hf.blk HBB.out (by simp)) 0
      have c1 : wr.cell? ⟨bx, 1, none⟩ = some (.slice s.bo bodies.length s.bc) := cell_blk (hf.blk HBB.out (by simp)) 1
      have c2 : wr.cell? ⟨bx, 2, none⟩ = some (.int .i64 s.x0) := cell_blk (hf.blk HBB.out (by simp)) 2
      have c3 : wr.cell? ⟨bx, 3, none⟩ = some (.int .i64 s.y0) := cell_blk (hf.blk HBB.out (by simp)) 3
      have c4 : wr.cell? ⟨bx, 4, none⟩ = some (.int .i64 s.x1) := cell_blk (hf.blk HBB.out (by simp)) 4
      have c5 : wr.cell? ⟨bx, 5, none⟩ = some (.int .i64 s.y1) := cell_blk (hf.blk HBB.out (by simp)) 5
      have c6 : wr.cell? ⟨bx, 6, none⟩ = some (.slice s.ro s.rn s.rc) := cell_blk (hf.blk HBB.out (by simp)) 6
      have c7 : wr.cell? ⟨bx, 7, none⟩ = some (.slice s.dO s.dn s.dc) := cell_blk (hf.blk HBB.out (by simp)) 7
      have c8 : wr.cell? ⟨bx, 8, none⟩ = some (.int .i64 s.fog) := cell_blk (hf.blk HBB.out (by simp)) 8
      have c9 : wr.cell? ⟨bx, 9, none⟩ = some (.int .i64 s.gx) := cell_blk (hf.blk HBB.out (by simp)) 9
      have c10 : wr.cell? ⟨bx, 10, none⟩ = some (.int .i64 s.gy) := cell_blk (hf.blk HBB.out (by simp)) 10
      have c11 : wr.cell? ⟨bx, 11, none⟩ = some (.int .i64 s.push) := cell_blk (hf.blk HBB.out (by simp)) 11
      have c12 : wr.cell? ⟨bx, 12, none⟩ = some (.int .i64 s.drag) := cell_blk (hf.blk HBB.out (by simp)) 12
      have c13 : wr.cell? ⟨bx, 13, none⟩ = some (.int .i64 s.rest) := cell_blk (hf.blk HBB.out (by simp)) 13
      have c14 : wr.cell? ⟨bx, 14, none⟩ = some (.int .i64 s.rounds) := cell_blk (hf.blk HBB.out (by simp)) 14
      have c15 : wr.cell? ⟨bx, 15, none⟩ = some (.int .i64 s.fuel) := cell_blk (hf.blk HBB.out (by simp)) 15
      obtain ⟨t1, ht1⟩ : ∃ t, t = numsB s := ⟨_, rfl⟩
      obtain ⟨t2, ht2⟩ : ∃ t, t = properB s.x0 s.y0 s.x1 s.y1 := ⟨_, rfl⟩
      obtain ⟨t3, ht3⟩ : ∃ t, t = mapB rooms doors := ⟨_, rfl⟩
      have HPR := Lib.hid (fun (u : World) => (by rw [ht2]; exact proper_any u s.x0 s.y0 s.x1 s.y1 : Calls Try.prog 39 #[.agg #[.int .i64 s.x0, .int .i64 s.y0, .int .i64 s.x1, .int .i64 s.y1]] u fun e w' => e = .returned (.bool t2) ∧ Fr [] u w'))
      rw [← ht1] at HNU HV
      rw [← ht3] at HMP HV
      rw [← ht2] at HV
      clear ht hf hke ht1 ht2 ht3
      go_wp2_with fail
      refine (HNU.out _).mono ?_
      rintro e w2 ⟨rfl, f2⟩
      have F2 := Lib.hid (HF.out.trans f2 (by simp [Ext]))
      clear f2 c0 c1 c2 c3 c4 c5 c6 c7 c8 c9 c10 c11 c12 c13 c14 c15
      cases t1
      · go_wp2_with fail
        go_ret
        exact ⟨congrArg (fun x => Ending.returned (.int .i64 x)) (by rw [HV.out]; rfl), HWB.out.trans F2.out (by simp [Ext])⟩
      have c2 : w2.cell? ⟨bx, 2, none⟩ = some (.int .i64 s.x0) := cell_blk (F2.out.blk HBB.out (by simp)) 2
      have c3 : w2.cell? ⟨bx, 3, none⟩ = some (.int .i64 s.y0) := cell_blk (F2.out.blk HBB.out (by simp)) 3
      have c4 : w2.cell? ⟨bx, 4, none⟩ = some (.int .i64 s.x1) := cell_blk (F2.out.blk HBB.out (by simp)) 4
      have c5 : w2.cell? ⟨bx, 5, none⟩ = some (.int .i64 s.y1) := cell_blk (F2.out.blk HBB.out (by simp)) 5
      go_wp2_with fail
      refine (HPR.out _).mono ?_
      rintro e w3 ⟨rfl, f3⟩
      have F3 := Lib.hid (F2.out.trans f3 (by simp [Ext]))
      clear f3 c2 c3 c4 c5
      cases t2
      · go_wp2_with fail
        go_ret
        exact ⟨congrArg (fun x => Ending.returned (.int .i64 x)) (by rw [HV.out]; rfl), HWB.out.trans F3.out (by simp [Ext])⟩
      have c0 : w3.cell? ⟨bx, 0, none⟩ = some (.int .i64 s.players) := cell_blk (F3.out.blk HBB.out (by simp)) 0
      have c1 : w3.cell? ⟨bx, 1, none⟩ = some (.slice s.bo bodies.length s.bc) := cell_blk (F3.out.blk HBB.out (by simp)) 1
      have c2 : w3.cell? ⟨bx, 2, none⟩ = some (.int .i64 s.x0) := cell_blk (F3.out.blk HBB.out (by simp)) 2
      have c3 : w3.cell? ⟨bx, 3, none⟩ = some (.int .i64 s.y0) := cell_blk (F3.out.blk HBB.out (by simp)) 3
      have c4 : w3.cell? ⟨bx, 4, none⟩ = some (.int .i64 s.x1) := cell_blk (F3.out.blk HBB.out (by simp)) 4
      have c5 : w3.cell? ⟨bx, 5, none⟩ = some (.int .i64 s.y1) := cell_blk (F3.out.blk HBB.out (by simp)) 5
      have c6 : w3.cell? ⟨bx, 6, none⟩ = some (.slice s.ro s.rn s.rc) := cell_blk (F3.out.blk HBB.out (by simp)) 6
      have c7 : w3.cell? ⟨bx, 7, none⟩ = some (.slice s.dO s.dn s.dc) := cell_blk (F3.out.blk HBB.out (by simp)) 7
      have c8 : w3.cell? ⟨bx, 8, none⟩ = some (.int .i64 s.fog) := cell_blk (F3.out.blk HBB.out (by simp)) 8
      have c9 : w3.cell? ⟨bx, 9, none⟩ = some (.int .i64 s.gx) := cell_blk (F3.out.blk HBB.out (by simp)) 9
      have c10 : w3.cell? ⟨bx, 10, none⟩ = some (.int .i64 s.gy) := cell_blk (F3.out.blk HBB.out (by simp)) 10
      have c11 : w3.cell? ⟨bx, 11, none⟩ = some (.int .i64 s.push) := cell_blk (F3.out.blk HBB.out (by simp)) 11
      have c12 : w3.cell? ⟨bx, 12, none⟩ = some (.int .i64 s.drag) := cell_blk (F3.out.blk HBB.out (by simp)) 12
      have c13 : w3.cell? ⟨bx, 13, none⟩ = some (.int .i64 s.rest) := cell_blk (F3.out.blk HBB.out (by simp)) 13
      have c14 : w3.cell? ⟨bx, 14, none⟩ = some (.int .i64 s.rounds) := cell_blk (F3.out.blk HBB.out (by simp)) 14
      have c15 : w3.cell? ⟨bx, 15, none⟩ = some (.int .i64 s.fuel) := cell_blk (F3.out.blk HBB.out (by simp)) 15
      go_wp2_with fail
      refine (HMP.out _ (HWB.out.trans F3.out (by simp [Ext]))).mono ?_
      rintro e w4 ⟨rfl, f4⟩
      have F4 := Lib.hid (F3.out.trans f4 (by simp [Ext]))
      clear f4 c0 c1 c2 c3 c4 c5 c6 c7 c8 c9 c10 c11 c12 c13 c14 c15
      cases t3
      · go_wp2_with fail
        go_ret
        exact ⟨congrArg (fun x => Ending.returned (.int .i64 x)) (by rw [HV.out]; rfl), HWB.out.trans F4.out (by simp [Ext])⟩
      have HV2 := Lib.hid (by rw [HV.out]; simp : validB s bodies shs rooms doors = if bodies.all (fun d => bodyB d s.x0 s.y0 s.x1 s.y1) then 0 else 11)
      have c1 : w4.cell? ⟨bx, 1, none⟩ = some (.slice s.bo bodies.length s.bc) := cell_blk (F4.out.blk HBB.out (by simp)) 1
      go_wp2_with fail
      clear c1
      go_loopw [36] (fun iv wr2 => ∃ j : Nat, j ≤ bodies.length ∧ iv = .int .i64 (j : Int) ∧ (bodies.take j).all (fun d => bodyB d s.x0 s.y0 s.x1 s.y1) = true ∧ Fr [] wb wr2) (fun iv _ => bodies.length - (intOf iv).toNat)
      case atStart => exact ⟨0, by omega, rfl, rfl, F4.out⟩
      case round =>
        obtain ⟨j, hj, rfl, ht2, hf2⟩ := hrel
        have HT2 := Lib.hid ht2
        have HF2 := Lib.hid hf2
        by_cases hjl : j < bodies.length
        · obtain ⟨d, hd⟩ : ∃ d, d = bodies[j] := ⟨_, rfl⟩
          obtain ⟨g, off, hbo, hg, k0, k1, k2, k3, k4, k5, k6, k7, k8⟩ := (HB.out.old (HWB.out.trans hf2 (by simp [Ext]))).rd.body hjl hd
          obtain ⟨t, htt⟩ : ∃ t, t = bodyB d s.x0 s.y0 s.x1 s.y1 := ⟨_, rfl⟩
          have HVB := Lib.hid (fun (u : World) => (by have hh := vbody_any u d s.x0 s.y0 s.x1 s.y1; rw [← htt] at hh; exact hh : Calls Try.prog 41 #[.agg #[.int .i64 d.rad, .slice d.po d.pn d.pc, .int .i64 d.px, .int .i64 d.py, .int .i64 d.vx, .int .i64 d.vy, .int .i64 d.im, .int .i64 d.a, .int .i64 d.b], .agg #[.int .i64 s.x0, .int .i64 s.y0, .int .i64 s.x1, .int .i64 s.y1]] u fun e w' => e = .returned (.bool t) ∧ Fr [] u w'))
          have HD := Lib.hid hd
          have HTT := Lib.hid htt
          rw [hbo]
          have hjj : (j : Int) < (bodies.length : Int) := by omega
          have c2 : (wr.alloc (.cells #[.int .i64 d.rad, .slice d.po d.pn d.pc, .int .i64 d.px, .int .i64 d.py, .int .i64 d.vx, .int .i64 d.vy, .int .i64 d.im, .int .i64 d.a, .int .i64 d.b] 52)).cell? ⟨bx, 2, none⟩ = some (.int .i64 s.x0) := cell_blk (alloc_old (hf2.blk HBB.out (by simp))) 2
          have c3 : (wr.alloc (.cells #[.int .i64 d.rad, .slice d.po d.pn d.pc, .int .i64 d.px, .int .i64 d.py, .int .i64 d.vx, .int .i64 d.vy, .int .i64 d.im, .int .i64 d.a, .int .i64 d.b] 52)).cell? ⟨bx, 3, none⟩ = some (.int .i64 s.y0) := cell_blk (alloc_old (hf2.blk HBB.out (by simp))) 3
          have c4 : (wr.alloc (.cells #[.int .i64 d.rad, .slice d.po d.pn d.pc, .int .i64 d.px, .int .i64 d.py, .int .i64 d.vx, .int .i64 d.vy, .int .i64 d.im, .int .i64 d.a, .int .i64 d.b] 52)).cell? ⟨bx, 4, none⟩ = some (.int .i64 s.x1) := cell_blk (alloc_old (hf2.blk HBB.out (by simp))) 4
          have c5 : (wr.alloc (.cells #[.int .i64 d.rad, .slice d.po d.pn d.pc, .int .i64 d.px, .int .i64 d.py, .int .i64 d.vx, .int .i64 d.vy, .int .i64 d.im, .int .i64 d.a, .int .i64 d.b] 52)).cell? ⟨bx, 5, none⟩ = some (.int .i64 s.y1) := cell_blk (alloc_old (hf2.blk HBB.out (by simp))) 5
          clear ht2 hf2 hd hbo htt
          go_wp2_with fail
          refine (HVB.out _).mono ?_
          rintro e w5 ⟨rfl, f5⟩
          have F5 := Lib.hid ((HF2.out.alloc _).trans f5 (by simp [Ext]))
          clear f5
          cases t
          · go_wp2_with fail
            go_ret
            exact ⟨congrArg (fun x => Ending.returned (.int .i64 x)) (by
              rw [HV2.out, not_all_of hjl (by rw [← HD.out]; exact HTT.out.symm)]; rfl), HWB.out.trans F5.out (by simp [Ext])⟩
          · go_wp2_with fail
            go_roundw
            case rel => exact ⟨j + 1, by omega, by go_num, all_snoc hjl HT2.out (by rw [← HD.out]; exact HTT.out.symm), F5.out⟩
            case measure => simp [intOf]; omega
        · have hke2 : bodies.take j = bodies := List.take_of_length_le (by omega)
          rw [hke2] at HT2
          clear ht2 hf2 hke2
          go_wp2_with fail
          go_ret
          exact ⟨congrArg (fun x => Ending.returned (.int .i64 x)) (by rw [HV2.out, if_pos HT2.out]), HWB.out.trans HF2.out (by simp [Ext])⟩
end Go.Proofs.Ytlfomhknfpmhbaa
