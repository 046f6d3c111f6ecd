/- LayoutInitial returns true. -/
import Derived.Test.YtlfomhknfpmhbaaInitialL
import Derived.Test.YtlfomhknfpmhbaaSame
namespace Go.Proofs.Ytlfomhknfpmhbaa
open Go.RowKit

set_option maxRecDepth 100000 in
set_option maxHeartbeats 8000000 in
theorem inilaw_walk (w : World) (lo : Option Addr) (lc : Nat) (l : List Int) (hrd : Rd w 1 lo l.length (ints l)) (hb : ∀ x ∈ l, bounded x) :
    Calls Try.prog 9 #[.slice lo l.length lc] w fun e w' => e = .returned (.bool true) ∧ Fr [] w w' := by
  have HSU := Lib.hid (setup_any w lo lc l hrd hb)
  clear hrd hb
  go_enter Try.func9, Try.ntmps9
  go_wp2_with fail
  refine HSU.out.mono ?_
  rintro e w1 ⟨s, bodies, doors, rfl, hs⟩
  have hok := hs.ok
  have F1 := Lib.hid hs.fr
  obtain ⟨pl, hpl⟩ : ∃ pl : Nat, s.players = (pl : Int) := ⟨s.players.toNat, by have := hs.num.1; omega⟩
  have hpl3 : pl ≤ 3 := by have := hs.num.1; omega
  have hpl1 : 1 ≤ pl := by have := hs.num.1; omega
  have h5 := hs.b5
  have hb1 : 0 < bodies.length := by have := hs.pn; omega
  have hnbe := hs.nb
  obtain ⟨bg, boff, cur, hbo, -, -, -, -⟩ := hs.seg.at (by have := hs.seg.2.2.1; omega)
  have HBD := Lib.hid (⟨hnbe, hs.seg.rd⟩ : BodiesAt w1 s bodies)
  have HIN := Lib.hid (fun (u : World) (hf : Fr [] w1 u) => initial_any u s bodies hok pl hpl (by omega) (HBD.out.old hf) (by omega))
  have HRI := Lib.hid (fun (u : World) (hf : Fr [] w1 u) => rinitial_any u s bodies hok pl hpl (by omega) (HBD.out.old hf) (by omega))
  obtain ⟨n, hn⟩ : ∃ n, n = 48 + 4 * pl + 8 * bodies.length := ⟨_, rfl⟩
  have hll := initL_len pl bodies
  have HMO := Lib.hid (fun (u : World) (hf : Fr [] w1 u) (b : Nat) (hr : u.heap[b]? = some (row (initL pl bodies))) (i : Nat) (hi : i < bodies.length) => (by
    have h := motion_any u s bodies (some ⟨b, 0, none⟩) n (initL pl bodies) ⟨hok, by omega, HBD.out.old hf, (row_seg hr (by rw [hll]; unfold maxLen; omega)).rd, by rw [hll, hn]; exact Nat.le_refl _, by rw [hn]; unfold maxLen; omega⟩ (by rw [hll]; omega) (i : Int)
    rw [mot_init s pl hpl bodies hnbe i hi, hll, ← hn] at h
    exact h : Calls Try.prog 28 #[s.val, .slice (some ⟨b, 0, none⟩) n n, .int .i64 (i : Int)] u fun e w' => e = .returned (bodies[i]).motion ∧ Fr [] u w'))
  rw [← hn] at HIN HRI
  have hn1 : n ≤ 1000 := by omega
  have HLL := Lib.hid (hll.trans hn.symm)
  have HNBE := Lib.hid hnbe
  clear hll hn hok hpl hs hnbe
  unfold St.val at HIN HRI HMO ⊢
  have HBR := Lib.hid (hbo ▸ HBD.out.rd : Rd w1 9 (some ⟨bg, boff, none⟩) bodies.length (bodies.flatMap Bd.cells))
  rw [hbo] at HIN HRI HMO ⊢
  clear HBD hbo
  go_wp2_with (first | (refine wpList_loadB rfl 31 (Operand.tmp 3) rfl w1.heap.size 16 rfl #[.int .i64 s.players, .slice (some ⟨bg, boff, none⟩) s.nb s.bc, .int .i64 s.x0, .int .i64 s.y0, .int .i64 s.x1, .int .i64 s.y1, .slice s.ro s.rn s.rc, .slice s.dO s.dn s.dc, .int .i64 s.fog, .int .i64 s.gx, .int .i64 s.gy, .int .i64 s.push, .int .i64 s.drag, .int .i64 s.rest, .int .i64 s.rounds, .int .i64 s.fuel] 31 (0, 0) B2.out _ Try.underlying31 rfl rfl infoSetup ?_) | (refine wpList_storeB rfl 31 (Operand.tmp 3) (Operand.tmp 7) rfl w1.heap.size 16 #[.int .i64 s.players, .slice (some ⟨bg, boff, none⟩) s.nb s.bc, .int .i64 s.x0, .int .i64 s.y0, .int .i64 s.x1, .int .i64 s.y1, .slice s.ro s.rn s.rc, .slice s.dO s.dn s.dc, .int .i64 s.fog, .int .i64 s.gx, .int .i64 s.gy, .int .i64 s.push, .int .i64 s.drag, .int .i64 s.rest, .int .i64 s.rounds, .int .i64 s.fuel] rfl rfl _ 31 (by exact alloc_new _ _) rfl rfl infoSetup (by simp [Value.oneCell']) ?_; intro w2 hb2 hf2; have F2 := Lib.hid (((Fr.refl [] w1).alloc _).trans hf2 (fun k hk => .inr (by simp at hk; omega))); have B2 := Lib.hid hb2; clear hb2 hf2))
  obtain ⟨b3, hb3⟩ : ∃ b3, b3 = w1.heap.size := ⟨_, rfl⟩
  rw [← hb3] at B2 ⊢
  clear hb3
  refine (HIN.out _ F2.out).mono ?_
  rintro e w3 ⟨bu, rfl, hbu, hr3, f3⟩
  have F3 := Lib.hid (F2.out.trans f3 (by simp [Ext]))
  have B3 := Lib.hid (f3.blk B2.out (by simp))
  have R3 := Lib.hid hr3
  clear f3 hr3 hbu F2 B2
  go_wp2_with (refine wpList_loadB rfl 31 (Operand.tmp 3) rfl b3 16 rfl #[.int .i64 s.players, .slice (some ⟨bg, boff, none⟩) s.nb s.bc, .int .i64 s.x0, .int .i64 s.y0, .int .i64 s.x1, .int .i64 s.y1, .slice s.ro s.rn s.rc, .slice s.dO s.dn s.dc, .int .i64 s.fog, .int .i64 s.gx, .int .i64 s.gy, .int .i64 s.push, .int .i64 s.drag, .int .i64 s.rest, .int .i64 s.rounds, .int .i64 s.fuel] 31 (0, 0) B3.out _ Try.underlying31 rfl rfl infoSetup ?_)
  refine (HRI.out _ F3.out).mono ?_
  rintro e w4 ⟨bv, rfl, hbv, hr4, f4⟩
  have F4 := Lib.hid (F3.out.trans f4 (by simp [Ext]))
  have B4 := Lib.hid (f4.blk B3.out (by simp))
  have R4 := Lib.hid (f4.blk R3.out (by simp))
  have HS := Lib.hid (by
    have h := same_yes w4 (some ⟨bu, 0, none⟩) (some ⟨bv, 0, none⟩) n n (initL pl bodies) (row_seg R4.out (by rw [HLL.out]; unfold maxLen; omega)).rd (row_seg hr4 (by rw [HLL.out]; unfold maxLen; omega)).rd
    rw [HLL.out] at h
    exact h)
  clear f4 hr4 hbv F3 B3 R3
  go_wp2_with fail
  refine HS.out.mono ?_
  rintro e w5 ⟨rfl, k5, rfl⟩
  have F5 := Lib.hid (F4.out.drewN k5)
  have B5 := Lib.hid (show (w4.drewN k5).heap[b3]? = _ from B4.out)
  have R5 := Lib.hid (show (w4.drewN k5).heap[bu]? = _ from R4.out)
  clear F4 B4 R4 HS
  obtain ⟨wq, hwq⟩ : ∃ x, x = w4.drewN k5 := ⟨_, rfl⟩
  rw [← hwq] at F5 B5 R5 ⊢
  clear hwq
  have hbc := fun (u : World) (hf : Fr [] w1 u) (i : Nat) (hi : i < bodies.length) (j : Nat) (hj : j < 9) => (by
    obtain ⟨g', o', ha, -, hc⟩ := (HBR.out.fr hf (by simp)).at (by omega)
    cases ha
    rw [Nat.add_assoc, hc _ (by omega), Bd.flat_get bodies i j hi hj] : u.cell? ⟨bg, boff + i * 9 + j, none⟩ = ((bodies[i]).cells)[j]?)
  have HBC := Lib.hid hbc
  have HN5 := HNBE.out
  have c1 : wq.cell? ⟨b3, 1, none⟩ = some (.slice (some ⟨bg, boff, none⟩) s.nb s.bc) := cell_blk B5.out 1
  rw [HN5] at c1
  clear hbc HN5
  go_wp2_with fail
  go_loopw [5] (fun iv wr => ∃ i : Nat, i ≤ bodies.length ∧ iv = .int .i64 (i : Int) ∧ Fr [] wq wr) (fun iv _ => bodies.length - (intOf iv).toNat)
  case atStart => exact ⟨0, by omega, rfl, Fr.refl _ _⟩
  case round =>
    clear c1
    obtain ⟨i, hi, rfl, hf⟩ := hrel
    have HF := Lib.hid hf
    have c1 : wr.cell? ⟨b3, 1, none⟩ = some (.slice (some ⟨bg, boff, none⟩) bodies.length s.bc) := by rw [← HNBE.out]; exact cell_blk (hf.blk B5.out (by simp)) 1
    clear hf
    by_cases hlt : i < bodies.length
    · have hmo := HMO.out wr.drew (F5.out.trans (HF.out.drew) (by simp [Ext])) bu (HF.out.blk R5.out (by simp)) i hlt
      obtain ⟨px, hpx⟩ : ∃ v, (bodies[i]).px = v := ⟨_, rfl⟩
      obtain ⟨py, hpy⟩ : ∃ v, (bodies[i]).py = v := ⟨_, rfl⟩
      obtain ⟨vx, hvx⟩ : ∃ v, (bodies[i]).vx = v := ⟨_, rfl⟩
      obtain ⟨vy, hvy⟩ : ∃ v, (bodies[i]).vy = v := ⟨_, rfl⟩
      obtain ⟨im, him⟩ : ∃ v, (bodies[i]).im = v := ⟨_, rfl⟩
      unfold Bd.motion at hmo
      rw [hpx, hpy, hvx, hvy, him] at hmo
      have HM := Lib.hid hmo
      have KEEP := Lib.hid (fun (u : World) (hf : Fr [] wq u) => (by
        have h3 := hf.blk B5.out (by simp)
        have hg := F5.out.trans hf (by simp [Ext])
        refine ⟨cell_blk h3 0, cell_blk h3 1, cell_blk h3 2, cell_blk h3 3, cell_blk h3 4, cell_blk h3 5, cell_blk h3 6, cell_blk h3 7, cell_blk h3 8, cell_blk h3 9, cell_blk h3 10, cell_blk h3 11, cell_blk h3 12, cell_blk h3 13, cell_blk h3 14, cell_blk h3 15, ?_, ?_, ?_, ?_, ?_⟩
        · rw [HBC.out u hg i hlt 2 (by omega), ← hpx]; rfl
        · rw [HBC.out u hg i hlt 3 (by omega), ← hpy]; rfl
        · rw [HBC.out u hg i hlt 4 (by omega), ← hvx]; rfl
        · rw [HBC.out u hg i hlt 5 (by omega), ← hvy]; rfl
        · rw [HBC.out u hg i hlt 6 (by omega), ← him]; rfl : (fun w' : World => w'.cell? ⟨b3, 0, none⟩ = some (.int .i64 s.players) ∧ w'.cell? ⟨b3, 1, none⟩ = some (.slice (some ⟨bg, boff, none⟩) s.nb s.bc) ∧ w'.cell? ⟨b3, 2, none⟩ = some (.int .i64 s.x0) ∧ w'.cell? ⟨b3, 3, none⟩ = some (.int .i64 s.y0) ∧ w'.cell? ⟨b3, 4, none⟩ = some (.int .i64 s.x1) ∧ w'.cell? ⟨b3, 5, none⟩ = some (.int .i64 s.y1) ∧ w'.cell? ⟨b3, 6, none⟩ = some (.slice s.ro s.rn s.rc) ∧ w'.cell? ⟨b3, 7, none⟩ = some (.slice s.dO s.dn s.dc) ∧ w'.cell? ⟨b3, 8, none⟩ = some (.int .i64 s.fog) ∧ w'.cell? ⟨b3, 9, none⟩ = some (.int .i64 s.gx) ∧ w'.cell? ⟨b3, 10, none⟩ = some (.int .i64 s.gy) ∧ w'.cell? ⟨b3, 11, none⟩ = some (.int .i64 s.push) ∧ w'.cell? ⟨b3, 12, none⟩ = some (.int .i64 s.drag) ∧ w'.cell? ⟨b3, 13, none⟩ = some (.int .i64 s.rest) ∧ w'.cell? ⟨b3, 14, none⟩ = some (.int .i64 s.rounds) ∧ w'.cell? ⟨b3, 15, none⟩ = some (.int .i64 s.fuel) ∧ w'.cell? ⟨bg, boff + i * 9 + 2, none⟩ = some (.int .i64 px) ∧ w'.cell? ⟨bg, boff + i * 9 + 3, none⟩ = some (.int .i64 py) ∧ w'.cell? ⟨bg, boff + i * 9 + 4, none⟩ = some (.int .i64 vx) ∧ w'.cell? ⟨bg, boff + i * 9 + 5, none⟩ = some (.int .i64 vy) ∧ w'.cell? ⟨bg, boff + i * 9 + 6, none⟩ = some (.int .i64 im)) u))
      have HFd := Lib.hid (HF.out.drew)
      have hne := fun (u : World) => ne_motion u px py vx vy im px py vx vy im
      have hne2 : ∀ u, (binOp .neq 50 (.agg #[.int .i64 px, .int .i64 py, .int .i64 vx, .int .i64 vy, .int .i64 im]) (.agg #[.int .i64 px, .int .i64 py, .int .i64 vx, .int .i64 vy, .int .i64 im])).run Try.prog u = .ok (.bool false) u := fun u => by rw [hne]; simp
      clear hmo hpx hpy hvx hvy him hne c1
      have k0 := KEEP.out wr HF.out
      have hbl : (i : Int) < (s.nb : Int) := by rw [HNBE.out]; omega
      go_upto_region 8 with fail
      go_region_held3 (fun w' => w'.cell? ⟨b3, 0, none⟩ = some (.int .i64 s.players) ∧ w'.cell? ⟨b3, 1, none⟩ = some (.slice (some ⟨bg, boff, none⟩) s.nb s.bc) ∧ w'.cell? ⟨b3, 2, none⟩ = some (.int .i64 s.x0) ∧ w'.cell? ⟨b3, 3, none⟩ = some (.int .i64 s.y0) ∧ w'.cell? ⟨b3, 4, none⟩ = some (.int .i64 s.x1) ∧ w'.cell? ⟨b3, 5, none⟩ = some (.int .i64 s.y1) ∧ w'.cell? ⟨b3, 6, none⟩ = some (.slice s.ro s.rn s.rc) ∧ w'.cell? ⟨b3, 7, none⟩ = some (.slice s.dO s.dn s.dc) ∧ w'.cell? ⟨b3, 8, none⟩ = some (.int .i64 s.fog) ∧ w'.cell? ⟨b3, 9, none⟩ = some (.int .i64 s.gx) ∧ w'.cell? ⟨b3, 10, none⟩ = some (.int .i64 s.gy) ∧ w'.cell? ⟨b3, 11, none⟩ = some (.int .i64 s.push) ∧ w'.cell? ⟨b3, 12, none⟩ = some (.int .i64 s.drag) ∧ w'.cell? ⟨b3, 13, none⟩ = some (.int .i64 s.rest) ∧ w'.cell? ⟨b3, 14, none⟩ = some (.int .i64 s.rounds) ∧ w'.cell? ⟨b3, 15, none⟩ = some (.int .i64 s.fuel) ∧ w'.cell? ⟨bg, boff + i * 9 + 2, none⟩ = some (.int .i64 px) ∧ w'.cell? ⟨bg, boff + i * 9 + 3, none⟩ = some (.int .i64 py) ∧ w'.cell? ⟨bg, boff + i * 9 + 4, none⟩ = some (.int .i64 vx) ∧ w'.cell? ⟨bg, boff + i * 9 + 5, none⟩ = some (.int .i64 vy) ∧ w'.cell? ⟨bg, boff + i * 9 + 6, none⟩ = some (.int .i64 im)) (first | exact KEEP.out _ HF.out | exact KEEP.out _ HFd.out | exact KEEP.out _ FA.out)
        (first | (go_at_call 28; refine HM.out.mono ?_; rintro e wA ⟨rfl, fA⟩; have FA := Lib.hid (HFd.out.trans fA (by simp [Ext])); clear fA))
      go_wp2_with fail
      go_roundw
      case rel => exact ⟨i + 1, by omega, by go_num, FA.out⟩
      case measure => simp [intOf]; omega
    · go_wp2_with fail
      refine (lives_any _).mono ?_
      rintro e w9 ⟨rfl, f9⟩
      have F9 := Lib.hid ((F1.out.trans (F5.out.trans (HF.out) (by simp [Ext])) (by simp [Ext])).trans f9 (by simp [Ext]))
      clear f9
      go_wp2_with fail
      go_ret
      exact ⟨rfl, F9.out⟩
end Go.Proofs.Ytlfomhknfpmhbaa
