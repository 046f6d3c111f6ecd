/- Chapter 12's generator: Setup. -/
import Derived.Deep.DeepCutAuto
import Derived.Test.YtlfomhknfpmhbaaSetupR
namespace Go.Proofs.Ytlfomhknfpmhbaa
open Go.RowKit

theorem infoInt : (Try.prog.info? 3).map (fun i => (i.zero, i.size, i.bytes)) = some (some (.int .i64 0), 1, 8) := by kernel_rfl

def nats (l : List Nat) : List Value := l.map fun x : Nat => Value.int .i64 (x : Int)
theorem nats_get (l : List Nat) (j : Nat) : (nats l)[j]? = l[j]?.map fun x : Nat => Value.int .i64 (x : Int) := by simp [nats]

/-- the numbers drawn so far -/
def KInv (w : World) (sv iv : Value) (wr : World) : Prop := ∃ (ks : List Nat) (oa : Option Addr) (oc : Nat), sv = .slice oa ks.length oc ∧ iv = .int .i64 (ks.length : Int) ∧ ks.length ≤ 24 ∧ (∀ x ∈ ks, x < 1000000) ∧
  Seg wr 3 1 oa ks.length oc (nats ks) ∧ Fr [] w wr ∧ (∀ k ∈ blk oa, w.heap.size < k)

def roomsL : List Bx := [⟨-12000, -9000, -1, 9000⟩, ⟨0, 0, 12000, 9000⟩, ⟨0, -9000, 12000, -1⟩]

/-- the setup without its bodies -/
structure SetSt (w : World) (s6 ka koff : Nat) (ks : List Nat) (s : St) (doors : List (Int × Int)) (wc : World) : Prop where
  b : wc.heap[s6]? = some (.cells (stCells s) 31 (0, 0))
  map : MapAt wc s roomsL doors
  mok : mapB roomsL doors = true
  fr : Fr [] w wc
  num : (1 ≤ s.players ∧ s.players ≤ 3) ∧ (0 ≤ s.fog ∧ s.fog ≤ 12000) ∧ (0 ≤ s.push ∧ s.push ≤ 400) ∧ (0 ≤ s.drag ∧ s.drag ≤ 300) ∧ (0 ≤ s.rest ∧ s.rest ≤ 1024) ∧ (1 ≤ s.rounds ∧ s.rounds ≤ 3) ∧ s.gx = 0 ∧ (-80 ≤ s.gy ∧ s.gy ≤ 0) ∧ s.fuel = 60 ∧ s.x0 = -12000 ∧ s.y0 = -9000 ∧ s.x1 = 12000 ∧ s.y1 = 9000
  kc : ∀ (j : Nat) (hj : j < ks.length), wc.cell? ⟨ka, koff + j, none⟩ = some (.int .i64 ((ks[j] : Nat) : Int))
  ns : w.heap.size ≤ s6
  kas : ka ≠ s6
  kal : ka < wc.heap.size
  nr : ∀ k ∈ blk s.ro, w.heap.size ≤ k ∧ k ≠ s6
  nd : ∀ k ∈ blk s.dO, w.heap.size ≤ k ∧ k ≠ s6

/-- another door table -/
theorem SetSt.turn {w wc wx : World} {s6 ka koff : Nat} {ks : List Nat} {s s' : St} {doors doors' : List (Int × Int)} (h : SetSt w s6 ka koff ks s doors wc) (hs : s' = { s with dO := s'.dO, dn := s'.dn, dc := s'.dc }) (hb : wx.heap[s6]? = some (.cells (stCells s') 31 (0, 0)))
    (hf : Fr [s6] wc wx) (hd : s'.dn = doors'.length) (hr : Rd wx 2 s'.dO doors'.length (doors'.flatMap drCells)) (hm : mapB roomsL doors' = true) (hn : ∀ k ∈ blk s'.dO, w.heap.size ≤ k ∧ k ≠ s6) : SetSt w s6 ka koff ks s' doors' wx := by
  have e1 : s'.ro = s.ro := by rw [hs]
  have e2 : s'.rn = s.rn := by rw [hs]
  refine ⟨hb, ⟨by rw [e2]; exact h.map.rn, hd, ?_, hr⟩, hm, h.fr.trans hf (fun k hk => .inr (by simp at hk; rw [hk]; exact h.ns)), ?_, ?_, h.ns, h.kas, Nat.lt_of_lt_of_le h.kal hf.size, ?_, hn⟩
  · rw [e1]; exact h.map.rr.fr hf (fun k hk => by have := (h.nr k hk).2; simp; exact this)
  · rw [hs]; exact h.num
  · intro j hj
    rw [World.cell?_of_block (a := ⟨ka, koff + j, none⟩) (hf.block ka h.kal (by simp; exact h.kas))]
    exact h.kc j hj
  · rw [e1]; exact h.nr

theorem ShapeAt.fr {w w' : World} {S : List Nat} {rad : Int} {po : Option Addr} {pn pc : Nat} (h : ShapeAt w rad po pn pc) (hf : Fr S w w') (hS : ∀ k ∈ blk po, k ∉ S) : ShapeAt w' rad po pn pc := by
  rcases h with h | ⟨q, r, h1, h2, h3, h4, h5, h6⟩
  · exact .inl h
  · exact .inr ⟨q, r, h1, h2, h3, h4, h5.fr hf hS, h6⟩
theorem ShapeAt.lt {w : World} {rad : Int} {po : Option Addr} {pn pc : Nat} (h : ShapeAt w rad po pn pc) : ∀ k ∈ blk po, k < w.heap.size := by
  rcases h with h | ⟨q, r, h1, h2, h3, h4, h5, h6⟩
  · rw [h.1]; simp [blk]
  · exact h5.lt

def goodB (d : Bd) : Prop := bodyB d (-12000) (-9000) 12000 9000 = true

/-- the bodies' loop -/
def BInv (wc : World) (s6 : Nat) (s : St) (N : Nat) (iv : Value) (wr : World) : Prop :=
  ∃ (i : Nat) (bodies : List Bd) (bo : Option Addr) (bc : Nat), i ≤ N ∧ iv = .int .i64 (i : Int) ∧ bodies.length = i ∧ wr.heap[s6]? = some (.cells (stCells (sw s bo i bc)) 31 (0, 0)) ∧ Fr [s6] wc wr ∧
    Seg wr 52 9 bo i bc (bodies.flatMap Bd.cells) ∧ (∀ k ∈ blk bo, wc.heap.size ≤ k) ∧ ∀ d ∈ bodies, goodB d ∧ ShapeAt wr d.rad d.po d.pn d.pc ∧ ∀ k ∈ blk d.po, wc.heap.size ≤ k ∧ k ∉ blk bo

structure SetupAt (w w' : World) (s : St) (bodies : List Bd) (doors : List (Int × Int)) : Prop where
  nb : s.nb = bodies.length
  seg : Seg w' 52 9 s.bo bodies.length s.bc (bodies.flatMap Bd.cells)
  map : MapAt w' s roomsL doors
  mok : mapB roomsL doors = true
  num : (1 ≤ s.players ∧ s.players ≤ 3) ∧ (0 ≤ s.fog ∧ s.fog ≤ 12000) ∧ (0 ≤ s.push ∧ s.push ≤ 400) ∧ (0 ≤ s.drag ∧ s.drag ≤ 300) ∧ (0 ≤ s.rest ∧ s.rest ≤ 1024) ∧ (1 ≤ s.rounds ∧ s.rounds ≤ 3) ∧ s.gx = 0 ∧ (-80 ≤ s.gy ∧ s.gy ≤ 0) ∧ s.fuel = 60 ∧ s.x0 = -12000 ∧ s.y0 = -9000 ∧ s.x1 = 12000 ∧ s.y1 = 9000
  pn : s.players ≤ (bodies.length : Int)
  b5 : bodies.length ≤ 5
  good : ∀ d ∈ bodies, goodB d ∧ ShapeAt w' d.rad d.po d.pn d.pc
  fr : Fr [] w w'
  fresh : ∀ k ∈ blk s.bo, w.heap.size ≤ k
  nro : ∀ k ∈ blk s.ro, k ∉ blk s.bo
  ndo : doors = [] ∨ ∀ k ∈ blk s.dO, k ∉ blk s.bo

theorem MapAt.roomLt {w : World} {s : St} {rooms : List Bx} {doors : List (Int × Int)} (h : MapAt w s rooms doors) (h0 : 0 < rooms.length) : ∀ k ∈ blk s.ro, k < w.heap.size := by
  obtain ⟨g, off, e, hg, -⟩ := h.rr.at h0
  intro k hk
  rw [e] at hk
  simp [blk] at hk
  omega
theorem MapAt.doorLt {w : World} {s : St} {rooms : List Bx} {doors : List (Int × Int)} (h : MapAt w s rooms doors) : doors = [] ∨ ∀ k ∈ blk s.dO, k < w.heap.size := by
  rcases Nat.eq_zero_or_pos doors.length with h0 | h0
  · exact .inl (List.eq_nil_of_length_eq_zero h0)
  · obtain ⟨g, off, e, hg, -⟩ := h.dr.at h0
    refine .inr fun k hk => ?_
    rw [e] at hk
    simp [blk] at hk
    omega

def SetupTo (w : World) (e : Ending) (w' : World) : Prop := ∃ s bodies doors, e = .returned s.val ∧ SetupAt w w' s bodies doors

set_option maxRecDepth 100000 in
set_option maxHeartbeats 16000000 in
theorem setup_any (w : World) (lo : Option Addr) (lc : Nat) (l : List Int) (hrd : Rd w 1 lo l.length (ints l)) (hb : ∀ x ∈ l, bounded x) :
    Calls Try.prog 11 #[.slice lo l.length lc] w (SetupTo w) := by
  obtain ⟨i0, hi0, hz0, hz1, hz2⟩ := info_parts infoInt
  have HRD := Lib.hid hrd
  have HB := Lib.hid hb
  have hll : l.length ≤ 9223372036854775807 := by have := hrd.2.1; unfold maxLen at this; omega
  obtain ⟨r0, hr0⟩ : ∃ r0, r0 = w.heap.size := ⟨_, rfl⟩
  have HR0 := Lib.hid hr0
  obtain ⟨ZS, hZS⟩ : ∃ ZS : Array Value, ZS = #[.int .i64 0, .slice none 0 0, .int .i64 0, .int .i64 0, .int .i64 0, .int .i64 0, .slice none 0 0, .slice none 0 0, .int .i64 0, .int .i64 0, .int .i64 0, .int .i64 0, .int .i64 0, .int .i64 0, .int .i64 0, .int .i64 0] := ⟨_, rfl⟩
  obtain ⟨wb, hwb⟩ : ∃ wb, wb = w.alloc (.cells ZS 31) := ⟨_, rfl⟩
  have HWB := Lib.hid (by rw [hwb]; exact (Fr.refl [] w).alloc _ : Fr [] w wb)
  have HBR := Lib.hid (by rw [hwb, hr0]; exact alloc_new w _ : wb.heap[r0]? = some (.cells ZS 31 (0, 0)))
  have HST := Lib.hid (⟨[], none, 0, rfl, rfl, by simp, by simp, by simpa [nats] using Seg.nil wb _ _, Fr.refl _ _, by simp [blk]⟩ : KInv wb (.slice none 0 0) (.int .i64 0) wb)
  have HZS := Lib.hid hZS
  have HWE := Lib.hid hwb
  clear hrd hb hr0 hZS hwb
  go_enter Try.func11, Try.ntmps11
  go_wp2_with fail
  rw [← HR0.out, ← HZS.out, ← HWE.out]
  go_loopw [3, 4] (fun sv iv wr => KInv wb sv iv wr) (fun _ iv _ => 24 - (intOf iv).toNat)
  case atStart => exact HST.out
  case round =>
    clear HST
    obtain ⟨ks, oa, oc, rfl, rfl, hk24, hkb, hseg, hf, hn⟩ := hrel
    have HKB := Lib.hid hkb
    have HF := Lib.hid hf
    have HN := Lib.hid hn
    have HS := Lib.hid hseg
    obtain ⟨i, hi⟩ : ∃ i, i = ks.length := ⟨_, rfl⟩
    have HI := Lib.hid hi
    rw [← hi] at HS ⊢
    rw [← hi] at hk24
    by_cases hil : i < 24
    · clear hkb hseg hf hn hi
      go_upto_if 18 with fail
      go_cut [5] (fun s wc => ∃ n : Nat, s = .int .i64 (n : Int) ∧ n < 1000000 ∧ wc = wr)
      case first =>
        by_cases hl : i < l.length
        · obtain ⟨g, off, rfl, hg, hc⟩ := HRD.out.at (by omega)
          have ci : wr.cell? ⟨g, off + i, none⟩ = some (.int .i64 l[i]) := by
            rw [World.cell?_of_block (a := ⟨g, off + i, none⟩) ((HWB.out.trans HF.out (by simp [Ext])).block g hg (by simp)), hc i (by omega), ints_get, List.getElem?_eq_getElem hl]; rfl
          obtain ⟨n, hn1, -, hAR⟩ := around_nat l[i] 1000000 (HB.out _ (List.getElem_mem hl)) (by omega) (by omega)
          have HAR := Lib.hid hAR
          obtain ⟨x, hx⟩ : ∃ x, x = l[i] := ⟨_, rfl⟩
          rw [← hx] at ci HAR
          have hii : (i : Int) < (l.length : Int) := by omega
          clear hAR hx hc
          go_wp2_with fail
          refine (HAR.out _).mono ?_
          rintro e w1 ⟨rfl, rfl⟩
          go_wp2_with fail
          go_meet
          exact ⟨n, rfl, hn1, rfl⟩
        · go_wp2_with fail
          go_meet
          exact ⟨0, rfl, by omega, rfl⟩
      case rest =>
        obtain ⟨n, rfl, hn, hwc⟩ := hcut
        have HNN := Lib.hid hn
        rw [← hwc] at HF HS
        have HSA := Lib.hid fun (o : Obj) => HS.out.alloc o
        have HNE := Lib.hid (fun (v : Value) j u hu => by
          rw [Addr.add_mid, Nat.zero_add, World.cell?_alloc_new]; simpa using hu : ∀ v j u, [v][j]? = some u → (wc.alloc (.cells #[v] 3)).cell? ((⟨wc.heap.size, 0, none⟩ : Addr).add j) = some u)
        clear hwc hn
        go_wp2_with (at_builtin; refine wpList_append_seg rfl _ _ 22 rfl 3 i0 _ 1 8 Try.underlying22 hi0 hz0 hz1 hz2 rfl (by decide) oa i oc (nats ks) rfl (HSA.out _) ⟨wc.heap.size, 0, none⟩ 1 1 [_] rfl rfl (HNE.out _) (by simp [Value.oneCell']) (by unfold maxLen; omega) (by omega) ?_; intro ao' cap' w5 hs5 hf5 hx5; have HF5 := Lib.hid (((Fr.refl (blk oa) wc).alloc _).trans hf5 (Ext.refl _ _)); have HX5 := Lib.hid hx5; have HS5 := Lib.hid hs5; clear hs5 hf5 hx5)
        go_roundw
        case rel =>
          refine ⟨ks ++ [n], ao', cap', by rw [List.length_append, ← HI.out]; rfl, by rw [List.length_append, ← HI.out]; go_num, by rw [List.length_append, ← HI.out]; simp; omega, fun x hx => ?_, by have h := HS5.out; rw [List.length_append, ← HI.out]; simpa [nats] using h, HF.out.trans HF5.out (fun k hk => .inr (by have := HN.out k hk; omega)), fun k hk => ?_⟩
          · rcases List.mem_append.1 hx with h | h
            · exact HKB.out x h
            · simp at h; have := HNN.out; omega
          · rcases HX5.out k hk with h | h
            · exact HN.out k h
            · have := HF.out.size; simp at h; omega
        case measure => simp [intOf]; omega
    · have hi24 : i = 24 := by omega
      subst hi24
      obtain ⟨ka, koff, cur, hoa, hkg, hkfit, hkc, -⟩ := HS.out.at (by have := HS.out.2.2.1; omega)
      subst hoa
      have hkl : 24 = ks.length := HI.out
      have kc : ∀ (j : Nat) (hj : j < ks.length), wr.cell? ⟨ka, koff + j, none⟩ = some (.int .i64 ((ks[j] : Nat) : Int)) := fun j hj => by
        rw [hkc j (by omega), nats_get, List.getElem?_eq_getElem hj]; rfl
      have c0 := kc 0 (by omega)
      have c1 := kc 1 (by omega)
      have c2 := kc 2 (by omega)
      obtain ⟨k0, hk0⟩ : ∃ k0, k0 = ks[0] := ⟨_, rfl⟩
      obtain ⟨k1, hk1⟩ : ∃ k1, k1 = ks[1] := ⟨_, rfl⟩
      obtain ⟨k2, hk2⟩ : ∃ k2, k2 = ks[2] := ⟨_, rfl⟩
      rw [← hk0, Nat.add_zero] at c0
      rw [← hk1] at c1
      rw [← hk2] at c2
      have b0 : k0 < 1000000 := by rw [hk0]; exact hkb _ (List.getElem_mem _)
      have b1 : k1 < 1000000 := by rw [hk1]; exact hkb _ (List.getElem_mem _)
      have b2 : k2 < 1000000 := by rw [hk2]; exact hkb _ (List.getElem_mem _)
      have HKC := Lib.hid kc
      have HKL := Lib.hid hkl
      clear hkb hseg hf hn hi kc hkc hk0 hk1 hk2 hkl
      have cd0 : (wr.drewN 1).cell? ⟨ka, koff, none⟩ = some (.int .i64 (k0 : Int)) := c0
      have cd1 : (wr.drewN 1).cell? ⟨ka, koff + 1, none⟩ = some (.int .i64 (k1 : Int)) := c1
      have cd2 : (wr.drewN 1).cell? ⟨ka, koff + 2, none⟩ = some (.int .i64 (k2 : Int)) := c2
      obtain ⟨p, hp⟩ : ∃ p, 1 + (k0 : Int) % 3 = p := ⟨_, rfl⟩
      obtain ⟨fog, hfog⟩ : ∃ p, 4000 + (k1 : Int) % 9 * 1000 = p := ⟨_, rfl⟩
      obtain ⟨push, hpush⟩ : ∃ p, (k1 : Int) / 9 % 5 * 100 = p := ⟨_, rfl⟩
      obtain ⟨drag, hdrag⟩ : ∃ p, (k2 : Int) % 4 * 100 = p := ⟨_, rfl⟩
      obtain ⟨rst, hrst⟩ : ∃ p, (k2 : Int) / 4 % 3 * 512 = p := ⟨_, rfl⟩
      obtain ⟨rounds, hrounds⟩ : ∃ p, 1 + (k2 : Int) / 12 % 3 = p := ⟨_, rfl⟩
      obtain ⟨gy, hgy⟩ : ∃ p, -((k2 : Int) / 36 % 3) * 40 = p := ⟨_, rfl⟩
      have HNM := Lib.hid (⟨by omega, by omega, by omega, by omega, by omega, by omega, by omega⟩ : (1 ≤ p ∧ p ≤ 3) ∧ (0 ≤ fog ∧ fog ≤ 12000) ∧ (0 ≤ push ∧ push ≤ 400) ∧ (0 ≤ drag ∧ drag ≤ 300) ∧ (0 ≤ rst ∧ rst ≤ 1024) ∧ (1 ≤ rounds ∧ rounds ≤ 3) ∧ (-80 ≤ gy ∧ gy ≤ 0))
      obtain ⟨s6, hs6⟩ : ∃ s6, s6 = wr.heap.size := ⟨_, rfl⟩
      have HS6 := Lib.hid hs6
      have hkas : ka < s6 := by rw [hs6]; exact lt_of_blk hkg
      have hkas0 : ka < wr.heap.size := lt_of_blk hkg
      have a1 : ∀ x : Int, 0 ≤ x → x ≤ 1000000000 → IntKind.i64.wrap x = x := fun x h1 h2 => IntWalk.i64_in _ (by omega)
      have tm : ∀ x y : Int, 0 ≤ x → x.tmod y = x % y := fun x y h => Int.tmod_eq_emod_of_nonneg h
      have r1 : IntKind.i64.wrap (1 + (k0 : Int).tmod 3) = p := by rw [tm _ _ (by omega), a1 _ (by omega) (by omega)]; exact hp
      have r2 : IntKind.i64.wrap (4000 + IntKind.i64.wrap ((k1 : Int).tmod 9 * 1000)) = fog := by rw [tm _ _ (by omega), a1 ((k1 : Int) % 9 * 1000) (by omega) (by omega), a1 _ (by omega) (by omega)]; exact hfog
      have r3 : IntKind.i64.wrap ((IntKind.i64.wrap ((k1 : Int) / 9)).tmod 5 * 100) = push := by rw [a1 ((k1 : Int) / 9) (by omega) (by omega), tm _ _ (by omega), a1 _ (by omega) (by omega)]; exact hpush
      have r4 : IntKind.i64.wrap ((k2 : Int).tmod 4 * 100) = drag := by rw [tm _ _ (by omega), a1 _ (by omega) (by omega)]; exact hdrag
      have r5 : IntKind.i64.wrap ((IntKind.i64.wrap ((k2 : Int) / 4)).tmod 3 * 512) = rst := by rw [a1 ((k2 : Int) / 4) (by omega) (by omega), tm _ _ (by omega), a1 _ (by omega) (by omega)]; exact hrst
      have r6 : IntKind.i64.wrap (1 + (IntKind.i64.wrap ((k2 : Int) / 12)).tmod 3) = rounds := by rw [a1 ((k2 : Int) / 12) (by omega) (by omega), tm _ _ (by omega), a1 _ (by omega) (by omega)]; exact hrounds
      have R1 := Lib.hid r1
      have R2 := Lib.hid r2
      have R3 := Lib.hid r3
      have R4 := Lib.hid r4
      have R5 := Lib.hid r5
      have R6 := Lib.hid r6
      clear hs6 hp hfog hpush hdrag hrst hrounds r1 r2 r3 r4 r5 r6 tm a1
      go_wp2_with fail
      refine wp_region_held_drew (S := fun w' => w'.cell? ⟨ka, koff, none⟩ = some (.int .i64 (k0 : Int)) ∧ w'.cell? ⟨ka, koff + 1, none⟩ = some (.int .i64 (k1 : Int)) ∧ w'.cell? ⟨ka, koff + 2, none⟩ = some (.int .i64 (k2 : Int))) (by kernel_rfl) ⟨c0, c1, c2⟩ (fun hHeld => ?_)
      refine wpAnyH_takeL (i := 0) (v := _) rfl (by kernel_rfl) (by kernel_rfl) (by kernel_rfl) (fun _ _ _ h => h) (Or.inl ⟨by rfl, (by intro w' hSw; (try dsimp only at hSw); obtain ⟨g0, g1, g2⟩ := hSw; go_simp; try with_reducible rfl)⟩) (by assumption) ?_
      try simp only [Act.put, List.setIfInBounds_toArray, List.set_cons_zero, List.set_cons_succ]
      refine wpAnyH_takeL (i := 1) (v := _) rfl (by kernel_rfl) (by kernel_rfl) (by kernel_rfl) (fun _ _ _ h => h) (Or.inl ⟨by rfl, (by intro w' hSw; (try dsimp only at hSw); obtain ⟨g0, g1, g2⟩ := hSw; go_simp; try with_reducible rfl)⟩) (by assumption) ?_
      try simp only [Act.put, List.setIfInBounds_toArray, List.set_cons_zero, List.set_cons_succ]
      refine wpAnyH_takeL (i := 2) (v := _) rfl (by kernel_rfl) (by kernel_rfl) (by kernel_rfl) (fun _ _ _ h => h) (Or.inl ⟨by rfl, (by intro w' hSw; (try dsimp only at hSw); obtain ⟨g0, g1, g2⟩ := hSw; go_simp; try with_reducible rfl)⟩) (by assumption) ?_
      try simp only [Act.put, List.setIfInBounds_toArray, List.set_cons_zero, List.set_cons_succ]
      refine wpAnyH_takeL (i := 3) (v := _) rfl (by kernel_rfl) (by kernel_rfl) (by kernel_rfl) (fun _ _ _ h => h) (Or.inl ⟨by rfl, (by intro w' hSw; (try dsimp only at hSw); obtain ⟨g0, g1, g2⟩ := hSw; go_simp; try with_reducible rfl)⟩) (by assumption) ?_
      try simp only [Act.put, List.setIfInBounds_toArray, List.set_cons_zero, List.set_cons_succ]
      refine wpAnyH_takeL (i := 4) (v := _) rfl (by kernel_rfl) (by kernel_rfl) (by kernel_rfl) (fun _ _ _ h => h) (Or.inl ⟨by rfl, (by intro w' hSw; (try dsimp only at hSw); obtain ⟨g0, g1, g2⟩ := hSw; go_simp; try with_reducible rfl)⟩) (by assumption) ?_
      try simp only [Act.put, List.setIfInBounds_toArray, List.set_cons_zero, List.set_cons_succ]
      refine wpAnyH_takeL (i := 5) (v := _) rfl (by kernel_rfl) (by kernel_rfl) (by kernel_rfl) (fun _ _ _ h => h) (Or.inl ⟨by rfl, (by intro w' hSw; (try dsimp only at hSw); obtain ⟨g0, g1, g2⟩ := hSw; go_simp; try with_reducible rfl)⟩) (by assumption) ?_
      try simp only [Act.put, List.setIfInBounds_toArray, List.set_cons_zero, List.set_cons_succ]
      refine wpAnyH_takeL (i := 6) (v := _) rfl (by kernel_rfl) (by kernel_rfl) (by kernel_rfl) (fun _ _ _ h => h) (Or.inl ⟨by rfl, (by intro w' hSw; (try dsimp only at hSw); obtain ⟨g0, g1, g2⟩ := hSw; go_simp; try with_reducible rfl)⟩) (by assumption) ?_
      try simp only [Act.put, List.setIfInBounds_toArray, List.set_cons_zero, List.set_cons_succ]
      refine wpAnyH_takeL (i := 7) (v := _) rfl (by kernel_rfl) (by kernel_rfl) (by kernel_rfl) (fun _ _ _ h => h) (Or.inl ⟨by rfl, (by intro w' hSw; (try dsimp only at hSw); obtain ⟨g0, g1, g2⟩ := hSw; go_simp; try with_reducible rfl)⟩) (by assumption) ?_
      try simp only [Act.put, List.setIfInBounds_toArray, List.set_cons_zero, List.set_cons_succ]
      refine wpAnyH_takeL (i := 8) (v := _) rfl (by kernel_rfl) (by kernel_rfl) (by kernel_rfl) (fun _ _ _ h => h) (Or.inl ⟨by rfl, (by intro w' hSw; (try dsimp only at hSw); obtain ⟨g0, g1, g2⟩ := hSw; go_simp; try with_reducible rfl)⟩) (by assumption) ?_
      try simp only [Act.put, List.setIfInBounds_toArray, List.set_cons_zero, List.set_cons_succ]
      refine wpAnyH_takeL (i := 9) (v := _) rfl (by kernel_rfl) (by kernel_rfl) (by kernel_rfl) (fun _ _ _ h => h) (Or.inl ⟨by rfl, (by intro w' hSw; (try dsimp only at hSw); obtain ⟨g0, g1, g2⟩ := hSw; go_simp; try with_reducible rfl)⟩) (by assumption) ?_
      try simp only [Act.put, List.setIfInBounds_toArray, List.set_cons_zero, List.set_cons_succ]
      refine wpAnyH_takeL (i := 10) (v := _) rfl (by kernel_rfl) (by kernel_rfl) (by kernel_rfl) (fun _ _ _ h => h) (Or.inl ⟨by rfl, (by intro w' hSw; (try dsimp only at hSw); obtain ⟨g0, g1, g2⟩ := hSw; go_simp; try with_reducible rfl)⟩) (by assumption) ?_
      try simp only [Act.put, List.setIfInBounds_toArray, List.set_cons_zero, List.set_cons_succ]
      refine wpAnyH_takeL (i := 11) (v := _) rfl (by kernel_rfl) (by kernel_rfl) (by kernel_rfl) (fun _ _ _ h => h) (Or.inl ⟨by rfl, (by intro w' hSw; (try dsimp only at hSw); obtain ⟨g0, g1, g2⟩ := hSw; go_simp; try with_reducible rfl)⟩) (by assumption) ?_
      try simp only [Act.put, List.setIfInBounds_toArray, List.set_cons_zero, List.set_cons_succ]
      refine wpAnyH_takeL (i := 12) (v := _) rfl (by kernel_rfl) (by kernel_rfl) (by kernel_rfl) (fun _ _ _ h => h) (Or.inl ⟨by rfl, (by intro w' hSw; (try dsimp only at hSw); obtain ⟨g0, g1, g2⟩ := hSw; go_simp; try with_reducible rfl)⟩) (by assumption) ?_
      try simp only [Act.put, List.setIfInBounds_toArray, List.set_cons_zero, List.set_cons_succ]
      refine wpAnyH_takeL (i := 13) (v := _) rfl (by kernel_rfl) (by kernel_rfl) (by kernel_rfl) (fun _ _ _ h => h) (Or.inl ⟨by rfl, (by intro w' hSw; (try dsimp only at hSw); obtain ⟨g0, g1, g2⟩ := hSw; go_simp; try with_reducible rfl)⟩) (by assumption) ?_
      try simp only [Act.put, List.setIfInBounds_toArray, List.set_cons_zero, List.set_cons_succ]
      refine wpAnyH_takeL (i := 14) (v := _) rfl (by kernel_rfl) (by kernel_rfl) (by kernel_rfl) (fun _ _ _ h => h) (Or.inl ⟨by rfl, (by intro w' hSw; (try dsimp only at hSw); obtain ⟨g0, g1, g2⟩ := hSw; go_simp; try with_reducible rfl)⟩) (by assumption) ?_
      try simp only [Act.put, List.setIfInBounds_toArray, List.set_cons_zero, List.set_cons_succ]
      refine wpAnyH_takeL (i := 15) (v := _) rfl (by kernel_rfl) (by kernel_rfl) (by kernel_rfl) (fun _ _ _ h => h) (Or.inl ⟨by rfl, (by intro w' hSw; (try dsimp only at hSw); obtain ⟨g0, g1, g2⟩ := hSw; go_simp; try with_reducible rfl)⟩) (by assumption) ?_
      try simp only [Act.put, List.setIfInBounds_toArray, List.set_cons_zero, List.set_cons_succ]
      refine wpAnyH_takeL (i := 16) (v := _) rfl (by kernel_rfl) (by kernel_rfl) (by kernel_rfl) (fun _ _ _ h => h) (Or.inl ⟨by rfl, (by intro w' hSw; (try dsimp only at hSw); obtain ⟨g0, g1, g2⟩ := hSw; go_simp; try with_reducible rfl)⟩) (by assumption) ?_
      try simp only [Act.put, List.setIfInBounds_toArray, List.set_cons_zero, List.set_cons_succ]
      refine wpAnyH_takeL (i := 17) (v := _) rfl (by kernel_rfl) (by kernel_rfl) (by kernel_rfl) (fun _ _ _ h => h) (Or.inl ⟨by rfl, (by intro w' hSw; (try dsimp only at hSw); obtain ⟨g0, g1, g2⟩ := hSw; go_simp; try with_reducible rfl)⟩) (by assumption) ?_
      try simp only [Act.put, List.setIfInBounds_toArray, List.set_cons_zero, List.set_cons_succ]
      refine wpAnyH_takeL (i := 18) (v := _) rfl (by kernel_rfl) (by kernel_rfl) (by kernel_rfl) (fun _ _ _ h => h) (Or.inl ⟨by rfl, (by intro w' hSw; (try dsimp only at hSw); obtain ⟨g0, g1, g2⟩ := hSw; go_simp; try with_reducible rfl)⟩) (by assumption) ?_
      try simp only [Act.put, List.setIfInBounds_toArray, List.set_cons_zero, List.set_cons_succ]
      refine wpAnyH_takeL (i := 19) (v := _) rfl (by kernel_rfl) (by kernel_rfl) (by kernel_rfl) (fun _ _ _ h => h) (Or.inl ⟨by rfl, (by intro w' hSw; (try dsimp only at hSw); obtain ⟨g0, g1, g2⟩ := hSw; go_simp; try with_reducible rfl)⟩) (by assumption) ?_
      try simp only [Act.put, List.setIfInBounds_toArray, List.set_cons_zero, List.set_cons_succ]
      refine wpAnyH_takeL (i := 20) (v := _) rfl (by kernel_rfl) (by kernel_rfl) (by kernel_rfl) (fun _ _ _ h => h) (Or.inl ⟨by rfl, (by intro w' hSw; (try dsimp only at hSw); obtain ⟨g0, g1, g2⟩ := hSw; go_simp; try with_reducible rfl)⟩) (by assumption) ?_
      try simp only [Act.put, List.setIfInBounds_toArray, List.set_cons_zero, List.set_cons_succ]
      refine wpAnyH_takeL (i := 21) (v := _) rfl (by kernel_rfl) (by kernel_rfl) (by kernel_rfl) (fun _ _ _ h => h) (Or.inl ⟨by rfl, (by intro w' hSw; (try dsimp only at hSw); obtain ⟨g0, g1, g2⟩ := hSw; go_simp; try with_reducible rfl)⟩) (by assumption) ?_
      try simp only [Act.put, List.setIfInBounds_toArray, List.set_cons_zero, List.set_cons_succ]
      refine wpAnyH_takeL (i := 22) (v := _) rfl (by kernel_rfl) (by kernel_rfl) (by kernel_rfl) (fun _ _ _ h => h) (Or.inl ⟨by rfl, (by intro w' hSw; (try dsimp only at hSw); obtain ⟨g0, g1, g2⟩ := hSw; go_simp; try with_reducible rfl)⟩) (by assumption) ?_
      try simp only [Act.put, List.setIfInBounds_toArray, List.set_cons_zero, List.set_cons_succ]
      refine wpAnyH_takeL (i := 23) (v := _) rfl (by kernel_rfl) (by kernel_rfl) (by kernel_rfl) (fun _ _ _ h => h) (Or.inl ⟨by rfl, (by intro w' hSw; (try dsimp only at hSw); obtain ⟨g0, g1, g2⟩ := hSw; go_simp; try with_reducible rfl)⟩) (by assumption) ?_
      try simp only [Act.put, List.setIfInBounds_toArray, List.set_cons_zero, List.set_cons_succ]
      refine wpAnyH_takeL (i := 24) (v := _) rfl (by kernel_rfl) (by kernel_rfl) (by kernel_rfl) (fun _ _ _ h => h) (Or.inl ⟨by rfl, (by intro w' hSw; (try dsimp only at hSw); obtain ⟨g0, g1, g2⟩ := hSw; go_simp; try with_reducible rfl)⟩) (by assumption) ?_
      try simp only [Act.put, List.setIfInBounds_toArray, List.set_cons_zero, List.set_cons_succ]
      refine wpAnyH_takeL (i := 25) (v := _) rfl (by kernel_rfl) (by kernel_rfl) (by kernel_rfl) (fun _ _ _ h => h) (Or.inl ⟨by rfl, (by intro w' hSw; (try dsimp only at hSw); obtain ⟨g0, g1, g2⟩ := hSw; go_simp; try with_reducible rfl)⟩) (by assumption) ?_
      try simp only [Act.put, List.setIfInBounds_toArray, List.set_cons_zero, List.set_cons_succ]
      refine wpAnyH_takeL (i := 26) (v := _) rfl (by kernel_rfl) (by kernel_rfl) (by kernel_rfl) (fun _ _ _ h => h) (Or.inl ⟨by rfl, (by intro w' hSw; (try dsimp only at hSw); obtain ⟨g0, g1, g2⟩ := hSw; go_simp; try with_reducible rfl)⟩) (by assumption) ?_
      try simp only [Act.put, List.setIfInBounds_toArray, List.set_cons_zero, List.set_cons_succ]
      refine wpAnyH_takeL (i := 27) (v := _) rfl (by kernel_rfl) (by kernel_rfl) (by kernel_rfl) (fun _ _ _ h => h) (Or.inl ⟨by rfl, (by intro w' hSw; (try dsimp only at hSw); obtain ⟨g0, g1, g2⟩ := hSw; go_simp; try with_reducible rfl)⟩) (by assumption) ?_
      try simp only [Act.put, List.setIfInBounds_toArray, List.set_cons_zero, List.set_cons_succ]
      refine wpAnyH_takeL (i := 28) (v := _) rfl (by kernel_rfl) (by kernel_rfl) (by kernel_rfl) (fun _ _ _ h => h) (Or.inl ⟨by rfl, (by intro w' hSw; (try dsimp only at hSw); obtain ⟨g0, g1, g2⟩ := hSw; go_simp; try with_reducible rfl)⟩) (by assumption) ?_
      try simp only [Act.put, List.setIfInBounds_toArray, List.set_cons_zero, List.set_cons_succ]
      refine wpAnyH_takeL (i := 29) (v := _) rfl (by kernel_rfl) (by kernel_rfl) (by kernel_rfl) (fun _ _ _ h => h) (Or.inl ⟨by rfl, (by intro w' hSw; (try dsimp only at hSw); obtain ⟨g0, g1, g2⟩ := hSw; go_simp; try with_reducible rfl)⟩) (by assumption) ?_
      try simp only [Act.put, List.setIfInBounds_toArray, List.set_cons_zero, List.set_cons_succ]
      refine wpAnyH_takeL (i := 30) (v := _) rfl (by kernel_rfl) (by kernel_rfl) (by kernel_rfl) (fun _ _ _ h => h) (Or.inl ⟨by rfl, (by intro w' hSw; (try dsimp only at hSw); obtain ⟨g0, g1, g2⟩ := hSw; go_simp; try with_reducible rfl)⟩) (by assumption) ?_
      try simp only [Act.put, List.setIfInBounds_toArray, List.set_cons_zero, List.set_cons_succ]
      refine wpAnyH_takeL (i := 31) (v := _) rfl (by kernel_rfl) (by kernel_rfl) (by kernel_rfl) (fun _ _ _ h => h) (Or.inl ⟨by rfl, (by intro w' hSw; (try dsimp only at hSw); obtain ⟨g0, g1, g2⟩ := hSw; go_simp; try with_reducible rfl)⟩) (by assumption) ?_
      try simp only [Act.put, List.setIfInBounds_toArray, List.set_cons_zero, List.set_cons_succ]
      refine wpAnyH_takeL (i := 32) (v := _) rfl (by kernel_rfl) (by kernel_rfl) (by kernel_rfl) (fun _ _ _ h => h) (Or.inl ⟨by rfl, (by intro w' hSw; (try dsimp only at hSw); obtain ⟨g0, g1, g2⟩ := hSw; go_simp; try with_reducible rfl)⟩) (by assumption) ?_
      try simp only [Act.put, List.setIfInBounds_toArray, List.set_cons_zero, List.set_cons_succ]
      refine wpAnyH_takeL (i := 33) (v := _) rfl (by kernel_rfl) (by kernel_rfl) (by kernel_rfl) (fun _ _ _ h => h) (Or.inl ⟨by rfl, (by intro w' hSw; (try dsimp only at hSw); obtain ⟨g0, g1, g2⟩ := hSw; go_simp; try with_reducible rfl)⟩) (by assumption) ?_
      try simp only [Act.put, List.setIfInBounds_toArray, List.set_cons_zero, List.set_cons_succ]
      refine wpAnyH_takeL (i := 34) (v := _) rfl (by kernel_rfl) (by kernel_rfl) (by kernel_rfl) (fun _ _ _ h => h) (Or.inl ⟨by rfl, (by intro w' hSw; (try dsimp only at hSw); obtain ⟨g0, g1, g2⟩ := hSw; go_simp; try with_reducible rfl)⟩) (by assumption) ?_
      try simp only [Act.put, List.setIfInBounds_toArray, List.set_cons_zero, List.set_cons_succ]
      refine wpAnyH_takeL (i := 35) (v := _) rfl (by kernel_rfl) (by kernel_rfl) (by kernel_rfl) (fun _ _ _ h => h) (Or.inl ⟨by rfl, (by intro w' hSw; (try dsimp only at hSw); obtain ⟨g0, g1, g2⟩ := hSw; go_simp; try with_reducible rfl)⟩) (by assumption) ?_
      try simp only [Act.put, List.setIfInBounds_toArray, List.set_cons_zero, List.set_cons_succ]
      refine wpAnyH_ready (rs := [36]) (by kernel_rfl) (by simp) ?_
      refine AllReadyH.consL (i := 36) rfl (fun K hK => ?_) AllReadyH.nil
      go_simp
      refine hK.out _ _ ⟨(World.cell?_of_block (a := ⟨ka, koff, none⟩) (Go.heap_alloc_old _ _ hkas0)).trans c0, (World.cell?_of_block (a := ⟨ka, koff + 1, none⟩) (Go.heap_alloc_old _ _ hkas0)).trans c1, (World.cell?_of_block (a := ⟨ka, koff + 2, none⟩) (Go.heap_alloc_old _ _ hkas0)).trans c2⟩ (fun hHeld2 => ?_)
      clear hK K hHeld
      try simp only [Act.put, List.setIfInBounds_toArray, List.set_cons_zero, List.set_cons_succ]
      simp only [R1.out, R2.out, R3.out, R4.out, R5.out, R6.out]
      refine wpAnyH_ready (rs := [37]) (by kernel_rfl) (by simp) ?_
      refine AllReadyH.consL (i := 37) rfl (fun K hK => ?_) AllReadyH.nil
      rw [if_pos (by rfl)]
      refine wp_storeB 31 (Operand.tmp 6) (Operand.tmp 63) rfl s6 16 #[.int .i64 p, .slice none 0 0, .int .i64 (-12000), .int .i64 (-9000), .int .i64 12000, .int .i64 9000, .slice none 0 0, .slice none 0 0, .int .i64 fog, .int .i64 0, .int .i64 0, .int .i64 push, .int .i64 drag, .int .i64 rst, .int .i64 rounds, .int .i64 60] (by rw [HS6.out]; rfl) rfl _ 31 (by rw [HS6.out]; exact alloc_new _ _) rfl rfl infoSetup (by simp [Value.oneCell']) ?_
      intro w6 hb6 hf6
      (have F6 := Lib.hid ((Fr.refl [] wr).alloc _ |>.drew |>.trans hf6 (fun k hk => .inr (by simp at hk; rw [hk, HS6.out]; exact Nat.le_refl _))); have B6 := Lib.hid hb6; have e2 := (by rw [World.cell?_of_block (a := ⟨ka, koff + 2, none⟩) (F6.out.block ka (by rw [← HS6.out]; exact hkas) (by simp))]; exact c2 : w6.cell? ⟨ka, koff + 2, none⟩ = some (.int .i64 (k2 : Int))); have e9 : w6.cell? ⟨s6, 9, none⟩ = some (.int .i64 0) := cell_blk hb6 9; have e10 : w6.cell? ⟨s6, 10, none⟩ = some (.int .i64 0) := cell_blk hb6 10; have hx := alloc_old (o' := .cells #[.int .i64 (-12000), .int .i64 (-9000), .int .i64 (-1), .int .i64 9000, .int .i64 0, .int .i64 0, .int .i64 12000, .int .i64 9000, .int .i64 0, .int .i64 (-9000), .int .i64 12000, .int .i64 (-1)] 25) (setCell_blk (setCell_blk hb6 9 (.int .i64 0)) 10 (.int .i64 gy)); have e6 : (((w6.setCell ⟨s6, 9, none⟩ (.int .i64 0)).setCell ⟨s6, 10, none⟩ (.int .i64 gy)).alloc (.cells #[.int .i64 (-12000), .int .i64 (-9000), .int .i64 (-1), .int .i64 9000, .int .i64 0, .int .i64 0, .int .i64 12000, .int .i64 9000, .int .i64 0, .int .i64 (-9000), .int .i64 12000, .int .i64 (-1)] 25)).cell? ⟨s6, 6, none⟩ = some (.slice none 0 0) := cell_blk hx 6; have g9 : w6.frozen? ⟨s6, 9, none⟩ = false := frozen_blk hb6 9; have g10 : w6.frozen? ⟨s6, 10, none⟩ = false := frozen_blk hb6 10; have g6 : (((w6.setCell ⟨s6, 9, none⟩ (.int .i64 0)).setCell ⟨s6, 10, none⟩ (.int .i64 gy)).alloc (.cells #[.int .i64 (-12000), .int .i64 (-9000), .int .i64 (-1), .int .i64 9000, .int .i64 0, .int .i64 0, .int .i64 12000, .int .i64 9000, .int .i64 0, .int .i64 (-9000), .int .i64 12000, .int .i64 (-1)] 25)).frozen? ⟨s6, 6, none⟩ = false := frozen_blk hx 6; have HX := Lib.hid hx; refine hK.out _ _ ⟨(World.cell?_of_block (a := ⟨ka, koff, none⟩) (F6.out.block ka hkas0 (by simp))).trans c0, (World.cell?_of_block (a := ⟨ka, koff + 1, none⟩) (F6.out.block ka hkas0 (by simp))).trans c1, e2⟩ (fun hHeld => ?_); refine wpAnyH_done (by kernel_rfl) ?_ _; clear hx hb6 hf6 c0 c1 c2 cd0 cd1 cd2 hHeld hHeld2 hK K)
      try simp only [Act.put, List.setIfInBounds_toArray, List.set_cons_zero, List.set_cons_succ]
      rw [← HS6.out]
      go_upto_region 12 with fail
      obtain ⟨wv, hwv⟩ : ∃ wv, wv = (((w6.setCell ⟨s6, 9, none⟩ (.int .i64 0)).setCell ⟨s6, 10, none⟩ (.int .i64 gy)).alloc (.cells #[.int .i64 (-12000), .int .i64 (-9000), .int .i64 (-1), .int .i64 9000, .int .i64 0, .int .i64 0, .int .i64 12000, .int .i64 9000, .int .i64 0, .int .i64 (-9000), .int .i64 12000, .int .i64 (-1)] 25)).setCell ⟨s6, 6, none⟩ (.slice (some ⟨w6.heap.size, 0, none⟩) 3 3) := ⟨_, rfl⟩
      rw [← hwv]
      have hkl : 24 = ks.length := HKL.out
      have hb6l : s6 < w6.heap.size := lt_of_blk B6.out
      have hsz1 : ((w6.setCell ⟨s6, 9, none⟩ (.int .i64 0)).setCell ⟨s6, 10, none⟩ (.int .i64 gy)).heap.size = w6.heap.size := by simp
      have h6 : Fr [] w6 w6 := Fr.refl _ _
      have FV := Lib.hid (by
        rw [hwv]
        have hwbs : wb.heap.size ≤ s6 := by rw [HS6.out]; exact HF.out.size
        exact (((((HF.out.trans F6.out (by simp [Ext])).setCell (p := ⟨s6, 9, none⟩) (.inr hwbs) _).setCell (p := ⟨s6, 10, none⟩) (.inr hwbs) _).alloc _).setCell (p := ⟨s6, 6, none⟩) (.inr hwbs) _) : Fr [] wb wv)
      have FW := Lib.hid (by
        rw [hwv]
        exact ((((Fr.refl [s6] w6).setCell (p := ⟨s6, 9, none⟩) (.inl (by simp)) _).setCell (p := ⟨s6, 10, none⟩) (.inl (by simp)) _).alloc _).setCell (p := ⟨s6, 6, none⟩) (.inl (by simp)) _ : Fr [s6] w6 wv)
      have HSV := Lib.hid (by
        refine ⟨?_, ⟨rfl, rfl, ?_, ⟨by simp, by simp, .inl rfl⟩⟩, by unfold mapB roomsL Bx.ok properB inB; simp, FV.out, ?_, ?_, by rw [HS6.out]; exact HF.out.size, by omega, ?_, ?_, by simp [blk]⟩
        · rw [hwv]
          have h := setCell_blk HX.out 6 (.slice (some ⟨w6.heap.size, 0, none⟩) 3 3)
          exact h
        · have hr : wv.heap[w6.heap.size]? = some (.cells (roomsL.flatMap Bx.cells).toArray 25 (0, 0)) := by
            rw [hwv, setCell_ne (by simp; omega)]
            have h := alloc_new ((w6.setCell ⟨s6, 9, none⟩ (.int .i64 0)).setCell ⟨s6, 10, none⟩ (.int .i64 gy)) (.cells (roomsL.flatMap Bx.cells).toArray 25)
            rw [hsz1] at h
            exact h
          have h := (Seg.one w6.heap.size _ 25 4 3 hr rfl (by unfold maxLen; omega)).rd
          exact h
        · have h := HNM.out
          exact ⟨h.1, h.2.1, h.2.2.1, h.2.2.2.1, h.2.2.2.2.1, h.2.2.2.2.2.1, rfl, h.2.2.2.2.2.2, rfl, rfl, rfl, rfl, rfl⟩
        · intro j hj
          rw [World.cell?_of_block (a := ⟨ka, koff + j, none⟩) (FW.out.block ka (Nat.lt_of_lt_of_le hkas0 F6.out.size) (by simp; omega)), World.cell?_of_block (a := ⟨ka, koff + j, none⟩) (F6.out.block ka hkas0 (by simp))]
          exact HKC.out j hj
        · exact Nat.lt_of_lt_of_le (Nat.lt_of_lt_of_le hkas0 F6.out.size) FW.out.size
        · intro k hk
          simp [blk] at hk
          subst hk
          have h1 := (HF.out.trans F6.out (by simp [Ext])).size
          exact ⟨h1, by omega⟩ :
        SetSt wb s6 ka koff ks ⟨p, none, 0, 0, -12000, -9000, 12000, 9000, some ⟨w6.heap.size, 0, none⟩, 3, 3, none, 0, 0, fog, 0, gy, push, drag, rst, rounds, 60⟩ [] wv)
      obtain ⟨rb, hrb⟩ : ∃ rb, rb = w6.heap.size := ⟨_, rfl⟩
      rw [← hrb] at HSV ⊢
      clear hwv hrb FV FW HX B6 F6 h6 hsz1 e2 e6 e9 e10 g6 g9 g10 HKC
      go_cut [] (fun wc => ∃ s doors, (s.bo = none ∧ s.nb = 0 ∧ s.bc = 0) ∧ SetSt wb s6 ka koff ks s doors wc)
      case first =>
        obtain ⟨k3, hk3⟩ : ∃ k3, k3 = ks[3] := ⟨_, rfl⟩
        have hbx := alloc_old (o' := .cells #[.slice (some ⟨wv.heap.size, 0, none⟩) 0 0, .slice (some ⟨wv.heap.size + 1, 0, none⟩) 1 1, .slice (some ⟨wv.heap.size + 1 + 1, 0, none⟩) 2 2] 27) (alloc_old (o' := .cells #[.int .i64 0, .int .i64 2, .int .i64 1, .int .i64 2] 68) (alloc_old (o' := .cells #[.int .i64 0, .int .i64 1] 68) (alloc_old (o' := .cells #[] 68) HSV.out.b)))
        have e7 : ((((wv.alloc (.cells #[] 68)).alloc (.cells #[.int .i64 0, .int .i64 1] 68)).alloc (.cells #[.int .i64 0, .int .i64 2, .int .i64 1, .int .i64 2] 68)).alloc (.cells #[.slice (some ⟨wv.heap.size, 0, none⟩) 0 0, .slice (some ⟨wv.heap.size + 1, 0, none⟩) 1 1, .slice (some ⟨wv.heap.size + 1 + 1, 0, none⟩) 2 2] 27)).cell? ⟨s6, 7, none⟩ = some (.slice none 0 0) := cell_blk hbx 7
        have g7 : ((((wv.alloc (.cells #[] 68)).alloc (.cells #[.int .i64 0, .int .i64 1] 68)).alloc (.cells #[.int .i64 0, .int .i64 2, .int .i64 1, .int .i64 2] 68)).alloc (.cells #[.slice (some ⟨wv.heap.size, 0, none⟩) 0 0, .slice (some ⟨wv.heap.size + 1, 0, none⟩) 1 1, .slice (some ⟨wv.heap.size + 1 + 1, 0, none⟩) 2 2] 27)).frozen? ⟨s6, 7, none⟩ = false := frozen_blk hbx 7
        have HBX := Lib.hid hbx
        have hsl : s6 < wv.heap.size := lt_of_blk HSV.out.b
        have FQ := Lib.hid (((((Fr.refl [s6] wv).alloc (.cells #[] 68)).alloc (.cells #[.int .i64 0, .int .i64 1] 68)).alloc (.cells #[.int .i64 0, .int .i64 2, .int .i64 1, .int .i64 2] 68)).alloc (.cells #[.slice (some ⟨wv.heap.size, 0, none⟩) 0 0, .slice (some ⟨wv.heap.size + 1, 0, none⟩) 1 1, .slice (some ⟨wv.heap.size + 1 + 1, 0, none⟩) 2 2] 27))
        have hwv : wb.heap.size ≤ wv.heap.size := HSV.out.fr.size
        have ck3 : ((((wv.alloc (.cells #[] 68)).alloc (.cells #[.int .i64 0, .int .i64 1] 68)).alloc (.cells #[.int .i64 0, .int .i64 2, .int .i64 1, .int .i64 2] 68)).alloc (.cells #[.slice (some ⟨wv.heap.size, 0, none⟩) 0 0, .slice (some ⟨wv.heap.size + 1, 0, none⟩) 1 1, .slice (some ⟨wv.heap.size + 1 + 1, 0, none⟩) 2 2] 27)).cell? ⟨ka, koff + 3, none⟩ = some (.int .i64 (k3 : Int)) := by
          rw [hk3, World.cell?_of_block (a := ⟨ka, koff + 3, none⟩) (FQ.out.block ka HSV.out.kal (by simp; exact HSV.out.kas))]
          exact HSV.out.kc 3 (by omega)
        have H1 := Lib.hid (alloc_old (o' := .cells #[.slice (some ⟨wv.heap.size, 0, none⟩) 0 0, .slice (some ⟨wv.heap.size + 1, 0, none⟩) 1 1, .slice (some ⟨wv.heap.size + 1 + 1, 0, none⟩) 2 2] 27) (alloc_old (o' := .cells #[.int .i64 0, .int .i64 2, .int .i64 1, .int .i64 2] 68) (alloc_new2 wv (.cells #[] 68) (.cells #[.int .i64 0, .int .i64 1] 68))))
        have H2 := Lib.hid (alloc_old (o' := .cells #[.slice (some ⟨wv.heap.size, 0, none⟩) 0 0, .slice (some ⟨wv.heap.size + 1, 0, none⟩) 1 1, .slice (some ⟨wv.heap.size + 1 + 1, 0, none⟩) 2 2] 27) (alloc_new3 wv (.cells #[] 68) (.cells #[.int .i64 0, .int .i64 1] 68) (.cells #[.int .i64 0, .int .i64 2, .int .i64 1, .int .i64 2] 68)))
        clear hbx hk3 hkl
        rcases (show (k3 : Int) % 3 = 0 ∨ (k3 : Int) % 3 = 1 ∨ (k3 : Int) % 3 = 2 by omega) with hq | hq | hq
        · go_wp2_with fail
          go_meet
          refine ⟨{ (⟨p, none, 0, 0, -12000, -9000, 12000, 9000, some ⟨rb, 0, none⟩, 3, 3, none, 0, 0, fog, 0, gy, push, drag, rst, rounds, 60⟩ : St) with dO := some ⟨wv.heap.size, 0, none⟩, dn := 0, dc := 0 }, [], ⟨rfl, rfl, rfl⟩, HSV.out.turn rfl (setCell_blk HBX.out 7 _) (FQ.out.setCell (p := ⟨s6, 7, none⟩) (.inl (by simp)) _) rfl ⟨by simp, by simp, .inl rfl⟩ (by unfold mapB roomsL Bx.ok properB inB; simp) ?_⟩
          intro k hk
          simp [blk] at hk
          omega
        · go_wp2_with fail
          go_meet
          refine ⟨{ (⟨p, none, 0, 0, -12000, -9000, 12000, 9000, some ⟨rb, 0, none⟩, 3, 3, none, 0, 0, fog, 0, gy, push, drag, rst, rounds, 60⟩ : St) with dO := some ⟨wv.heap.size + 1, 0, none⟩, dn := 1, dc := 1 }, [(0, 1)], ⟨rfl, rfl, rfl⟩, HSV.out.turn rfl (setCell_blk HBX.out 7 _) (FQ.out.setCell (p := ⟨s6, 7, none⟩) (.inl (by simp)) _) rfl ?_ (by unfold mapB roomsL Bx.ok properB drOk inB; simp) ?_⟩
          · have h := H1.out
            rw [← setCell_ne (a := ⟨s6, 7, none⟩) (v := .slice (some ⟨wv.heap.size + 1, 0, none⟩) 1 1) (by simp; omega)] at h
            exact (Seg.one (wv.heap.size + 1) _ 68 2 1 h rfl (by unfold maxLen; omega)).rd
          · intro k hk
            simp [blk] at hk
            omega
        · go_wp2_with fail
          go_meet
          refine ⟨{ (⟨p, none, 0, 0, -12000, -9000, 12000, 9000, some ⟨rb, 0, none⟩, 3, 3, none, 0, 0, fog, 0, gy, push, drag, rst, rounds, 60⟩ : St) with dO := some ⟨wv.heap.size + 1 + 1, 0, none⟩, dn := 2, dc := 2 }, [(0, 2), (1, 2)], ⟨rfl, rfl, rfl⟩, HSV.out.turn rfl (setCell_blk HBX.out 7 _) (FQ.out.setCell (p := ⟨s6, 7, none⟩) (.inl (by simp)) _) rfl ?_ (by unfold mapB roomsL Bx.ok properB drOk inB; simp) ?_⟩
          · have h := H2.out
            rw [← setCell_ne (a := ⟨s6, 7, none⟩) (v := .slice (some ⟨wv.heap.size + 1 + 1, 0, none⟩) 2 2) (by simp; omega)] at h
            exact (Seg.one (wv.heap.size + 1 + 1) _ 68 2 2 h rfl (by unfold maxLen; omega)).rd
          · intro k hk
            simp [blk] at hk
            omega
      case rest =>
        obtain ⟨s, doors, ⟨hs1, hs2, hs3⟩, hst⟩ := hcut
        clear hkl
        obtain ⟨ib, hib, hbz0, hbz1, hbz2⟩ := info_parts infoBodyZ
        have HST := Lib.hid hst
        obtain ⟨k3, hk3⟩ : ∃ k3, k3 = ks[3]'(by have := HKL.out; omega) := ⟨_, rfl⟩
        have b3 : k3 < 1000000 := by rw [hk3]; exact HKB.out _ (List.getElem_mem _)
        obtain ⟨P, hP⟩ : ∃ P : Nat, s.players = (P : Int) := ⟨s.players.toNat, by have := hst.num.1; omega⟩
        have hP3 : 1 ≤ P ∧ P ≤ 3 := by have := hst.num.1; omega
        obtain ⟨N, hN⟩ : ∃ N : Nat, N = P + k3 / 3 % 3 := ⟨_, rfl⟩
        have hN5 : N ≤ 5 := by omega
        have hNP : P ≤ N := by omega
        have HNE := Lib.hid hN
        have hNi : (P : Int) + (k3 : Int) / 3 % 3 = (N : Int) := by omega
        have h6l : s6 < wc.heap.size := lt_of_blk hst.b
        have HBI := Lib.hid (⟨0, [], none, 0, by omega, rfl, rfl, by have h := hst.b; rw [show sw s none 0 0 = s by (cases s; simp only at hs1 hs2 hs3; subst hs1; subst hs2; subst hs3; rfl)]; exact h, Fr.refl _ _, by simpa using Seg.nil wc _ 9, by simp [blk], by simp⟩ : BInv wc s6 s N (.int .i64 0) wc)
        have HPP := Lib.hid hP
        have HK3 := Lib.hid hk3
        clear HSV HNM hst hs1 hs2 hs3 hP hk3 hN
        go_wp2_with fail
        go_loopw [7] (fun iv wr2 => BInv wc s6 s N iv wr2) (fun iv _ => N - (intOf iv).toNat)
        case atStart => exact HBI.out
        case round =>
          clear HBI
          obtain ⟨i, bodies, bo, bc, hiN, rfl, hbl, hb6, hf6, hseg, hbn, hall⟩ := hrel
          have HBL := Lib.hid hbl
          have HB6 := Lib.hid hb6
          have HF6 := Lib.hid hf6
          have HSEG := Lib.hid hseg
          have HBN := Lib.hid hbn
          have HALL := Lib.hid hall
          have p0 : wr.cell? ⟨s6, 0, none⟩ = some (.int .i64 (P : Int)) := by rw [← HPP.out]; exact cell_blk hb6 0
          have KC := Lib.hid (fun (j : Nat) (hj : j < ks.length) => by
            rw [World.cell?_of_block (a := ⟨ka, koff + j, none⟩) (hf6.block ka HST.out.kal (by simp; exact HST.out.kas))]
            exact HST.out.kc j hj : ∀ (j : Nat) (hj : j < ks.length), wr.cell? ⟨ka, koff + j, none⟩ = some (.int .i64 ((ks[j] : Nat) : Int)))
          have p3 : wr.cell? ⟨ka, koff + 3, none⟩ = some (.int .i64 (k3 : Int)) := by rw [HK3.out]; exact KC.out 3 (by have := HKL.out; omega)
          clear hbl hb6 hf6 hseg hbn hall
          by_cases hiN2 : i < N
          · obtain ⟨n, hn⟩ : ∃ n, n = ks[4 + 2 * i]'(by have := HKL.out; omega) := ⟨_, rfl⟩
            obtain ⟨m, hm⟩ : ∃ m, m = ks[5 + 2 * i]'(by have := HKL.out; omega) := ⟨_, rfl⟩
            obtain ⟨x1, hx1⟩ : ∃ x1 : Nat, 4 + 2 * (i : Int) = (x1 : Int) := ⟨4 + 2 * i, by omega⟩
            obtain ⟨x2, hx2⟩ : ∃ x2 : Nat, 5 + 2 * (i : Int) = (x2 : Int) := ⟨5 + 2 * i, by omega⟩
            have hx1e : x1 = 4 + 2 * i := by omega
            have hx2e : x2 = 5 + 2 * i := by omega
            have pn1 : wr.cell? ⟨ka, koff + x1, none⟩ = some (.int .i64 (n : Int)) := by rw [hn, hx1e]; exact KC.out _ _
            have pm1 : wr.cell? ⟨ka, koff + x2, none⟩ = some (.int .i64 (m : Int)) := by rw [hm, hx2e]; exact KC.out _ _
            have bn : n < 1000000 := by rw [hn]; exact HKB.out _ (List.getElem_mem _)
            have bm : m < 1000000 := by rw [hm]; exact HKB.out _ (List.getElem_mem _)
            have x1l : (x1 : Int) < 24 := by omega
            have x2l : (x2 : Int) < 24 := by omega
            obtain ⟨av, hav⟩ : ∃ v, (m : Int) % 50 = v := ⟨_, rfl⟩
            obtain ⟨bv, hbv⟩ : ∃ v, (n : Int) % 7 = v := ⟨_, rfl⟩
            obtain ⟨px, hpx⟩ : ∃ v, ((n : Int) / 1000 % 13 - 6) * 900 = v := ⟨_, rfl⟩
            obtain ⟨py, hpy⟩ : ∃ v, ((m : Int) / 50 % 11 - 5) * 800 = v := ⟨_, rfl⟩
            obtain ⟨vx, hvx⟩ : ∃ v, ((m : Int) / 550 % 9 - 4) * 300 = v := ⟨_, rfl⟩
            obtain ⟨vy, hvy⟩ : ∃ v, ((n : Int) / 13000 % 9 - 4) * 300 = v := ⟨_, rfl⟩
            obtain ⟨q, hq⟩ : ∃ q : Nat, (m : Int) / 5000 % 5 = (q : Int) := ⟨m / 5000 % 5, by omega⟩
            have hq5 : (q : Int) < 5 := by omega
            obtain ⟨im, him, him2⟩ : ∃ im : Int, (#[Value.int .i64 1024, .int .i64 1024, .int .i64 512, .int .i64 2048, .int .i64 0] : Array Value)[q]? = some (.int .i64 im) ∧ 0 ≤ im ∧ im ≤ 4096 := by
              rcases (show q = 0 ∨ q = 1 ∨ q = 2 ∨ q = 3 ∨ q = 4 by omega) with e | e | e | e | e <;> subst e
              · exact ⟨1024, rfl, by omega⟩
              · exact ⟨1024, rfl, by omega⟩
              · exact ⟨512, rfl, by omega⟩
              · exact ⟨2048, rfl, by omega⟩
              · exact ⟨0, rfl, by omega⟩
            have HIM := Lib.hid him
            have HGB := Lib.hid (fun (rad : Int) (po : Option Addr) (pn pc : Nat) => (by
              unfold goodB bodyB d1 d2 d3 d4 d5 inB
              simp only [Bool.and_eq_true, decide_eq_true_eq]
              omega : goodB ⟨rad, po, pn, pc, px, py, vx, vy, im, av, bv⟩))
            have HPX := Lib.hid hpx
            have HPY := Lib.hid hpy
            have HVX := Lib.hid hvx
            have HVY := Lib.hid hvy
            have HQ := Lib.hid hq
            clear him hn hm hx1e hx2e hpx hpy hvx hvy hq
            go_wp2_with fail
            go_quiet (fail)
            go_wp2_with fail
            refine (shapeof_any (wr.drewN nq) (n : Int) (by unfold bounded; omega)).mono ?_
            rintro e w7 ⟨rad, po, pn, pc, rfl, hsa, f7, n7⟩
            have F7 := Lib.hid ((((Fr.refl [] wr).drewN nq)).trans f7 (by simp [Ext]))
            have HSA := Lib.hid hsa
            have N7 := Lib.hid (show ∀ k ∈ blk po, wr.heap.size ≤ k from n7)
            have hs67 : s6 < w7.heap.size := Nat.lt_of_lt_of_le (lt_of_blk HB6.out) F7.out.size
            have hww : wc.heap.size ≤ wr.heap.size := HF6.out.size
            have hwr7 : wr.heap.size ≤ w7.heap.size := F7.out.size
            have m1 : w7.cell? ⟨ka, koff + x2, none⟩ = some (.int .i64 (m : Int)) := by
              rw [World.cell?_of_block (a := ⟨ka, koff + x2, none⟩) (F7.out.block ka (Nat.lt_of_lt_of_le HST.out.kal HF6.out.size) (by simp))]; exact pm1
            clear hsa f7 n7 p0 p3 pn1 pm1 hx1 hx2
            go_upto_region 19 with (refine wpList_storeB rfl 52 (Operand.tmp 10) (Operand.tmp 122) rfl w7.heap.size 9 #[.int .i64 rad, .slice po pn pc, .int .i64 0, .int .i64 0, .int .i64 0, .int .i64 0, .int .i64 0, .int .i64 av, .int .i64 bv] rfl rfl _ 52 (by exact alloc_new _ _) rfl rfl infoBody (by simp [Value.oneCell']) ?_; intro w8 hb8 hf8; have F78 := Lib.hid (((Fr.refl [] w7).alloc _).trans hf8 (fun k hk => .inr (by simp at hk; rw [hk]; exact Nat.le_refl _))); have HX8 := Lib.hid hb8; clear hb8 hf8)
            refine r19_any _ rfl _ w8 w7.heap.size n m q rad po pn pc px py vx vy im av bv bn bm HPX.out HPY.out HVX.out HVY.out HQ.out hq5 HIM.out HX8.out _ _ _ _ _ _ _ _ _ _ _ _ _ _ _ _ _ _ _ _ _ _ _ _ _ _ _ _ _ _ _ _ _ _ _ _ _ _ _ _ _ _ _ _ _ _ _ _ _ _ _ _ _ _ _ _ _ _ _ _ _ _ _ _ _ _ _ _ _ _ _ _ _ _ _ _ _ _ _ _ _ _ _ _ _ _ _ _ _ _ _ _ _ _ _ _ _ _ _ _ _ _ _ _ _ _ _ _ _ _ _ _ _ _ _ _ _ _ _ _ _ _ _ _ _ _ _ _ _ _ _ _ _ _ _ _ _ _ _ _ _ _ _ _ _ _ _ _ _ _ _ _ _ _ _ _ _ ?_
            intro w9 v123 v124 v125 v126 v127 v128 v129 v130 v131 v132 v133 v134 v135 v136 v137 v138 v139 v140 v141 v142 v143 v144 v145 v146 v147 v148 v149 v150 v151 v152 hb9 hf9
            have F79 := Lib.hid (F78.out.trans hf9 (fun k hk => .inr (by simp at hk; rw [hk]; exact Nat.le_refl _)))
            have F69 := Lib.hid (F7.out.trans F79.out (by simp [Ext]))
            have hs9 := F69.out.blk HB6.out (by simp)
            have HS9 := Lib.hid hs9
            have HSG := Lib.hid (HSEG.out.fr F69.out (by simp))
            have H9 := Lib.hid hb9
            have hs6bo : s6 ∉ blk bo := fun hm => by have := HBN.out _ hm; omega
            clear hb9 hf9 hs9
            go_upto_region 20 with fail
            refine r20_any _ rfl _ w9 s6 w7.heap.size s bo bc i bodies rad po pn pc px py vx vy im av bv HS9.out H9.out HSG.out hs6bo (by omega) _ _ _ _ _ _ _ _ _ _ _ _ _ _ _ _ _ _ _ _ _ _ _ _ _ _ _ _ _ _ _ _ _ _ _ _ _ _ _ _ _ _ _ _ _ _ _ _ _ _ _ _ _ _ _ _ _ _ _ _ _ _ _ _ _ _ _ _ _ _ _ _ _ _ _ _ _ _ _ _ _ _ _ _ _ _ _ _ _ _ _ _ _ _ _ _ _ _ _ _ _ _ _ _ _ _ _ _ _ _ _ _ _ _ _ _ _ _ _ _ _ _ _ _ _ _ _ _ _ _ _ _ _ _ _ _ _ _ _ _ _ _ _ _ _ _ _ _ _ _ _ _ _ _ _ _ _ _ ?_
            intro ao' cap' w11 v153 v154 v155 v156 v157 v158 hb11 hs11 hf11 hx11
            have HB11 := Lib.hid hb11
            have HS11 := Lib.hid hs11
            have HF11 := Lib.hid hf11
            have HX11 := Lib.hid hx11
            clear hb11 hs11 hf11 hx11
            go_wp2_with fail
            go_roundw
            case rel =>
              have hsao : ∀ k ∈ blk ao', wc.heap.size ≤ k := fun k hk => by
                rcases HX11.out k hk with h | h
                · exact HBN.out k h
                · have := F69.out.size; omega
              have hNP7 : ∀ k ∈ blk po, k ∉ blk bo := fun k hk hm => by have h1 := N7.out k hk; have h2 := HSEG.out.lt k hm; omega
              have hF11 : Fr [s6] wc w11 := (HF6.out.trans F69.out (by simp [Ext])).trans HF11.out (fun k hk => by
                rcases List.mem_cons.1 hk with h | h
                · left; simp [h]
                · exact .inr (HBN.out k h))
              refine ⟨i + 1, bodies ++ [(⟨rad, po, pn, pc, px, py, vx, vy, im, av, bv⟩ : Bd)], ao', cap', by omega, by go_num, by rw [List.length_append, HBL.out]; rfl, HB11.out, hF11, HS11.out, hsao, fun d hd => ?_⟩
              rcases List.mem_append.1 hd with h | h
              · obtain ⟨g1, g2, g3⟩ := HALL.out d h
                refine ⟨g1, (g2.fr F69.out (by simp)).fr HF11.out (fun k hk hm => ?_), fun k hk => ⟨(g3 k hk).1, fun hm => ?_⟩⟩
                · rcases List.mem_cons.1 hm with h1 | h1
                  · have := (g3 k hk).1; omega
                  · exact (g3 k hk).2 h1
                · rcases HX11.out k hm with h1 | h1
                  · exact (g3 k hk).2 h1
                  · have := g2.lt k hk; have := F69.out.size; omega
              · simp only [List.mem_singleton] at h
                subst h
                refine ⟨HGB.out rad po pn pc, (HSA.out.fr F79.out (by simp)).fr HF11.out (fun k hk hm => ?_), fun k hk => ⟨by have := N7.out k hk; omega, fun hm => ?_⟩⟩
                · rcases List.mem_cons.1 hm with h1 | h1
                  · have := N7.out k hk; omega
                  · exact hNP7 k hk h1
                · rcases HX11.out k hm with h1 | h1
                  · exact hNP7 k hk h1
                  · have := HSA.out.lt k hk; have := F79.out.size; omega
            case measure => simp [intOf]; omega
          · have hiE : i = N := by omega
            have HIE := Lib.hid hiE
            have HR6 := Lib.hid (by
              have h1 := HST.out.fr.blk HBR.out (by simp)
              have h2 : r0 < wb.heap.size := lt_of_blk HBR.out
              have h3 := HST.out.ns
              exact HF6.out.blk h1 (by simp; omega) : wr.heap[r0]? = some (.cells ZS 31 (0, 0)))
            have HZ16 := Lib.hid (by rw [HZS.out]; rfl : ZS.size = 16)
            clear hiE
            go_wp2_with fail
            go_quiet (fail)
            go_wp2_with (first | (refine wpList_storeB rfl 31 (Operand.tmp 2) (Operand.tmp 159) rfl r0 16 (stCells (sw s bo i bc)) rfl rfl ZS 31 HR6.out HZ16.out rfl infoSetup (by simp [stCells, Value.oneCell']) ?_; intro wf hbf hff; have HBF := Lib.hid hbf; have HFF := Lib.hid hff; clear hbf hff) | (refine wpList_loadB rfl 31 (Operand.tmp 6) rfl s6 16 rfl (stCells (sw s bo i bc)) 31 (0, 0) HB6.out _ Try.underlying31 rfl rfl infoSetup ?_))
            have q0 : wf.cell? ⟨r0, 0, none⟩ = some (.int .i64 s.players) := cell_blk HBF.out 0
            have q1 : wf.cell? ⟨r0, 1, none⟩ = some (.slice bo i bc) := cell_blk HBF.out 1
            have q2 : wf.cell? ⟨r0, 2, none⟩ = some (.int .i64 s.x0) := cell_blk HBF.out 2
            have q3 : wf.cell? ⟨r0, 3, none⟩ = some (.int .i64 s.y0) := cell_blk HBF.out 3
            have q4 : wf.cell? ⟨r0, 4, none⟩ = some (.int .i64 s.x1) := cell_blk HBF.out 4
            have q5 : wf.cell? ⟨r0, 5, none⟩ = some (.int .i64 s.y1) := cell_blk HBF.out 5
            have q6 : wf.cell? ⟨r0, 6, none⟩ = some (.slice s.ro s.rn s.rc) := cell_blk HBF.out 6
            have q7 : wf.cell? ⟨r0, 7, none⟩ = some (.slice s.dO s.dn s.dc) := cell_blk HBF.out 7
            have q8 : wf.cell? ⟨r0, 8, none⟩ = some (.int .i64 s.fog) := cell_blk HBF.out 8
            have q9 : wf.cell? ⟨r0, 9, none⟩ = some (.int .i64 s.gx) := cell_blk HBF.out 9
            have q10 : wf.cell? ⟨r0, 10, none⟩ = some (.int .i64 s.gy) := cell_blk HBF.out 10
            have q11 : wf.cell? ⟨r0, 11, none⟩ = some (.int .i64 s.push) := cell_blk HBF.out 11
            have q12 : wf.cell? ⟨r0, 12, none⟩ = some (.int .i64 s.drag) := cell_blk HBF.out 12
            have q13 : wf.cell? ⟨r0, 13, none⟩ = some (.int .i64 s.rest) := cell_blk HBF.out 13
            have q14 : wf.cell? ⟨r0, 14, none⟩ = some (.int .i64 s.rounds) := cell_blk HBF.out 14
            have q15 : wf.cell? ⟨r0, 15, none⟩ = some (.int .i64 s.fuel) := cell_blk HBF.out 15
            refine bodyPost_ret (v := (sw s bo i bc).val) (by simp [results, Try.results11, go_sem, q0, q1, q2, q3, q4, q5, q6, q7, q8, q9, q10, q11, q12, q13, q14, q15]; rfl) rfl ?_
            have hrw : r0 < wb.heap.size := lt_of_blk HBR.out
            have hwbc : wb.heap.size ≤ wc.heap.size := HST.out.fr.size
            have FF := Lib.hid (show Fr [r0] wr wf from ⟨HFF.out.os, HFF.out.tape, HFF.out.output, HFF.out.size, HFF.out.block⟩)
            have hbr : ∀ k ∈ blk bo, k ∉ [r0] := fun k hk hm => by have := HBN.out k hk; simp at hm; omega
            have hsz := HWB.out.size
            refine ⟨sw s bo i bc, bodies, doors, rfl, HBL.out.symm, ?_, ⟨HST.out.map.rn, HST.out.map.dn, ?_, ?_⟩, HST.out.mok, HST.out.num, ?_, ?_, fun d hd => ⟨(HALL.out d hd).1, (HALL.out d hd).2.1.fr FF.out (fun k hk hm => by have := ((HALL.out d hd).2.2 k hk).1; simp at hm; omega)⟩, ?_, fun k hk => by have := HBN.out k hk; omega, fun k hk hm => by (have h1 := HST.out.map.roomLt (by simp [roomsL]) k hk; have h2 := HBN.out k hm; omega), (HST.out.map.doorLt).imp id (fun h k hk hm => by (have h1 := h k hk; have h2 := HBN.out k hm; omega))⟩
            · rw [HBL.out]; exact HSEG.out.fr FF.out hbr
            · exact (HST.out.map.rr.fr HF6.out (fun k hk hm => by have := (HST.out.nr k hk).2; simp at hm; omega)).fr FF.out (fun k hk hm => by have := (HST.out.nr k hk).1; simp at hm; omega)
            · exact (HST.out.map.dr.fr HF6.out (fun k hk hm => by have := (HST.out.nd k hk).2; simp at hm; omega)).fr FF.out (fun k hk hm => by have := (HST.out.nd k hk).1; simp at hm; omega)
            · show s.players ≤ (bodies.length : Int)
              rw [HPP.out, HBL.out, HIE.out]; omega
            · rw [HBL.out]; omega
            · have h1 : Fr [] w wc := HWB.out.trans HST.out.fr (by simp [Ext])
              have h2 : Fr [] w wr := h1.trans HF6.out (fun k hk => .inr (by simp at hk; rw [hk]; have := HST.out.ns; omega))
              exact h2.trans FF.out (fun k hk => .inr (by simp at hk; rw [hk, HR0.out]; exact Nat.le_refl _))
end Go.Proofs.Ytlfomhknfpmhbaa

