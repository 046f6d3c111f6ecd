/- Package rangecoder: Decode. -/
import Derived.Test.YtjehkpfmndfjeaaEqual
namespace Go.Proofs.Ytjehkpfmndfjeaa
open Go.RowKit

/-- what Decode returns -/
def DecRes (w : World) (r : List Nat × Int) (e : Ending) (w' : World) : Prop :=
  ∃ oa oc, e = .returned (.tuple #[.slice oa r.1.length oc, .int .i64 r.2]) ∧ Seg w' 5 1 oa r.1.length oc (bts r.1) ∧ Fr [] w w' ∧ ∀ k ∈ blk oa, w.heap.size ≤ k
theorem dec_none {w w' : World} {err : Int} (hf : Fr [] w w') : DecRes w ([], err) (.returned (.tuple #[.slice none 0 0, .int .i64 err])) w' :=
  ⟨none, 0, rfl, by simpa [bts] using Seg.nil w' _ _, hf, by simp [blk]⟩

theorem zeroDec (w : World) : (zeroValue 62).run Try.prog w = .ok (.agg (mdV mdz ++ [Value.slice none 0 0, Value.int .u32 0]).toArray) w := by kernel_rfl

def nexts : Nat → Ds → Ds
  | 0, s => s
  | k + 1, s => (nexts k s).next
theorem nexts4 {R : List Nat} (h : Bytes R) : nexts 4 { m := md0, code := 0, rest := R } = ds0 R := by
  have h0 := h.get 0; have h1 := h.get 1; have h2 := h.get 2; have h3 := h.get 3
  have e : ∀ i, (R.drop i).getD 0 0 = R.getD i 0 := fun i => by simp [List.getD_eq_getElem?_getD]
  simp only [nexts, Ds.next, ds0, List.drop_drop, e, Ds.mk.injEq, true_and]
  unfold win
  refine ⟨?_, trivial⟩
  have a2 : R.getD (1 + 1) 0 = R.getD 2 0 := rfl
  have a3 : R.getD (1 + 1 + 1) 0 = R.getD 3 0 := rfl
  simp only [Nat.zero_mul, Nat.zero_mod, Nat.zero_add, a2, a3]
  omega

theorem dec_start {w2 : World} {ra : Option Addr} {rc : Nat} {R : List Nat} {U : Array Value} (hU : U = (mdV md0 ++ [Value.slice none 0 0, Value.int .u32 0]).toArray) (hr : Rd w2 1 ra R.length (bts R)) (hc : R.length ≤ rc) (hcm : rc ≤ maxLen) (hb : Bytes R) (hp : ∀ k ∈ blk ra, k < w2.heap.size) (o : Obj) :
    IsDec ((w2.alloc (.cells (U.setIfInBounds 258 (.slice ra R.length rc)) 62)).alloc o) w2.heap.size { m := md0, code := 0, rest := R } := by
  have he : U.setIfInBounds 258 (.slice ra R.length rc) = (mdV md0 ++ [Value.slice ra R.length rc, Value.int .u32 0]).toArray := by
    rw [hU, List.setIfInBounds_toArray, List.set_append_right _ _ (by rw [mdV_length, md0_ok.len]; omega), mdV_length, md0_ok.len]
    rfl
  refine ⟨ra, rc, ⟨?_, md0_ok.len⟩, hr.fr (((Fr.refl [] w2).alloc _).alloc _) (by simp), hc, hcm, hp, by simp, hb⟩
  rw [he]
  exact alloc_old (alloc_new w2 _)

theorem make_bytes0 (n : Nat) (hn : n ≤ 4000) (u : World) :
    (Instr.makeSlice 22 (.int .i64 0) (.int .i64 n)).run Try.prog u = .ok (.slice (some ⟨u.heap.size, 0, none⟩) 0 n) (u.alloc (.cells (bts (List.replicate n 0)).toArray 5)) := by
  obtain ⟨i0, hi, hz0, hz1, hz2⟩ := info_parts infoByte
  have h := run_make (P := Try.prog) u 22 5 i0 (.int .u8 0) Try.underlying22 hi hz0 .i64 .i64 0 n (by omega) (by omega) (by rw [hz2]; omega) (by omega)
  rw [h]
  have e : madeCells (Value.int .u8 0).cells (Int.toNat n * i0.size) = (bts (List.replicate n 0)).toArray := by
    have := toList_madeCells_one (.int .u8 0) n
    rw [hz1, Int.toNat_natCast, Nat.mul_one, bts, List.map_replicate]
    have e0 : Value.int IntKind.u8 ((0 : Nat) : Int) = Value.int .u8 0 := rfl
    rw [e0, ← this]
    rfl
  rw [e]
  simp

/-- the loop of Decode: k bytes have been decoded -/
def DInv (w : World) (p n : Nat) (B : List Nat) (k : Nat) (ov : Value) (wr : World) : Prop :=
  ∃ oa oc dn sk, ov = .slice oa dn.length oc ∧ dn.length = k ∧ dn ++ sk.bytes (n - k) = B ∧ Bytes dn ∧ sk.m.Rdy ∧ IsDec wr p sk ∧ Seg wr 5 1 oa dn.length oc (bts dn) ∧ (∀ b ∈ blk oa, p + 1 < b) ∧ wr.heap[p + 1]? = some (.cells #[.pointer (some ⟨p, 0, none⟩)] 60 (0, 0)) ∧ Fr [] w wr

theorem DInv.add {w wr w5 w6 : World} {p n k : Nat} {B dn : List Nat} {sk : Ds} {oa ao' : Option Addr} {cap' : Nat} {o : Obj} (hw : w.heap.size ≤ p) (hk : dn.length = k) (hkn : k < n) (hB : dn ++ sk.bytes (n - k) = B) (hdn : Bytes dn) (hsk : sk.m.Rdy) (hn : ∀ b ∈ blk oa, p + 1 < b)
    (hd : wr.heap[p + 1]? = some (.cells #[.pointer (some ⟨p, 0, none⟩)] 60 (0, 0))) (hf : Fr [] w wr) (h5 : DecTo wr p sk.byte.2 w5)
    (hs : Seg w6 5 1 ao' (dn.length + 1) cap' (bts dn ++ [.int .u8 (sk.byte.1 : Int)])) (h1 : Fr (blk oa) (w5.alloc o) w6) (h2 : Ext (blk oa) (w5.alloc o) (blk ao')) :
    DInv w p n B (k + 1) (.slice ao' (dn.length + 1) cap') w6 := by
  obtain ⟨h5, h5f⟩ := h5
  have hpl : p < wr.heap.size := Nat.lt_of_succ_lt (lt_of_blk hd)
  have hp1 := lt_of_blk hd
  have hpn : p ∉ blk oa := fun hm => by have := hn p hm; omega
  have hp1n : p + 1 ∉ blk oa := fun hm => by have := hn _ hm; omega
  have h56 : Fr (blk oa) w5 w6 := ((Fr.refl (blk oa) w5).alloc o).trans h1 (Ext.refl _ _)
  refine ⟨ao', cap', dn ++ [sk.byte.1], sk.byte.2, by simp, by simp [hk], ?_, hdn.append (fun x hx => by simp at hx; subst hx; simp only [Ds.byte]; omega), ?_, ?_, ?_, fun b hb => ?_, ?_, ?_⟩
  · rw [← hB, show n - k = (n - (k + 1)) + 1 by omega, Ds.bytes, List.append_assoc]; rfl
  · exact byteFrom_rdy 8 hsk (by omega)
  · exact h5.fr h56 hpn (fun k hk => by have := hn k hk; omega)
  · rw [bts_append, List.length_append]; exact hs
  · rcases h2 b hb with h | h
    · exact hn b h
    · have := h5f.size; simp at h; omega
  · exact h56.blk (h5f.blk hd (by simp)) hp1n
  · have h6 : Fr (p :: blk oa) wr w6 := (h5f.mono (by simp)).trans (h56.mono (fun k hk => by simp [hk])) (Ext.refl _ _)
    exact hf.trans h6 (fun k hk => .inr (by
      simp only [List.mem_cons] at hk
      rcases hk with rfl | hk
      · exact hw
      · have := hn k hk; omega))

theorem readLen_bytes : ∀ (k i n : Nat) (l : List Nat), Bytes l → Bytes (readLen k i n l).2.1
  | 0, _, _, _, _ => by intro x hx; simp [readLen] at hx
  | _ + 1, _, _, [], _ => by intro x hx; simp [readLen] at hx
  | k + 1, i, n, x :: r, h => by
    unfold readLen
    split
    · split
      · intro y hy; simp at hy
      · exact h.tail
    · exact readLen_bytes k _ _ r h.tail

theorem Rd.old {w : World} {ao : Option Addr} {n : Nat} {xs : List Value} {w' : World} (h : Rd w 1 ao n xs) (hf : Fr [] w w') : Rd w' 1 ao n xs := h.fr hf (by simp)

theorem seg_make (u : World) (n : Nat) (hn : n ≤ 4000) : Seg (u.alloc (.cells (bts (List.replicate n 0)).toArray 5)) 5 1 (some ⟨u.heap.size, 0, none⟩) 0 n (bts []) :=
  ⟨by simp [bts], by unfold maxLen; omega, by omega, .inr ⟨u.heap.size, 0, _, rfl, alloc_new _ _, by simp [bts], by simp [bts]⟩⟩

theorem DInv.start {w wX wr : World} {p n : Nat} {s : Ds} (hn : n ≤ 4000) (hm : s.m.Rdy) (hF : Fr [] w wX) (hw : w.heap.size ≤ p) (hd : wX.heap[p + 1]? = some (.cells #[.pointer (some ⟨p, 0, none⟩)] 60 (0, 0))) (h : DecTo wX p s wr) :
    DInv w p n (s.bytes n) 0 (.slice (some ⟨wr.heap.size, 0, none⟩) 0 n) (wr.alloc (.cells (bts (List.replicate n 0)).toArray 5)) := by
  have hd2 := h.2.blk hd (by simp)
  have hl := lt_of_blk hd2
  refine ⟨_, n, [], s, rfl, rfl, by simp, by intro x hx; simp at hx, hm, h.1.fr (S := []) ((Fr.refl [] wr).alloc _) (by simp) (by simp), seg_make wr n hn, fun b hb => ?_, alloc_old hd2, (hF.trans h.2 (fun k hk => by simp at hk; subst hk; exact .inr hw)).alloc _⟩
  simp [blk] at hb; omega

set_option maxRecDepth 100000 in
set_option maxHeartbeats 4000000 in
theorem decode_any (w : World) (ao : Option Addr) (cap : Nat) (l : List Nat) (hrd : Rd w 1 ao l.length (bts l)) (hb : Bytes l) (hc : l.length ≤ cap) (hcm : cap ≤ maxLen) (hao : ∀ k ∈ blk ao, k < w.heap.size) :
    Calls Try.prog 17 #[.slice ao l.length cap] w (DecRes w (dec l)) := by
  have HRL := Lib.hid (readlen_any w ao cap l hrd hb hc hcm)
  have HRD := Lib.hid hrd
  have HB := Lib.hid hb
  have HAO := Lib.hid hao
  obtain ⟨n, R, er, hr⟩ : ∃ n R er, readLen 5 0 0 l = (n, R, er) := ⟨_, _, _, rfl⟩
  have hdec : dec l = if er = 0 then (if 4000 < n then ([], 2) else if enc ((ds0 R).bytes n) = l then ((ds0 R).bytes n, 0) else ([], 8)) else ([], er) := by
    unfold dec; rw [hr]
  have hRB : Bytes R := by
    have := readLen_bytes 5 0 0 l hb
    rw [hr] at this; exact this
  rw [hr] at HRL
  have HD := Lib.hid hdec
  have HRB := Lib.hid hRB
  clear hrd hb hcm hao hr hdec hRB
  by_cases her : er = 0
  · subst her
    by_cases hn : 4000 < n
    · have HDE := Lib.hid (by rw [HD.out, if_pos rfl, if_pos hn] : dec l = ([], 2))
      go_enter Try.func17, Try.ntmps17
      go_wp2_with fail
      refine HRL.out.mono ?_
      rintro e w1 ⟨ra, rc, rfl, _, _, _, _, hf⟩
      have HF := Lib.hid hf
      clear hf
      go_wp2_with fail
      go_ret2
      exact HDE.out ▸ dec_none HF.out
    · have hdn : dec l = if enc ((ds0 R).bytes n) = l then ((ds0 R).bytes n, 0) else ([], 8) := by rw [HD.out, if_pos rfl, if_neg hn]
      have HDN := Lib.hid hdn
      have hn4 : n ≤ 4000 := by omega
      have hz := zeroDec
      obtain ⟨Z, hZ⟩ : ∃ Z, Z = (mdV mdz ++ [Value.slice none 0 0, Value.int .u32 0]).toArray := ⟨_, rfl⟩
      rw [← hZ] at hz
      obtain ⟨V, hV⟩ : ∃ V, V = (mdV md0).toArray := ⟨_, rfl⟩
      have hZs : Z.size = 260 := by
        rw [hZ, List.size_toArray, List.length_append, mdV_length]
        show (List.replicate 256 0).length + 2 + 2 = 260
        rw [List.length_replicate]
      have hVs : V.size = 258 := by rw [hV, List.size_toArray, mdV_length, md0_ok.len]
      have hfold : Array.foldl (fun (cs : Array Value) (x : Value × Nat) => cs.setIfInBounds x.2 x.1) Z V.zipIdx 0 258 = (mdV md0 ++ [Value.slice none 0 0, Value.int .u32 0]).toArray := by
        rw [fill_arr V Z 258 hVs (by omega), hZ, hV]
        congr 2
      obtain ⟨U, hU⟩ : ∃ U, U = (mdV md0 ++ [Value.slice none 0 0, Value.int .u32 0]).toArray := ⟨_, rfl⟩
      rw [← hU] at hfold
      have hUs : U.size = 260 := by rw [hU, List.size_toArray, List.length_append, mdV_length, md0_ok.len]; rfl
      have HU := Lib.hid hU
      have HNM := Lib.hid newmodel_any
      unfold ModelV at HNM
      rw [← hV] at HNM
      have hmf : ∀ (fn : Fn) (first cp : Array Value) (w : World), (Instr.makeFunc fn first cp).run Try.prog w = .ok (.func fn first cp) w := fun _ _ _ _ => rfl
      have hmk := make_bytes0 n hn4
      have HD4 := Lib.hid (nexts4 HRB.out)
      clear hdn hV hZ hU hn
      go_enter Try.func17, Try.ntmps17
      go_wp2_with fail
      refine HRL.out.mono ?_
      rintro e w1 ⟨ra, rc, rfl, hr1, hr2, hr3, hr4, hf⟩
      simp only at hr1 hr2 hr3 hr4
      have HR1 := Lib.hid hr1
      have HR4 := Lib.hid (fun k hk => HAO.out k (hr4 k hk) : ∀ k ∈ blk ra, k < w.heap.size)
      have HF := Lib.hid hf
      have HR3 := Lib.hid hr3
      clear hf hr1 hr3 hr4
      go_wp2_with fail
      refine (HNM.out _).mono ?_
      rintro e w2 ⟨rfl, hf2⟩
      have HF2 := Lib.hid (HF.out.trans hf2 (by simp [Ext]))
      clear hf2
      go_wp2_with fail
      have HST := Lib.hid fun (o : Obj) => dec_start (w2 := w2) HU.out (HR1.out.fr HF2.out (by simp)) hr2 HR3.out HRB.out (fun k hk => Nat.lt_of_lt_of_le (HR4.out k hk) HF2.out.size) o
      have HDV := Lib.hid (fun (o1 o2 : Obj) => (by have := alloc_new (w2.alloc o1) o2; rwa [World.size_alloc] at this : ((w2.alloc o1).alloc o2).heap[w2.heap.size + 1]? = some o2))
      have hpw := HF2.out.size
      obtain ⟨p, hp⟩ : ∃ p, p = w2.heap.size := ⟨_, rfl⟩
      obtain ⟨s0, hs0⟩ : ∃ s0 : Ds, s0 = { m := md0, code := 0, rest := R } := ⟨_, rfl⟩
      rw [← hs0] at HST HD4
      obtain ⟨wX, hwX⟩ : ∃ wX, wX = ((w2.alloc (.cells (U.setIfInBounds 258 (.slice ra R.length rc)) 62)).alloc (.cells #[.pointer (some ⟨w2.heap.size, 0, none⟩)] 60)) := ⟨_, rfl⟩
      rw [← hwX]
      have HE1 := Lib.hid (hwX ▸ HST.out _ : IsDec wX w2.heap.size s0)
      have HD1 := Lib.hid (hwX ▸ HDV.out _ _ : wX.heap[w2.heap.size + 1]? = some (.cells #[.pointer (some ⟨w2.heap.size, 0, none⟩)] 60 (0, 0)))
      have HFX := Lib.hid (hwX ▸ (HF2.out.alloc _).alloc _ : Fr [] w wX)
      rw [← hp] at HE1 HD1 hpw ⊢
      have HP := Lib.hid hpw
      clear hwX hp hs0 HST HDV HF2 hfold hz hUs hZs hVs HU hpw HF HR1 HR4 HNM HRL hr2 HR3
      go_loopw [24] (fun i wr => ∃ k : Nat, k ≤ 4 ∧ i = .int .i64 k ∧ DecTo wX p (nexts k s0) wr) (fun i _ => 4 - (intOf i).toNat)
      case atStart => exact ⟨0, by omega, rfl, HE1.out.to⟩
      case round =>
        obtain ⟨k, hk, rfl, hinv⟩ := hrel
        by_cases hk4 : k < 4
        · have g1 := cell_blk (hinv.2.blk HD1.out (by simp)) 0
          have HF2 := Lib.hid hinv.2
          have HNX := Lib.hid (next_any hinv.1)
          clear hinv
          go_wp2_with fail
          refine HNX.out.mono ?_
          rintro e w5 ⟨rfl, hp⟩
          have H5 := Lib.hid hp
          clear hp
          go_wp2_with fail
          go_roundw
          case rel => exact ⟨k + 1, by omega, by go_num, DecTo.trans HF2.out H5.out⟩
          case measure => simp [intOf]; omega
        · obtain rfl : k = 4 := by omega
          rw [HD4.out] at hinv
          have hst := DInv.start hn4 (s := ds0 R) md0_rdy HFX.out HP.out HD1.out hinv
          have HST := Lib.hid hst
          clear hst hinv
          obtain ⟨B, hB⟩ : ∃ B, B = (ds0 R).bytes n := ⟨_, rfl⟩
          have hBl : B.length = n := by rw [hB, Ds.bytes_length]
          rw [← hB] at HST HDN
          have HBL := Lib.hid hBl
          clear hB hBl
          go_wp2_with fail
          clear hmk
          go_loopw [8, 32] (fun ov i w2 => ∃ k : Nat, k ≤ n ∧ i = .int .i64 k ∧ DInv w p n B k ov w2) (fun _ i _ => n - (intOf i).toNat)
          case atStart => exact ⟨0, Nat.zero_le _, rfl, HST.out⟩
          case round =>
            clear HST
            obtain ⟨k, hk, rfl, oa, oc, dn, sk, rfl, h1, h2, h3, h4, h5, h6, h7, h8, h9⟩ := hrel
            have H2 := Lib.hid h2
            have H3 := Lib.hid h3
            have H4 := Lib.hid h4
            have H6 := Lib.hid h6
            have H7 := Lib.hid h7
            have H8 := Lib.hid h8
            have H9 := Lib.hid h9
            have g1 := cell_blk h8 0
            have hdl : dn.length ≤ 4000 := by omega
            have H1 := Lib.hid h1
            by_cases hkn : k < n
            · have HW := Lib.hid (walkdec_any h5 h4 g1 (by omega))
              clear h1 h2 h3 h4 h5 h6 h7 h8 h9
              go_wp2_with fail
              refine HW.out.mono ?_
              rintro e w5 ⟨rfl, hp⟩
              have HP5 := Lib.hid hp
              have HS := Lib.hid fun (o : Obj) => (H6.out.fr hp.2 (fun b hb hm => by simp at hm; subst hm; have := H7.out _ hb; omega)).alloc o
              have HNE := Lib.hid (fun (v : Value) j u hu => by
                rw [Addr.add_mid, Nat.zero_add, World.cell?_alloc_new]; simpa using hu : ∀ v j u, [v][j]? = some u → (w5.alloc (.cells #[v] 5)).cell? ((⟨w5.heap.size, 0, none⟩ : Addr).add j) = some u)
              clear hp
              obtain ⟨i0, hi0, hz0, hz1, hz2⟩ := info_parts infoByte
              go_wp2_with (at_builtin; refine wpList_append_seg rfl _ _ 22 rfl 5 i0 _ 1 1 Try.underlying22 hi0 hz0 hz1 hz2 rfl (by decide) oa dn.length oc (bts dn) rfl (HS.out _) ⟨w5.heap.size, 0, none⟩ 1 1 [_] rfl rfl (HNE.out _) (by simp [Value.oneCell']) (by unfold maxLen; omega) (by omega) ?_; intro ao' cap' w6 hs6 hf6 hx6; have HS6 := Lib.hid hs6; have HF6 := Lib.hid hf6; have HX6 := Lib.hid hx6; clear hs6 hf6 hx6)
              go_roundw
              case rel => (repeat apply Exists.intro); exact ⟨⟨k + 1, by omega, by go_num, DInv.add HP.out H1.out hkn H2.out H3.out H4.out H7.out H8.out H9.out HP5.out HS6.out HF6.out HX6.out⟩, rfl⟩
              case measure => simp [intOf]; omega
            · have hdn : dn = B := by
                have := H2.out
                rw [show n - k = 0 by omega, Ds.bytes, List.append_nil] at this
                exact this
              subst hdn
              have HENC := Lib.hid (encode_any _ oa oc dn h6.rd h3 (by omega))
              clear h1 h2 h3 h4 h5 h6 h7 h8 h9 g1
              go_wp2_with fail
              refine HENC.out.mono ?_
              rintro e w5 ⟨ea, ec, rfl, hs5, hf5, hn5⟩
              have HS5 := Lib.hid hs5
              have HF5 := Lib.hid hf5
              clear hs5 hf5 hn5
              have HEQ := Lib.hid (equal_any w5 ea ao ec cap (enc dn) l HS5.out.rd ((HRD.out.fr H9.out (by simp)).fr HF5.out (by simp)) (enc_bytes dn) HB.out)
              go_wp2_with fail
              refine HEQ.out.mono ?_
              rintro e w6 ⟨rfl, rfl⟩
              by_cases heq : enc dn = l
              · have HDE := Lib.hid (by rw [HDN.out, if_pos heq] : dec l = (dn, 0))
                have hdt : decide (enc dn = l) = true := decide_eq_true heq
                rw [hdt]
                clear heq hdt
                go_wp2_with fail
                go_ret2
                exact HDE.out ▸ ⟨oa, oc, rfl, H6.out.fr HF5.out (by simp), H9.out.trans HF5.out (by simp [Ext]), fun b hb => by have := H7.out b hb; have := HP.out; omega⟩
              · have HDE := Lib.hid (by rw [HDN.out, if_neg heq] : dec l = ([], 8))
                have hdt : decide (enc dn = l) = false := decide_eq_false heq
                rw [hdt]
                clear heq hdt
                go_wp2_with fail
                go_ret2
                exact HDE.out ▸ dec_none (H9.out.trans HF5.out (by simp [Ext]))
  · have HDE := Lib.hid (by rw [HD.out, if_neg her] : dec l = ([], er))
    have hne : (er != 0) = true := bne_iff_ne.2 her
    clear her
    go_enter Try.func17, Try.ntmps17
    go_wp2_with fail
    refine HRL.out.mono ?_
    rintro e w1 ⟨ra, rc, rfl, _, _, _, _, hf⟩
    have HF := Lib.hid hf
    clear hf
    go_wp2_with fail
    go_ret2
    exact HDE.out ▸ dec_none HF.out
end Go.Proofs.Ytjehkpfmndfjeaa
