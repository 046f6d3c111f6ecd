/- FeedRd, Equal, Decode, FeedRecv (merged by merge.py). -/
import Derived.Test.YtodfeaipoagphaaZ3011
import Derived.Test.YtodfeaipoagphaaZ308
import Derived.Laws.BytesArg
import Derived.Lib.Bytes
import Derived.Shelf.Bytes.SlEqualAll
/- Package feed: readVarint, readHeader (numbers that are there). -/
namespace Go.Proofs.Ytodfeaipoagphaa
open Go.RowKit

theorem varN_digits (n : Nat) : varN n = digits n := by
  induction n using Nat.strongRecOn with
  | _ n ih =>
    by_cases h : n < 128
    · rw [varN_lt h, digits, dif_pos h]
    · rw [varN_ge (by omega), digits, dif_neg h, ih (n / 128) (by omega)]
theorem readLen_var (n : Nat) (R : List Nat) (h : n < 268435456) : readLen 4 0 0 (varN n ++ R) = (n, R, 0) := by
  rw [varN_digits, readLen_digits 3 0 0 n R (by omega) (by omega)]
  simp

set_option maxRecDepth 100000 in
set_option maxHeartbeats 4000000 in
theorem rvar_any (w : World) (ao : Option Addr) (cap : Nat) (l : List Nat) (hrd : Rd w 1 ao l.length (bts l)) (hb : Bytes l) (hc : l.length ≤ cap) (hcm : cap ≤ maxLen) (R : Nat × List Nat × Int) (hRR : readLen 4 0 0 l = R) (hOk : R.2.2 = 0) :
    Calls Try.prog 48 #[.slice ao l.length cap] w (RLTo w ao R) := by
  have hlen : l.length ≤ 9223372036854775807 := by have := hrd.2.1; unfold maxLen at this; omega
  have hcl : cap ≤ 9223372036854775807 := by unfold maxLen at hcm; omega
  have HRD := Lib.hid hrd
  have HB := Lib.hid hb
  have HCM := Lib.hid hcm
  have HSL := Lib.hid fun (i : Nat) (hi : i + 1 ≤ l.length) => run_slice_from (P := Try.prog) 33 5 Try.underlying33 1 (by kernel_rfl) ao l.length cap (i + 1) hi
  have hR : R = readLen 4 0 0 l := hRR.symm
  have HOK := Lib.hid hOk
  clear hRR hOk
  have HS := Lib.hid (⟨0, 0, by omega, by omega, rfl, rfl, by omega, hR.symm, Fr.refl _ _⟩ : ∃ (i n : Nat), i ≤ 4 ∧ i ≤ l.length ∧ Value.int .i64 0 = .int .i64 (n : Int) ∧ Value.int .i64 0 = .int .i64 (i : Int) ∧ n < 128 ^ i ∧ readLen (4 - i) i n (l.drop i) = R ∧ Fr [] w w)
  clear hrd hb hcm hR
  go_enter Try.func48, Try.ntmps48
  go_wp2_with fail
  go_loopw [5, 7] (fun nv iv wr => ∃ (i n : Nat), i ≤ 4 ∧ i ≤ l.length ∧ nv = .int .i64 (n : Int) ∧ iv = .int .i64 (i : Int) ∧ n < 128 ^ i ∧ readLen (4 - i) i n (l.drop i) = R ∧ Fr [] w wr) (fun _ iv _ => 4 - (intOf iv).toNat)
  case atStart => exact HS.out
  case round =>
    clear HS
    obtain ⟨i, n, hi5, hil, rfl, rfl, hn, hR, hf⟩ := hrel
    have HF := Lib.hid hf
    by_cases h5 : i < 4
    · by_cases hl : i < l.length
      · obtain ⟨g, off, rfl, hg, hcc⟩ := HRD.out.at (by omega)
        have cx : wr.cell? ⟨g, off + i, none⟩ = some (.int .u8 ((l[i] : Nat) : Int)) := by
          rw [World.cell?_of_block (a := ⟨g, off + i, none⟩) (hf.block g hg (by simp)), hcc i (by omega), bts_get, List.getElem?_eq_getElem hl]; rfl
        have hx : l[i] < 256 := HB.out _ (List.getElem_mem hl)
        have hdr : l.drop i = l[i] :: l.drop (i + 1) := List.drop_eq_getElem_cons hl
        obtain ⟨k, hk⟩ : ∃ k, 4 - i = k + 1 := ⟨3 - i, by omega⟩
        rw [hdr, hk, readLen] at hR
        obtain ⟨x, hx2⟩ : ∃ x, x = l[i] := ⟨_, rfl⟩
        rw [← hx2] at cx hx hR
        have HX := Lib.hid hx2
        have HR := Lib.hid hR
        have HN := Lib.hid hn
        have HK := Lib.hid hk
        have ha := and127 x hx
        have hneb : ((i : Int) == (l.length : Int)) = false := beq_eq_false_iff_ne.2 (by omega)
        have w7 : IntKind.i64.wrap (7 * (i : Int)) = 7 * (i : Int) := IntWalk.i64_in _ (by omega)
        have hdo := digit_or n (x % 128) i (by omega) hn (by omega)
        rw [Int.natCast_emod, show ((128 : Nat) : Int) = 128 from rfl] at hdo
        obtain ⟨N, hN⟩ : ∃ N, N = n + x % 128 * 128 ^ i := ⟨_, rfl⟩
        rw [← hN] at hdo
        have HNN := Lib.hid hN
        have HCUT := Lib.hid (cut_rd (n := n) HRD.out (show i + 1 ≤ l.length by omega) hc)
        clear hf hcc hdr hR hn hk hx2 hN
        by_cases hx8 : x < 128
        · by_cases hz : 0 < i ∧ x = 0
          · obtain ⟨hz1, hz2⟩ := hz
            have hRe := HR.out
            rw [if_pos hx8, if_pos ⟨hz1, hz2⟩] at hRe
            have HRE := Lib.hid hRe
            have hzb : ((x : Int) == 0) = true := beq_iff_eq.2 (by omega)
            have := HOK.out
            rw [← HRE.out] at this
            cases this
          · have hRe := HR.out
            rw [if_pos hx8, if_neg hz] at hRe
            have HRE := Lib.hid hRe
            have hmod : x % 128 = x := Nat.mod_eq_of_lt hx8
            have HMOD := Lib.hid hmod
            have hsl : ∀ u : World, (Instr.slice 33 (.slice (some ⟨g, off, none⟩) l.length cap) (some (.int .i64 ((i : Int) + 1))) none none).run Try.prog u = .ok (.slice (cutA (some ⟨g, off, none⟩) (i + 1) cap 1) (l.length - (i + 1)) (cap - (i + 1))) u := HSL.out i (by omega)
            have HSL2 := Lib.hid hsl
            have w8 : IntKind.i64.wrap ((i : Int) + 1) = (i : Int) + 1 := IntWalk.i64_in _ (by omega)
            have hzz : 0 < i → ((x : Int) == 0) = false := fun h => beq_eq_false_iff_ne.2 (by omega)
            clear hRe HR hmod
            rcases Nat.eq_zero_or_pos i with hi0 | hi0
            · have hg0 : ¬ 0 < i := by omega
              clear hi0 hzz hz
              go_wp2_with fail
              go_quiet (fail)
              go_wp2
              go_ret3
              have hl2 : (l.drop (i + 1)).length = l.length - (i + 1) := List.length_drop
              refine ⟨cutA (some ⟨g, off, none⟩) (i + 1) cap 1, cap - (i + 1), ?_, ?_, ?_, by have := HCM.out; omega, fun k hk => by rw [blk_cutA] at hk; exact hk, HF.out.trans ((Fr.refl [] _).drewN _) (by simp [Ext])⟩
              · rw [← HRE.out]; simp only [hl2]; rw [HNN.out, HMOD.out]; rfl
              · rw [← HRE.out]; exact HCUT.out
              · rw [← HRE.out]; simp only [hl2]; omega
            · have hzb : ((x : Int) == 0) = false := hzz hi0
              clear hzz hz
              go_wp2_with fail
              go_quiet (fail)
              go_wp2
              go_ret3
              have hl2 : (l.drop (i + 1)).length = l.length - (i + 1) := List.length_drop
              refine ⟨cutA (some ⟨g, off, none⟩) (i + 1) cap 1, cap - (i + 1), ?_, ?_, ?_, by have := HCM.out; omega, fun k hk => by rw [blk_cutA] at hk; exact hk, HF.out.trans ((Fr.refl [] _).drewN _) (by simp [Ext])⟩
              · rw [← HRE.out]; simp only [hl2]; rw [HNN.out, HMOD.out]; rfl
              · rw [← HRE.out]; exact HCUT.out
              · rw [← HRE.out]; simp only [hl2]; omega
        · have hRe := HR.out
          rw [if_neg hx8] at hRe
          have hN2 : n + (x - 128) * 128 ^ i = N := by rw [HNN.out]; congr 2; omega
          rw [hN2] at hRe
          have HRE := Lib.hid hRe
          have hNl : N < 128 ^ (i + 1) := by
            rw [HNN.out, Nat.pow_succ]
            have : x % 128 * 128 ^ i ≤ 127 * 128 ^ i := Nat.mul_le_mul_right _ (by omega)
            have := HN.out
            omega
          have HNL := Lib.hid hNl
          clear hRe HR hN2 hNl
          go_wp2_with fail
          go_roundw
          case rel => exact ⟨i + 1, N, by omega, by omega, rfl, by go_num, HNL.out, by rw [show 4 - (i + 1) = k by have := HK.out; omega]; exact HRE.out, HF.out⟩
          case measure => simp [intOf]; omega
      · have hRe := hR
        rw [List.drop_of_length_le (by omega), readLen_nil] at hRe
        have HRE := Lib.hid hRe
        have := HOK.out
        rw [← HRE.out] at this
        cases this
    · have hRe := hR
      rw [show 4 - i = 0 by omega, readLen] at hRe
      have := HOK.out
      rw [← hRe] at this
      cases this

theorem results_tmp4 {fn : Func} {t u v x : Tmp} (h : fn.results = #[.tmp t, .tmp u, .tmp v, .tmp x]) (tmps : Array Value) (P : Program) (w : World) :
    (results fn tmps).run P w = .ok (.tuple #[tmps.getD t undef, tmps.getD u undef, tmps.getD v undef, tmps.getD x undef]) w := by
  simp [results, h]
/-- what readHeader returns -/
def HdTo (w : World) (ao : Option Addr) (t k : Nat) (D : List Nat) (e : Ending) (w' : World) : Prop :=
  ∃ ra rc, e = .returned (.tuple #[.int .i64 (t : Int), .int .i64 (k : Int), .slice ra D.length rc, .int .i64 0]) ∧ Rd w' 1 ra D.length (bts D) ∧ D.length ≤ rc ∧ rc ≤ maxLen ∧ (∀ k ∈ blk ra, k ∈ blk ao) ∧ Fr [] w w'

set_option maxRecDepth 100000 in
set_option maxHeartbeats 4000000 in
theorem header_any (w : World) (ao : Option Addr) (cap : Nat) (l : List Nat) (hrd : Rd w 1 ao l.length (bts l)) (hb : Bytes l) (hc : l.length ≤ cap) (hcm : cap ≤ maxLen) (t k : Nat) (D : List Nat) (hl : l = varN t ++ varN k ++ D) (ht : t ≤ 6000) (hk : k ≤ t) :
    Calls Try.prog 28 #[.slice ao l.length cap] w (HdTo w ao t k D) := by
  have hlt : l = varN t ++ (varN k ++ D) := by rw [hl, List.append_assoc]
  have hb2 : Bytes (varN k ++ D) := by rw [hlt] at hb; exact hb.right
  have H1 := Lib.hid (rvar_any w ao cap l hrd hb hc hcm (t, varN k ++ D, 0) (by rw [hlt]; exact readLen_var t _ (by omega)) rfl)
  have HB2 := Lib.hid hb2
  have g1 : ¬ (6000 : Int) < (t : Int) := by omega
  have g2 : ¬ (t : Int) < (k : Int) := by omega
  obtain ⟨E, hE⟩ : ∃ E, E = varN k ++ D := ⟨_, rfl⟩
  have HE := Lib.hid hE
  rw [← hE] at H1 HB2
  clear hrd hb hc hcm hl hlt hb2 hE
  go_enter Try.func28, Try.ntmps28
  go_wp2_with fail
  refine H1.out.mono ?_
  rintro e w1 ⟨ra, rc, rfl, hr1, hl1, hc1, hb1, f1⟩
  have HR1 := Lib.hid (hr1.fr f1 (by simp))
  have HC1 := Lib.hid hc1
  have HBK := Lib.hid hb1
  have F1 := Lib.hid f1
  have H2 := Lib.hid (rvar_any w1 ra rc E HR1.out HB2.out hl1 hc1 (k, D, 0) (by rw [HE.out]; exact readLen_var k D (by omega)) rfl)
  clear hr1 hl1 hc1 hb1 f1
  go_wp2_with fail
  refine H2.out.mono ?_
  rintro e w2 ⟨rb, rc2, rfl, hr2, hl2, hc2, hb2, f2⟩
  have HR2 := Lib.hid (hr2.fr f2 (by simp))
  have HL2 := Lib.hid hl2
  have HC2 := Lib.hid hc2
  have HBK2 := Lib.hid hb2
  have F2 := Lib.hid (F1.out.trans f2 (by simp [Ext]))
  clear hr2 hl2 hc2 hb2 f2
  go_wp2_with fail
  try simp only [Exit.inBlock, Exit.then]
  refine bodyPost_ret (results_tmp4 rfl _ _ _) rfl ?_
  exact ⟨rb, rc2, rfl, HR2.out, HL2.out, HC2.out, fun q hq => HBK.out q (HBK2.out q hq), F2.out⟩
end Go.Proofs.Ytodfeaipoagphaa
/- bytes.Equal. -/
namespace Go.Proofs.Ytodfeaipoagphaa
open Go.RowKit

def strN (l : List Nat) : ByteArray := strOfNums (l.map fun x : Nat => (x : Int))

theorem strN_inj {a b : List Nat} (ha : Bytes a) (hb : Bytes b) : ((strN a).toList == (strN b).toList) = decide (a = b) := by
  rw [Bool.eq_iff_iff, beq_iff_eq, decide_eq_true_eq]
  constructor
  · intro h
    have h1 := h
    simp only [strN, Go.Lib.strOfNums_toList, Go.Lib.bytesOf, List.map_map] at h1
    have h2 := congrArg (List.map UInt8.toNat) h1
    simp only [List.map_map] at h2
    have e : ∀ l : List Nat, Bytes l → l.map (UInt8.toNat ∘ (fun n : Int => UInt8.ofNat n.toNat) ∘ fun x : Nat => (x : Int)) = l := by
      intro l hl
      conv => rhs; rw [← List.map_id l]
      apply List.map_congr_left
      intro x hx
      have := hl x hx
      simp only [Function.comp_apply, Int.toNat_natCast, UInt8.toNat_ofNat', id_eq]
      omega
    rwa [e a ha, e b hb] at h2
  · intro h; rw [h]

theorem conv_str {w : World} {ao : Option Addr} {c : Nat} {l : List Nat} (h : Rd w 1 ao l.length (bts l)) : (convert 33 9 (.slice ao l.length c)).run Try.prog w = .ok (.string (strN l)) w := by
  rcases h.2.2 with h0 | ⟨g, off, rfl, hg, hc⟩
  · have hl : l = [] := List.eq_nil_of_length_eq_zero h0
    subst hl
    exact Go.Proofs.run_convert_bytes_zero w _ _ Try.underlying33 Try.underlying5 ao c _ Try.underlying9
  · exact run_convert_bytes_arg w _ _ Try.underlying33 Try.underlying5 g off l.length c _ (by simp) (fun i hi => by
      rw [hc i (by omega), bts_get, List.getElem?_eq_getElem hi]
      simp [List.getD_eq_getElem?_getD, hi]) _ Try.underlying9

theorem equal29_any (w : World) (ao bo : Option Addr) (ca cb : Nat) (a b : List Nat) (h1 : Rd w 1 ao a.length (bts a)) (h2 : Rd w 1 bo b.length (bts b)) (ha : Bytes a) (hb : Bytes b) :
    Calls Try.prog 39 #[.slice ao a.length ca, .slice bo b.length cb] w fun e w' => e = .returned (.bool (decide (a = b))) ∧ w = w' := by
  have k1 := conv_str (c := ca) h1
  have k2 := conv_str (c := cb) h2
  have HI := Lib.hid (strN_inj ha hb)
  clear h1 h2 ha hb
  go_enter Try.func39, Try.ntmps39
  go_wp2
  go_ret
  exact ⟨ret_bool29 HI.out, rfl⟩
end Go.Proofs.Ytodfeaipoagphaa
/- Package rangecoder: Decode. -/
namespace Go.Proofs.Ytodfeaipoagphaa
open Go.RowKit

/-- what Decode returns -/
def DecRes (w : World) (r : List Nat × Int) (e : Ending) (w' : World) : Prop :=
  ∃ oa oc, e = .returned (.tuple #[.slice oa r.1.length oc, .int .i64 r.2]) ∧ Seg w' 5 1 oa r.1.length oc (bts r.1) ∧ Fr [] w w' ∧ ∀ k ∈ blk oa, w.heap.size ≤ k
theorem dec_none {w w' : World} {err : Int} (hf : Fr [] w w') : DecRes w ([], err) (.returned (.tuple #[.slice none 0 0, .int .i64 err])) w' :=
  ⟨none, 0, rfl, by simpa [bts] using Seg.nil w' _ _, hf, by simp [blk]⟩

theorem zeroDec (w : World) : (zeroValue 82).run Try.prog w = .ok (.agg (mdV mdz ++ [Value.slice none 0 0, Value.int .u32 0]).toArray) w := by kernel_rfl

def nexts : Nat → Ds → Ds
  | 0, s => s
  | k + 1, s => (nexts k s).next
theorem nexts4 {R : List Nat} (h : Bytes R) : nexts 4 { m := md0, code := 0, rest := R } = ds0 R := by
  have h0 := h.get 0; have h1 := h.get 1; have h2 := h.get 2; have h3 := h.get 3
  have e : ∀ i, (R.drop i).getD 0 0 = R.getD i 0 := fun i => by simp [List.getD_eq_getElem?_getD]
  simp only [nexts, Ds.next, ds0, List.drop_drop, e, Ds.mk.injEq, true_and]
  unfold win
  refine ⟨?_, trivial⟩
  have a2 : R.getD (1 + 1) 0 = R.getD 2 0 := rfl
  have a3 : R.getD (1 + 1 + 1) 0 = R.getD 3 0 := rfl
  simp only [Nat.zero_mul, Nat.zero_mod, Nat.zero_add, a2, a3]
  omega

theorem dec_start {w2 : World} {ra : Option Addr} {rc : Nat} {R : List Nat} {U : Array Value} (hU : U = (mdV md0 ++ [Value.slice none 0 0, Value.int .u32 0]).toArray) (hr : Rd w2 1 ra R.length (bts R)) (hc : R.length ≤ rc) (hcm : rc ≤ maxLen) (hb : Bytes R) (hp : ∀ k ∈ blk ra, k < w2.heap.size) (o : Obj) :
    IsDec29 ((w2.alloc (.cells (U.setIfInBounds 258 (.slice ra R.length rc)) 82)).alloc o) w2.heap.size { m := md0, code := 0, rest := R } := by
  have he : U.setIfInBounds 258 (.slice ra R.length rc) = (mdV md0 ++ [Value.slice ra R.length rc, Value.int .u32 0]).toArray := by
    rw [hU, List.setIfInBounds_toArray, List.set_append_right _ _ (by rw [mdV_length, md0_ok.len]; omega), mdV_length, md0_ok.len]
    rfl
  refine ⟨ra, rc, ⟨?_, md0_ok.len⟩, hr.fr (((Fr.refl [] w2).alloc _).alloc _) (by simp), hc, hcm, hp, by simp, hb⟩
  rw [he]
  exact alloc_old (alloc_new w2 _)

theorem make_bytes0 (n : Nat) (hn : n ≤ 4000) (u : World) :
    (Instr.makeSlice 33 (.int .i64 0) (.int .i64 n)).run Try.prog u = .ok (.slice (some ⟨u.heap.size, 0, none⟩) 0 n) (u.alloc (.cells (bts (List.replicate n 0)).toArray 5)) := by
  obtain ⟨i0, hi, hz0, hz1, hz2⟩ := info_parts infoByte
  have h := run_make (P := Try.prog) u 33 5 i0 (.int .u8 0) Try.underlying33 hi hz0 .i64 .i64 0 n (by omega) (by omega) (by rw [hz2]; omega) (by omega)
  rw [h]
  have e : madeCells (Value.int .u8 0).cells (Int.toNat n * i0.size) = (bts (List.replicate n 0)).toArray := by
    have := toList_madeCells_one (.int .u8 0) n
    rw [hz1, Int.toNat_natCast, Nat.mul_one, bts, List.map_replicate]
    have e0 : Value.int IntKind.u8 ((0 : Nat) : Int) = Value.int .u8 0 := rfl
    rw [e0, ← this]
    rfl
  rw [e]
  simp

/-- the loop of Decode: k bytes have been decoded -/
def DInv (w : World) (p n : Nat) (B : List Nat) (k : Nat) (ov : Value) (wr : World) : Prop :=
  ∃ oa oc dn sk, ov = .slice oa dn.length oc ∧ dn.length = k ∧ dn ++ sk.bytes (n - k) = B ∧ Bytes dn ∧ sk.m.Rdy ∧ IsDec29 wr p sk ∧ Seg wr 5 1 oa dn.length oc (bts dn) ∧ (∀ b ∈ blk oa, p + 1 < b) ∧ wr.heap[p + 1]? = some (.cells #[.pointer (some ⟨p, 0, none⟩)] 75 (0, 0)) ∧ Fr [] w wr

theorem DInv.add {w wr w5 w6 : World} {p n k : Nat} {B dn : List Nat} {sk : Ds} {oa ao' : Option Addr} {cap' : Nat} {o : Obj} (hw : w.heap.size ≤ p) (hk : dn.length = k) (hkn : k < n) (hB : dn ++ sk.bytes (n - k) = B) (hdn : Bytes dn) (hsk : sk.m.Rdy) (hn : ∀ b ∈ blk oa, p + 1 < b)
    (hd : wr.heap[p + 1]? = some (.cells #[.pointer (some ⟨p, 0, none⟩)] 75 (0, 0))) (hf : Fr [] w wr) (h5 : DecTo29 wr p sk.byte.2 w5)
    (hs : Seg w6 5 1 ao' (dn.length + 1) cap' (bts dn ++ [.int .u8 (sk.byte.1 : Int)])) (h1 : Fr (blk oa) (w5.alloc o) w6) (h2 : Ext (blk oa) (w5.alloc o) (blk ao')) :
    DInv w p n B (k + 1) (.slice ao' (dn.length + 1) cap') w6 := by
  obtain ⟨h5, h5f⟩ := h5
  have hpl : p < wr.heap.size := Nat.lt_of_succ_lt (lt_of_blk hd)
  have hp1 := lt_of_blk hd
  have hpn : p ∉ blk oa := fun hm => by have := hn p hm; omega
  have hp1n : p + 1 ∉ blk oa := fun hm => by have := hn _ hm; omega
  have h56 : Fr (blk oa) w5 w6 := ((Fr.refl (blk oa) w5).alloc o).trans h1 (Ext.refl _ _)
  refine ⟨ao', cap', dn ++ [sk.byte.1], sk.byte.2, by simp, by simp [hk], ?_, hdn.append (fun x hx => by simp at hx; subst hx; simp only [Ds.byte]; omega), ?_, ?_, ?_, fun b hb => ?_, ?_, ?_⟩
  · rw [← hB, show n - k = (n - (k + 1)) + 1 by omega, Ds.bytes, List.append_assoc]; rfl
  · exact byteFrom_rdy 8 hsk (by omega)
  · exact h5.fr h56 hpn (fun k hk => by have := hn k hk; omega)
  · rw [bts_append, List.length_append]; exact hs
  · rcases h2 b hb with h | h
    · exact hn b h
    · have := h5f.size; simp at h; omega
  · exact h56.blk (h5f.blk hd (by simp)) hp1n
  · have h6 : Fr (p :: blk oa) wr w6 := (h5f.mono (by simp)).trans (h56.mono (fun k hk => by simp [hk])) (Ext.refl _ _)
    exact hf.trans h6 (fun k hk => .inr (by
      simp only [List.mem_cons] at hk
      rcases hk with rfl | hk
      · exact hw
      · have := hn k hk; omega))

theorem readLen_bytes : ∀ (k i n : Nat) (l : List Nat), Bytes l → Bytes (readLen k i n l).2.1
  | 0, _, _, _, _ => by intro x hx; simp [readLen] at hx
  | _ + 1, _, _, [], _ => by intro x hx; simp [readLen] at hx
  | k + 1, i, n, x :: r, h => by
    unfold readLen
    split
    · split
      · intro y hy; simp at hy
      · exact h.tail
    · exact readLen_bytes k _ _ r h.tail

theorem Rd.old {w : World} {ao : Option Addr} {n : Nat} {xs : List Value} {w' : World} (h : Rd w 1 ao n xs) (hf : Fr [] w w') : Rd w' 1 ao n xs := h.fr hf (by simp)

theorem seg_make (u : World) (n : Nat) (hn : n ≤ 4000) : Seg (u.alloc (.cells (bts (List.replicate n 0)).toArray 5)) 5 1 (some ⟨u.heap.size, 0, none⟩) 0 n (bts []) :=
  ⟨by simp [bts], by unfold maxLen; omega, by omega, .inr ⟨u.heap.size, 0, _, rfl, alloc_new _ _, by simp [bts], by simp [bts]⟩⟩

theorem DInv.start {w wX wr : World} {p n : Nat} {s : Ds} (hn : n ≤ 4000) (hm : s.m.Rdy) (hF : Fr [] w wX) (hw : w.heap.size ≤ p) (hd : wX.heap[p + 1]? = some (.cells #[.pointer (some ⟨p, 0, none⟩)] 75 (0, 0))) (h : DecTo29 wX p s wr) :
    DInv w p n (s.bytes n) 0 (.slice (some ⟨wr.heap.size, 0, none⟩) 0 n) (wr.alloc (.cells (bts (List.replicate n 0)).toArray 5)) := by
  have hd2 := h.2.blk hd (by simp)
  have hl := lt_of_blk hd2
  refine ⟨_, n, [], s, rfl, rfl, by simp, by intro x hx; simp at hx, hm, h.1.fr (S := []) ((Fr.refl [] wr).alloc _) (by simp) (by simp), seg_make wr n hn, fun b hb => ?_, alloc_old hd2, (hF.trans h.2 (fun k hk => by simp at hk; subst hk; exact .inr hw)).alloc _⟩
  simp [blk] at hb; omega

set_option maxRecDepth 100000 in
set_option maxHeartbeats 4000000 in
theorem decode_any (w : World) (ao : Option Addr) (cap : Nat) (l : List Nat) (hrd : Rd w 1 ao l.length (bts l)) (hb : Bytes l) (hc : l.length ≤ cap) (hcm : cap ≤ maxLen) (hao : ∀ k ∈ blk ao, k < w.heap.size) :
    Calls Try.prog 21 #[.slice ao l.length cap] w (DecRes w (dec l)) := by
  have HRL := Lib.hid (readlen_any w ao cap l hrd hb hc hcm)
  have HRD := Lib.hid hrd
  have HB := Lib.hid hb
  have HAO := Lib.hid hao
  obtain ⟨n, R, er, hr⟩ : ∃ n R er, readLen 5 0 0 l = (n, R, er) := ⟨_, _, _, rfl⟩
  have hdec : dec l = if er = 0 then (if 4000 < n then ([], 2) else if enc ((ds0 R).bytes n) = l then ((ds0 R).bytes n, 0) else ([], 8)) else ([], er) := by
    unfold dec; rw [hr]
  have hRB : Bytes R := by
    have := readLen_bytes 5 0 0 l hb
    rw [hr] at this; exact this
  rw [hr] at HRL
  have HD := Lib.hid hdec
  have HRB := Lib.hid hRB
  clear hrd hb hcm hao hr hdec hRB
  by_cases her : er = 0
  · subst her
    by_cases hn : 4000 < n
    · have HDE := Lib.hid (by rw [HD.out, if_pos rfl, if_pos hn] : dec l = ([], 2))
      go_enter Try.func21, Try.ntmps21
      go_wp2_with fail
      refine HRL.out.mono ?_
      rintro e w1 ⟨ra, rc, rfl, _, _, _, _, hf⟩
      have HF := Lib.hid hf
      clear hf
      go_wp2_with fail
      go_ret2
      exact HDE.out ▸ dec_none HF.out
    · have hdn : dec l = if enc ((ds0 R).bytes n) = l then ((ds0 R).bytes n, 0) else ([], 8) := by rw [HD.out, if_pos rfl, if_neg hn]
      have HDN := Lib.hid hdn
      have hn4 : n ≤ 4000 := by omega
      have hz := zeroDec
      obtain ⟨Z, hZ⟩ : ∃ Z, Z = (mdV mdz ++ [Value.slice none 0 0, Value.int .u32 0]).toArray := ⟨_, rfl⟩
      rw [← hZ] at hz
      obtain ⟨V, hV⟩ : ∃ V, V = (mdV md0).toArray := ⟨_, rfl⟩
      have hZs : Z.size = 260 := by
        rw [hZ, List.size_toArray, List.length_append, mdV_length]
        show (List.replicate 256 0).length + 2 + 2 = 260
        rw [List.length_replicate]
      have hVs : V.size = 258 := by rw [hV, List.size_toArray, mdV_length, md0_ok.len]
      have hfold : Array.foldl (fun (cs : Array Value) (x : Value × Nat) => cs.setIfInBounds x.2 x.1) Z V.zipIdx 0 258 = (mdV md0 ++ [Value.slice none 0 0, Value.int .u32 0]).toArray := by
        rw [fill_arr V Z 258 hVs (by omega), hZ, hV]
        congr 2
      obtain ⟨U, hU⟩ : ∃ U, U = (mdV md0 ++ [Value.slice none 0 0, Value.int .u32 0]).toArray := ⟨_, rfl⟩
      rw [← hU] at hfold
      have hUs : U.size = 260 := by rw [hU, List.size_toArray, List.length_append, mdV_length, md0_ok.len]; rfl
      have HU := Lib.hid hU
      have HNM := Lib.hid newmodel_any
      unfold ModelV at HNM
      rw [← hV] at HNM
      have hmf : ∀ (fn : Fn) (first cp : Array Value) (w : World), (Instr.makeFunc fn first cp).run Try.prog w = .ok (.func fn first cp) w := fun _ _ _ _ => rfl
      have hmk := make_bytes0 n hn4
      have HD4 := Lib.hid (nexts4 HRB.out)
      clear hdn hV hZ hU hn
      go_enter Try.func21, Try.ntmps21
      go_wp2_with fail
      refine HRL.out.mono ?_
      rintro e w1 ⟨ra, rc, rfl, hr1, hr2, hr3, hr4, hf⟩
      simp only at hr1 hr2 hr3 hr4
      have HR1 := Lib.hid hr1
      have HR4 := Lib.hid (fun k hk => HAO.out k (hr4 k hk) : ∀ k ∈ blk ra, k < w.heap.size)
      have HF := Lib.hid hf
      have HR3 := Lib.hid hr3
      clear hf hr1 hr3 hr4
      go_wp2_with fail
      refine (HNM.out _).mono ?_
      rintro e w2 ⟨rfl, hf2⟩
      have HF2 := Lib.hid (HF.out.trans hf2 (by simp [Ext]))
      clear hf2
      go_wp2_with fail
      have HST := Lib.hid fun (o : Obj) => dec_start (w2 := w2) HU.out (HR1.out.fr HF2.out (by simp)) hr2 HR3.out HRB.out (fun k hk => Nat.lt_of_lt_of_le (HR4.out k hk) HF2.out.size) o
      have HDV := Lib.hid (fun (o1 o2 : Obj) => (by have := alloc_new (w2.alloc o1) o2; rwa [World.size_alloc] at this : ((w2.alloc o1).alloc o2).heap[w2.heap.size + 1]? = some o2))
      have hpw := HF2.out.size
      obtain ⟨p, hp⟩ : ∃ p, p = w2.heap.size := ⟨_, rfl⟩
      obtain ⟨s0, hs0⟩ : ∃ s0 : Ds, s0 = { m := md0, code := 0, rest := R } := ⟨_, rfl⟩
      rw [← hs0] at HST HD4
      obtain ⟨wX, hwX⟩ : ∃ wX, wX = ((w2.alloc (.cells (U.setIfInBounds 258 (.slice ra R.length rc)) 82)).alloc (.cells #[.pointer (some ⟨w2.heap.size, 0, none⟩)] 75)) := ⟨_, rfl⟩
      rw [← hwX]
      have HE1 := Lib.hid (hwX ▸ HST.out _ : IsDec29 wX w2.heap.size s0)
      have HD1 := Lib.hid (hwX ▸ HDV.out _ _ : wX.heap[w2.heap.size + 1]? = some (.cells #[.pointer (some ⟨w2.heap.size, 0, none⟩)] 75 (0, 0)))
      have HFX := Lib.hid (hwX ▸ (HF2.out.alloc _).alloc _ : Fr [] w wX)
      rw [← hp] at HE1 HD1 hpw ⊢
      have HP := Lib.hid hpw
      clear hwX hp hs0 HST HDV HF2 hfold hz hUs hZs hVs HU hpw HF HR1 HR4 HNM HRL hr2 HR3
      go_loopw [24] (fun i wr => ∃ k : Nat, k ≤ 4 ∧ i = .int .i64 k ∧ DecTo29 wX p (nexts k s0) wr) (fun i _ => 4 - (intOf i).toNat)
      case atStart => exact ⟨0, by omega, rfl, HE1.out.to⟩
      case round =>
        obtain ⟨k, hk, rfl, hinv⟩ := hrel
        by_cases hk4 : k < 4
        · have g1 := cell_blk (hinv.2.blk HD1.out (by simp)) 0
          have HF2 := Lib.hid hinv.2
          have HNX := Lib.hid (next_any hinv.1)
          clear hinv
          go_wp2_with fail
          refine HNX.out.mono ?_
          rintro e w5 ⟨rfl, hp⟩
          have H5 := Lib.hid hp
          clear hp
          go_wp2_with fail
          go_roundw
          case rel => exact ⟨k + 1, by omega, by go_num, DecTo29.trans HF2.out H5.out⟩
          case measure => simp [intOf]; omega
        · obtain rfl : k = 4 := by omega
          rw [HD4.out] at hinv
          have hst := DInv.start hn4 (s := ds0 R) md0_rdy HFX.out HP.out HD1.out hinv
          have HST := Lib.hid hst
          clear hst hinv
          obtain ⟨B, hB⟩ : ∃ B, B = (ds0 R).bytes n := ⟨_, rfl⟩
          have hBl : B.length = n := by rw [hB, Ds.bytes_length]
          rw [← hB] at HST HDN
          have HBL := Lib.hid hBl
          clear hB hBl
          go_wp2_with fail
          clear hmk
          go_loopw [8, 32] (fun ov i w2 => ∃ k : Nat, k ≤ n ∧ i = .int .i64 k ∧ DInv w p n B k ov w2) (fun _ i _ => n - (intOf i).toNat)
          case atStart => exact ⟨0, Nat.zero_le _, rfl, HST.out⟩
          case round =>
            clear HST
            obtain ⟨k, hk, rfl, oa, oc, dn, sk, rfl, h1, h2, h3, h4, h5, h6, h7, h8, h9⟩ := hrel
            have H2 := Lib.hid h2
            have H3 := Lib.hid h3
            have H4 := Lib.hid h4
            have H6 := Lib.hid h6
            have H7 := Lib.hid h7
            have H8 := Lib.hid h8
            have H9 := Lib.hid h9
            have g1 := cell_blk h8 0
            have hdl : dn.length ≤ 4000 := by omega
            have H1 := Lib.hid h1
            by_cases hkn : k < n
            · have HW := Lib.hid (walkdec_any h5 h4 g1 (by omega))
              clear h1 h2 h3 h4 h5 h6 h7 h8 h9
              go_wp2_with fail
              refine HW.out.mono ?_
              rintro e w5 ⟨rfl, hp⟩
              have HP5 := Lib.hid hp
              have HS := Lib.hid fun (o : Obj) => (H6.out.fr hp.2 (fun b hb hm => by simp at hm; subst hm; have := H7.out _ hb; omega)).alloc o
              have HNE := Lib.hid (fun (v : Value) j u hu => by
                rw [Addr.add_mid, Nat.zero_add, World.cell?_alloc_new]; simpa using hu : ∀ v j u, [v][j]? = some u → (w5.alloc (.cells #[v] 5)).cell? ((⟨w5.heap.size, 0, none⟩ : Addr).add j) = some u)
              clear hp
              obtain ⟨i0, hi0, hz0, hz1, hz2⟩ := info_parts infoByte
              go_wp2_with (at_builtin; refine wpList_append_seg rfl _ _ 33 rfl 5 i0 _ 1 1 Try.underlying33 hi0 hz0 hz1 hz2 rfl (by decide) oa dn.length oc (bts dn) rfl (HS.out _) ⟨w5.heap.size, 0, none⟩ 1 1 [_] rfl rfl (HNE.out _) (by simp [Value.oneCell']) (by unfold maxLen; omega) (by omega) ?_; intro ao' cap' w6 hs6 hf6 hx6; have HS6 := Lib.hid hs6; have HF6 := Lib.hid hf6; have HX6 := Lib.hid hx6; clear hs6 hf6 hx6)
              go_roundw
              case rel => (repeat apply Exists.intro); exact ⟨⟨k + 1, by omega, by go_num, DInv.add HP.out H1.out hkn H2.out H3.out H4.out H7.out H8.out H9.out HP5.out HS6.out HF6.out HX6.out⟩, rfl⟩
              case measure => simp [intOf]; omega
            · have hdn : dn = B := by
                have := H2.out
                rw [show n - k = 0 by omega, Ds.bytes, List.append_nil] at this
                exact this
              subst hdn
              have HENC := Lib.hid (encode_any _ oa oc dn h6.rd h3 (by omega))
              clear h1 h2 h3 h4 h5 h6 h7 h8 h9 g1
              go_wp2_with fail
              refine HENC.out.mono ?_
              rintro e w5 ⟨ea, ec, rfl, hs5, hf5, hn5⟩
              have HS5 := Lib.hid hs5
              have HF5 := Lib.hid hf5
              clear hs5 hf5 hn5
              have HEQ := Lib.hid (equal29_any w5 ea ao ec cap (enc dn) l HS5.out.rd ((HRD.out.fr H9.out (by simp)).fr HF5.out (by simp)) (enc_bytes dn) HB.out)
              go_wp2_with fail
              refine HEQ.out.mono ?_
              rintro e w6 ⟨rfl, rfl⟩
              by_cases heq : enc dn = l
              · have HDE := Lib.hid (by rw [HDN.out, if_pos heq] : dec l = (dn, 0))
                have hdt : decide (enc dn = l) = true := decide_eq_true heq
                rw [hdt]
                clear heq hdt
                go_wp2_with fail
                go_ret2
                exact HDE.out ▸ ⟨oa, oc, rfl, H6.out.fr HF5.out (by simp), H9.out.trans HF5.out (by simp [Ext]), fun b hb => by have := H7.out b hb; have := HP.out; omega⟩
              · have HDE := Lib.hid (by rw [HDN.out, if_neg heq] : dec l = ([], 8))
                have hdt : decide (enc dn = l) = false := decide_eq_false heq
                rw [hdt]
                clear heq hdt
                go_wp2_with fail
                go_ret2
                exact HDE.out ▸ dec_none (H9.out.trans HF5.out (by simp [Ext]))
  · have HDE := Lib.hid (by rw [HD.out, if_neg her] : dec l = ([], er))
    have hne : (er != 0) = true := bne_iff_ne.2 her
    clear her
    go_enter Try.func21, Try.ntmps21
    go_wp2_with fail
    refine HRL.out.mono ?_
    rintro e w1 ⟨ra, rc, rfl, _, _, _, _, hf⟩
    have HF := Lib.hid hf
    clear hf
    go_wp2_with fail
    go_ret2
    exact HDE.out ▸ dec_none HF.out
end Go.Proofs.Ytodfeaipoagphaa
/- Package feed: Receive of a packet that was sent. -/
namespace Go.Proofs.Ytodfeaipoagphaa
open Go.RowKit

theorem dec_enc30 {P : List Nat} (h : Bytes P) (hl : P.length ≤ 4000) : dec (enc P) = (P, 0) := by
  have := dec_enc (Z := []) h (by intro x hx; simp at hx) hl
  simpa using this

/-- a packet that lies there -/
structure PktAt (w : World) (po : Option Addr) (pc : Nat) (t k : Nat) (D : List Nat) : Prop where
  seg : Seg w 5 1 po (enc (varN t ++ varN k ++ D)).length pc (bts (enc (varN t ++ varN k ++ D)))
  bytes : BytesB (varN t ++ varN k ++ D)
  len : (varN t ++ varN k ++ D).length ≤ 400
  t6 : t ≤ 6000
  kt : k ≤ t
theorem PktAt.fr {w w' : World} {S : List Nat} {po : Option Addr} {pc t k : Nat} {D : List Nat} (h : PktAt w po pc t k D) (hf : Fr S w w') (hS : ∀ q ∈ blk po, q ∉ S) : PktAt w' po pc t k D := ⟨h.seg.fr hf hS, h.bytes, h.len, h.t6, h.kt⟩

set_option maxRecDepth 100000 in
set_option maxHeartbeats 8000000 in
theorem recv_stale (w : World) (p : Nat) (s : FS) {F : List Nat} (h : IsSt 59 p s w F) (po : Option Addr) (pc t k : Nat) (D : List Nat) (hp : PktAt w po pc t k D) (hk : 0 < k) (hno : ∀ e ∈ s.L, e.tick + 1 ≠ (k : Int)) :
    Calls Try.prog 13 #[.pointer (some ⟨p, 0, none⟩), .slice po (enc (varN t ++ varN k ++ D)).length pc] w fun e w' => e = .returned (.tuple #[.int .i64 0, .int .i64 24]) ∧ Fr [] w w' := by
  obtain ⟨b, cs, hc, -⟩ := h
  obtain ⟨P, hP⟩ : ∃ P, P = varN t ++ varN k ++ D := ⟨_, rfl⟩
  have hseg := hp.seg
  have hbt := hp.bytes
  have hlen := hp.len
  rw [← hP] at hseg hbt hlen
  have HDE := Lib.hid (by have h := decode_any w po pc (enc P) hseg.rd (enc_bytes P) hseg.2.2.1 hseg.2.1 hseg.lt; rw [dec_enc30 hbt (by omega)] at h; exact h)
  have HHD := Lib.hid (fun u oa oc (hs : Seg u 5 1 oa P.length oc (bts P)) => header_any u oa oc P hs.rd hbt hs.2.2.1 hs.2.1 t k D hP hp.t6 hp.kt)
  have HKE := Lib.hid (fun u (hu : Fr [] w u) => (by
    have h := kept_any (hc.fr hu (by simp)) ((k : Int) - 1) (by unfold MV.fits; have := hp.t6; have := hp.kt; omega)
    have h2 : s.has ((k : Int) - 1) = false := by
      unfold FS.has
      rw [List.any_eq_false]
      intro e he h3
      exact hno e he (by have := beq_iff_eq.1 h3; omega)
    rw [h2] at h; exact h : Calls Try.prog 29 #[.pointer (some ⟨p, 0, none⟩), .int .i64 ((k : Int) - 1)] u fun e w' => e = .returned (.bool false) ∧ Fr [] u w'))
  have w1 : IntKind.i64.wrap ((k : Int) - 1) = (k : Int) - 1 := IntWalk.i64_in _ (by have := hp.t6; have := hp.kt; omega)
  have hd : decide (0 < k) = true := decide_eq_true hk
  rw [← hP]
  clear hc hseg hbt hlen hp hP hno
  go_enter Try.func13, Try.ntmps13
  go_wp2_with fail
  refine HDE.out.mono ?_
  rintro e wa ⟨oa, oc, rfl, hsa, fa, -⟩
  have HHA := Lib.hid (HHD.out wa oa oc hsa)
  have FA := Lib.hid fa
  clear hsa fa HDE HHD
  go_wp2_with fail
  refine HHA.out.mono ?_
  rintro e wb ⟨ra, rc, rfl, -, -, -, -, fb⟩
  have FB := Lib.hid (FA.out.trans fb (by simp [Ext]))
  clear fb HHA
  go_wp2_with (go_at_call 29; refine (HKE.out wb FB.out).mono ?_; rintro e wc ⟨rfl, fc⟩; have FC := Lib.hid (FB.out.trans fc (by simp [Ext])); clear fc)
  go_ret2
  exact ⟨rfl, FC.out⟩

/-- what a receiver has behind a packet that it takes -/
def RecvTo (p : Nat) (s : FS) (t : Nat) (V : List (Int × Int)) (F : List Nat) (w : World) (e : Ending) (w' : World) : Prop :=
  e = .returned (.tuple #[.int .i64 (t : Int), .int .i64 0]) ∧ ∃ F', IsSt 59 p (s.put t V) w' F' ∧ Fr F w w' ∧ Ext F w F'

set_option maxRecDepth 100000 in
set_option maxHeartbeats 8000000 in
theorem recv_ok (w : World) (p : Nat) (s : FS) {F : List Nat} (h : IsSt 59 p s w F) (hg : s.Good) (po : Option Addr) (pc t k : Nat) (D : List Nat) (hp : PktAt w po pc t k D) (hn : s.next ≤ (t : Int)) (B V : List (Int × Int))
    (hB : (k = 0 ∧ B = []) ∨ ∃ e ∈ s.L, e.tick + 1 = (k : Int) ∧ B = e.view) (hV : applyR B D = .ok V []) (hvl : V.length ≤ 12) :
    Calls Try.prog 13 #[.pointer (some ⟨p, 0, none⟩), .slice po (enc (varN t ++ varN k ++ D)).length pc] w (RecvTo p s t V F w) := by
  have HIS := Lib.hid h
  have HG := Lib.hid hg
  obtain ⟨b, cs, hc, hF⟩ := h
  obtain ⟨P, hP⟩ : ∃ P, P = varN t ++ varN k ++ D := ⟨_, rfl⟩
  have hseg := hp.seg
  have hbt := hp.bytes
  have hlen := hp.len
  have hDb : BytesB D := fun x hx => hbt x (List.mem_append_right _ hx)
  have hDl : D.length ≤ 400 := by rw [List.length_append] at hlen; omega
  rw [← hP] at hseg hbt hlen
  have HBV := Lib.hid (by
    rcases hB with ⟨-, rfl⟩ | ⟨e, he, -, rfl⟩
    · exact ⟨view_nil, by simp⟩
    · exact hg.view e he : IsView B ∧ B.length ≤ 12)
  have HDE := Lib.hid (by have h := decode_any w po pc (enc P) hseg.rd (enc_bytes P) hseg.2.2.1 hseg.2.1 hseg.lt; rw [dec_enc30 hbt (by omega)] at h; exact h)
  have HHD := Lib.hid (fun u oa oc (hs : Seg u 5 1 oa P.length oc (bts P)) => header_any u oa oc P hs.rd hbt hs.2.2.1 hs.2.1 t k D hP hp.t6 hp.kt)
  have ht6 := hp.t6
  have hkt := hp.kt
  have HKE := Lib.hid (fun u (hu : Fr [] w u) (x : Int) (hx : MV.fits x) => kept_any (hc.fr hu (by simp)) x hx)
  have HKT := Lib.hid (fun u (hu : Fr [] w u) => (by
    have h := kept_any (hc.fr hu (by simp)) (t : Int) (by unfold MV.fits; omega)
    have h2 : s.has (t : Int) = false := by
      unfold FS.has
      rw [List.any_eq_false]
      intro e he h3
      have h4 := (hg.tick e he).2
      have := beq_iff_eq.1 h3
      omega
    rw [h2] at h; exact h : Calls Try.prog 29 #[.pointer (some ⟨p, 0, none⟩), .int .i64 (t : Int)] u fun e w' => e = .returned (.bool false) ∧ Fr [] u w'))
  have w1 : IntKind.i64.wrap ((k : Int) - 1) = (k : Int) - 1 := IntWalk.i64_in _ (by omega)
  have HC := Lib.hid hc
  have HB := Lib.hid hB
  have HV := Lib.hid hV
  have HK2 := Lib.hid (fun u (hu : Fr [] w u) => (cell_blk (hu.blk HC.out.p (by simp)) 2 : u.cell? ⟨p, 2, none⟩ = some (.map (some b))))
  have HAP := Lib.hid (fun u (hu : Fr [] w u) bo bc (hs : Seg u 48 2 bo B.length bc (B.flatMap clV)) ro rc (hr : Rd u 1 ro D.length (bts D)) (h1 : D.length ≤ rc) (h2 : rc ≤ maxLen) (h3 : ∀ k ∈ blk ro, k < u.heap.size) =>
    apply_any u bo bc B HBV.out.1 (by have := HBV.out.2; omega) hs.rd hs.lt ro rc D hr hDb h1 h2 h3 (by omega))
  rw [← hP]
  clear hc hF hg hseg hbt hlen hp hP hB hV hDb
  go_enter Try.func13, Try.ntmps13
  go_wp2_with fail
  refine HDE.out.mono ?_
  rintro e wa ⟨oa, oc, rfl, hsa, fa, -⟩
  have HHA := Lib.hid (HHD.out wa oa oc hsa)
  have HLA := Lib.hid hsa.lt
  have FA := Lib.hid fa
  clear hsa fa HDE HHD
  go_wp2_with fail
  refine HHA.out.mono ?_
  rintro e wb ⟨ra, rc, rfl, hrb, hlb, hcb, hkb, fb⟩
  have FB := Lib.hid (FA.out.trans fb (by simp [Ext]))
  have HRB := Lib.hid hrb
  have HCB := Lib.hid hcb
  have HLB := Lib.hid (fun q (hq : q ∈ blk ra) => (by have h1 := HLA.out q (hkb q hq); have h2 := fb.size; omega : q < wb.heap.size))
  clear fb HHA hrb hcb hkb HLA
  go_upto_region 7 with fail
  go_cut [41] (fun s41 wc => s41 = .bool false ∧ Fr [] wb wc)
  case first =>
    by_cases hk : k = 0
    · have hd : decide (0 < k) = false := decide_eq_false (by omega)
      clear hk
      go_wp2_with fail
      go_meet
      exact ⟨rfl, Fr.refl _ _⟩
    · have hd : decide (0 < k) = true := decide_eq_true (by omega)
      have hh : s.has ((k : Int) - 1) = true := by
        rcases HB.out with ⟨h, -⟩ | ⟨e, he, h2, -⟩
        · exact absurd h hk
        · unfold FS.has
          exact List.any_eq_true.2 ⟨e, he, beq_iff_eq.2 (by omega)⟩
      have HKK := Lib.hid (by have h := HKE.out wb FB.out ((k : Int) - 1) (by unfold MV.fits; omega); rw [hh] at h; exact h : Calls Try.prog 29 #[.pointer (some ⟨p, 0, none⟩), .int .i64 ((k : Int) - 1)] wb fun e w' => e = .returned (.bool true) ∧ Fr [] wb w')
      clear hk hh
      go_wp2_with (go_at_call 29; refine HKK.out.mono ?_; rintro e wc ⟨rfl, fc⟩; have FC := Lib.hid fc; clear fc)
      go_meet
      exact ⟨rfl, FC.out⟩
  case rest =>
    obtain ⟨rfl, hfc⟩ := hcut
    have FC := Lib.hid (FB.out.trans hfc (by simp [Ext]))
    have FBC := Lib.hid hfc
    clear hfc
    go_upto_if 43 with fail
    go_cut [11] (fun sv wd => ∃ (bo : Option Addr) (bc : Nat), sv = .slice bo B.length bc ∧ Seg w 48 2 bo B.length bc (B.flatMap clV) ∧ wd = wc)
    case first =>
      by_cases hk : k = 0
      · have HBA := Lib.hid (by
          rcases HB.out with ⟨-, h⟩ | ⟨e, he, h2, -⟩
          · exact h
          · have := (HG.out.tick e he).1; omega : B = [])
        subst hk
        go_wp2_with fail
        go_meet
        rw [HBA.out]
        exact ⟨none, 0, rfl, Seg.nil _ _ _, rfl⟩
      · obtain ⟨e0, he0, het, hev⟩ : ∃ e ∈ s.L, e.tick + 1 = (k : Int) ∧ B = e.view := HB.out.elim (fun h => absurd h.1 hk) id
        obtain ⟨c, hcm, hce⟩ := HC.out.kv he0
        have hfi : MV.fits ((k : Int) - 1) := by unfold MV.fits; omega
        have hlk : (Instr.lookup 53 (.map (some b)) (.int .i64 ((k : Int) - 1)) false).run Try.prog wc = .ok (.agg #[.slice c.vo c.e.view.length c.vc, .bool c.e.acked]) wc :=
          (HC.out.map.fr FC.out (by simp)).look1 undT (zeroEnt wc) hfi (v := c.val) (by
            rw [show (k : Int) - 1 = c.e.tick by rw [hce]; omega]
            exact List.mem_map_of_mem hcm)
        have hsg := HC.out.segs c hcm
        have hk2 := HK2.out wc FC.out
        have hk0 : 0 < k := by omega
        rw [hce, ← hev] at hlk hsg
        obtain ⟨bo, hbo⟩ : ∃ x, x = c.vo := ⟨_, rfl⟩
        obtain ⟨bc, hbc⟩ : ∃ x, x = c.vc := ⟨_, rfl⟩
        obtain ⟨ba, hba⟩ : ∃ x, x = e0.acked := ⟨_, rfl⟩
        rw [← hbo, ← hbc] at hsg
        rw [← hbo, ← hbc, ← hba] at hlk
        have hfd := fieldV bo B.length bc ba
        have HSG := Lib.hid hsg
        clear hk he0 het hev hcm hce hfi hsg hbo hbc hba
        go_wp2_with fail
        go_meet
        exact ⟨bo, bc, rfl, HSG.out, rfl⟩
    case rest =>
      obtain ⟨bo, bc, rfl, hbs, rfl⟩ := hcut
      have HBS := Lib.hid hbs
      clear hbs
      go_wp2_with fail
      refine (HAP.out _ FC.out bo bc (HBS.out.fr FC.out (by simp)) ra rc (HRB.out.fr FBC.out (by simp)) hlb HCB.out (fun q hq => by have h1 := HLB.out q hq; have h2 := FBC.out.size; omega)).mono ?_
      rintro e we hap
      obtain ⟨vo, vc, rfl, hsv, fe⟩ := hap.ok HV.out
      have HSV := Lib.hid hsv
      have FE := Lib.hid (FC.out.trans fe (by simp [Ext]))
      clear hsv fe hap
      go_wp2_with fail
      refine (HKT.out we FE.out).mono ?_
      rintro e wf ⟨rfl, ff⟩
      have HSF := Lib.hid (HSV.out.fr ff (by simp))
      have FF := Lib.hid (FE.out.trans ff (by simp [Ext]))
      clear ff
      go_wp2_with fail
      refine (put30_any (by decide) ((isSt_frm _ _ _).fr HIS.out FF.out (by simp)) HG.out (t : Int) hn (by omega) vo vc V HSF.out hvl).mono ?_
      rintro e wg ⟨rfl, F', hst, fg, xg⟩
      have HST := Lib.hid hst
      have HFG := Lib.hid ((FF.out.mono (T := F) (by simp)).trans fg (Ext.refl _ _))
      have HXG := Lib.hid (Ext.trans (Ext.refl F w) xg FF.out.size)
      clear hst fg xg
      go_wp2_with fail
      go_ret2
      exact ⟨rfl, F', HST.out, HFG.out, HXG.out⟩
end Go.Proofs.Ytodfeaipoagphaa
