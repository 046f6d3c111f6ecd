/- The reference model of chapter 29: Encode = enc. -/
import Derived.Deep.DeepCutAuto
import Derived.Test.YtjehkpfmndfjeaaRefEnc
namespace Go.Proofs.Ytjehkpfmndfjeaa
open Go.RowKit

/-- the loop over the bits of a byte -/
def InInv (w : World) (s4 : Nat) (da : Option Addr) (dc : Nat) (D : List Nat) (po : Option Addr) (pc x : Nat) (M : Md) (O : List Nat) (cv kv : Value) (wr : World) : Prop :=
  ∃ (d c K : Nat) (mc : Md) (oa : Option Addr) (oc : Nat) (out : List Nat), d ≤ 8 ∧ cv = .int .i64 (c : Int) ∧ kv = .int .i64 (K : Int) ∧ K = 2 ^ d / 2 ∧ (c + 1) * 2 ^ d ≤ 512 ∧ mc.Rdy ∧ REst w s4 da dc D po pc mc oa oc out wr ∧
    out ++ (runs mc (bitsFrom x c d)).1 = O ∧ (runs mc (bitsFrom x c d)).2 = M

def OutInv (w : World) (s4 : Nat) (da : Option Addr) (dc : Nat) (D : List Nat) (po : Option Addr) (pc : Nat) (l : List Nat) (iv : Value) (wr : World) : Prop :=
  ∃ (i : Nat) (oa : Option Addr) (oc : Nat), i ≤ l.length ∧ iv = .int .i64 (i : Int) ∧ REst w s4 da dc D po pc (runs md0 ((l.take i).flatMap bitsOf)).2 oa oc (runs md0 ((l.take i).flatMap bitsOf)).1 wr

def tailK : Nat → Int
  | 0 => 16777216
  | 1 => 65536
  | 2 => 256
  | 3 => 1
  | _ => 0

/-- the last four bytes -/
def TailInv (w : World) (s4 : Nat) (lo : Nat) (E : List Nat) (sv kv : Value) (wr : World) : Prop :=
  ∃ (j : Nat) (ea : Option Addr) (ec : Nat), j ≤ 4 ∧ kv = .int .u64 (tailK j) ∧ sv = .slice ea (E ++ (tail4 lo).take j).length ec ∧ Seg wr 5 1 ea (E ++ (tail4 lo).take j).length ec (bts (E ++ (tail4 lo).take j)) ∧ Fr [] w wr ∧ (∀ k ∈ blk ea, w.heap.size ≤ k) ∧
    s4 ∉ blk ea ∧ s4 < wr.heap.size ∧ wr.cell? ⟨s4, 0, none⟩ = some (.int .u64 (lo : Int))

theorem TailInv.add {w wr w5 : World} {s4 lo j b : Nat} {E : List Nat} {ea ao' : Option Addr} {cap' : Nat} {o : Obj} (hj : j < 4) (hb : (tail4 lo)[j]? = some b) (hf : Fr [] w wr) (hn : ∀ k ∈ blk ea, w.heap.size ≤ k) (hs : s4 ∉ blk ea) (h4 : s4 < wr.heap.size) (hc : wr.cell? ⟨s4, 0, none⟩ = some (.int .u64 (lo : Int)))
    (h5 : Seg w5 5 1 ao' ((E ++ (tail4 lo).take j).length + 1) cap' (bts (E ++ (tail4 lo).take j) ++ [.int .u8 (b : Int)])) (hf5 : Fr (blk ea) (wr.alloc o) w5) (hx5 : Ext (blk ea) (wr.alloc o) (blk ao')) {kv : Value} (hk : kv = .int .u64 (tailK (j + 1))) :
    TailInv w s4 lo E (.slice ao' ((E ++ (tail4 lo).take j).length + 1) cap') kv w5 := by
  have hff : Fr (blk ea) wr w5 := ((Fr.refl (blk ea) wr).alloc o).trans hf5 (Ext.refl _ _)
  have hsz := hf.size
  have hsz5 := hff.size
  have hb' : ∀ k ∈ blk ao', k ∈ blk ea ∨ wr.heap.size ≤ k := fun k hk => by
    rcases hx5 k hk with h | h
    · exact .inl h
    · simp at h; exact .inr (by omega)
  have ht : (tail4 lo).take (j + 1) = (tail4 lo).take j ++ [b] := by rw [List.take_add_one, hb]; rfl
  have hl : (E ++ (tail4 lo).take (j + 1)).length = (E ++ (tail4 lo).take j).length + 1 := by rw [ht]; simp; omega
  refine ⟨j + 1, ao', cap', by omega, hk, by rw [hl], ?_, hf.trans hff (fun k hk => .inr (hn k hk)), fun k hk => ?_, fun hm => ?_, by omega, ?_⟩
  · rw [hl, ht, ← List.append_assoc, bts_append]; exact h5
  · rcases hb' k hk with h | h
    · exact hn k h
    · omega
  · rcases hb' _ hm with h | h
    · exact hs h
    · omega
  · rw [World.cell?_of_block (a := ⟨s4, 0, none⟩) (hff.block s4 h4 hs)]; exact hc

set_option maxRecDepth 100000 in
set_option maxHeartbeats 8000000 in
theorem refenc_any (w : World) (ao : Option Addr) (cap : Nat) (l : List Nat) (h : Src w ao cap l) (hl : l.length ≤ 1000000) :
    Calls Try.prog 15 #[.slice ao l.length cap] w (SliceTo w (enc l)) := by
  obtain ⟨i0, hi0, hz0, hz1, hz2⟩ := info_parts infoByte
  have HSRC := Lib.hid h
  clear h
  obtain ⟨D, hD⟩ : ∃ D, D = digits l.length := ⟨_, rfl⟩
  have HD := Lib.hid hD
  have hdl : D.length ≤ 9 := by rw [hD]; exact digits_len l.length 8 (by omega)
  have HLEN := Lib.hid (by rw [hD]; exact reflen_any w l.length (by omega) : Calls Try.prog 20 #[.int .i64 l.length] w (SliceTo w D))
  have HST := Lib.hid start_any
  clear hD
  by_cases hl0 : l.length = 0
  · have hq : ((l.length : Int) == 0) = true := by simp; exact List.eq_nil_of_length_eq_zero hl0
    have HL := Lib.hid hl0
    clear hl0
    go_enter Try.func15, Try.ntmps15
    go_wp2_with fail
    refine HLEN.out.mono ?_
    rintro e w2 ⟨da, dc, rfl, sd, f2, n2⟩
    have SD := Lib.hid sd
    have F2 := Lib.hid f2
    have N2 := Lib.hid n2
    clear sd f2 n2
    go_wp2_with fail
    go_ret
    have he : enc l = D := by
      have := List.eq_nil_of_length_eq_zero HL.out
      rw [HD.out, this]; simp [enc]
    rw [he]
    exact ⟨da, dc, rfl, SD.out, F2.out, N2.out⟩
  · have hq : ((l.length : Int) == 0) = false := by simp; intro h; rw [h] at hl0; exact hl0 rfl
    have HL := Lib.hid hl0
    clear hl0
    go_enter Try.func15, Try.ntmps15
    go_wp2_with fail
    refine HLEN.out.mono ?_
    rintro e w2 ⟨da, dc, rfl, sd, f2, n2⟩
    have SD := Lib.hid sd
    have F2 := Lib.hid f2
    have N2 := Lib.hid n2
    clear sd f2 n2
    go_wp2_with fail
    refine (HST.out _).mono ?_
    rintro e w3 ⟨po, pc, rfl, sp, f3, n3⟩
    have HI := Lib.hid (REst.init SD.out F2.out N2.out sp f3 n3)
    clear sp f3 n3
    go_wp2_with fail
    obtain ⟨s4, hs4⟩ : ∃ s4, s4 = w3.heap.size := ⟨_, rfl⟩
    rw [← hs4] at HI ⊢
    clear hs4
    have HO := Lib.hid (⟨0, none, 0, by omega, rfl, HI.out⟩ : OutInv w s4 da dc D po pc l (.int .i64 0) (w3.alloc (.cells #[.int .u64 0, .int .u64 4294967295, .slice po 256 pc, .slice none 0 0] 55)))
    clear SD F2 N2 HST HLEN HI
    go_loopw [5] (fun iv wr => OutInv w s4 da dc D po pc l iv wr) (fun iv _ => l.length - (intOf iv).toNat)
    case atStart => exact HO.out
    case round =>
      clear HO
      obtain ⟨i, oa, oc, hi, rfl, hR⟩ := hrel
      have HR := Lib.hid hR
      by_cases hil : i < l.length
      · have hcx : ∃ g off, ao = some ⟨g, off, none⟩ ∧ wr.cell? ⟨g, off + i, none⟩ = some (.int .u8 ((l[i] : Nat) : Int)) := by
          obtain ⟨g, off, h1, g1, h2⟩ := HSRC.out.rd.at (by omega)
          refine ⟨g, off, h1, ?_⟩
          rw [World.cell?_of_block (a := ⟨g, off + i, none⟩) (hR.fr.block g g1 (by simp)), h2 i (by omega), bts_get, List.getElem?_eq_getElem hil]; rfl
        obtain ⟨g, off, rfl, ci⟩ := hcx
        obtain ⟨x, hx⟩ : ∃ x, x = l[i] := ⟨_, rfl⟩
        rw [← hx] at ci
        have hxb : x < 256 := by rw [hx]; exact HSRC.out.bytes _ (List.getElem_mem hil)
        have hxm : (x : Int) % 18446744073709551616 = x := by omega
        have HRS := Lib.hid (runs_snoc l i hil)
        rw [← hx] at HRS
        have HRY := Lib.hid (EncInv.rdy (l.take i))
        have hol : (runs md0 ((l.take i).flatMap bitsOf)).1.length ≤ 40000000 := by
          have h1 := runs_len ((l.take i).flatMap bitsOf) md0
          rw [flat_length, List.length_take] at h1
          omega
        obtain ⟨m0, hm0⟩ : ∃ m0, m0 = (runs md0 ((l.take i).flatMap bitsOf)).2 := ⟨_, rfl⟩
        obtain ⟨o0, ho0⟩ : ∃ o0, o0 = (runs md0 ((l.take i).flatMap bitsOf)).1 := ⟨_, rfl⟩
        rw [← hm0, ← ho0] at HRS HR
        rw [← hm0] at HRY
        rw [← ho0] at hol
        obtain ⟨M, hM⟩ : ∃ M, M = (runs m0 (bitsOf x)).2 := ⟨_, rfl⟩
        obtain ⟨O, hO⟩ : ∃ O, O = o0 ++ (runs m0 (bitsOf x)).1 := ⟨_, rfl⟩
        have hOl : O.length ≤ 40000040 := by
          have := runs_len (bitsOf x) m0
          rw [show (bitsOf x).length = 8 from bitsFrom_length x 8 1] at this
          rw [hO, List.length_append]; omega
        have HIN := Lib.hid (⟨8, 1, 128, m0, oa, oc, o0, by omega, rfl, rfl, by omega, by omega, HRY.out, HR.out, hO.symm, hM.symm⟩ : InInv w s4 da dc D po pc x M O (.int .i64 1) (.int .i64 128) wr)
        rw [← hM, ← hO] at HRS
        have hii : (i : Int) < (l.length : Int) := by omega
        clear hR hx hm0 ho0 hM hO HR HRY
        go_wp2_with fail
        go_loopw [6, 8] (fun cv kv wr2 => InInv w s4 da dc D po pc x M O cv kv wr2) (fun _ kv _ => (intOf kv).toNat)
        case atStart => exact HIN.out
        case round =>
          clear HIN
          obtain ⟨d, c, K, mc, ob, obc, out, hd, rfl, rfl, hK, hcd, hm, hat, hO, hM⟩ := hrel
          have HAT := Lib.hid hat
          cases d with
          | zero =>
            have hK0 : K = 0 := by omega
            have hO2 : out = O := by simpa [bitsFrom, runs] using hO
            have hM2 : mc = M := by simpa [bitsFrom, runs] using hM
            subst hK0; subst hO2; subst hM2
            clear hK hcd hm hat hO hM
            go_wp2_with fail
            go_roundw
            case rel => exact ⟨i + 1, ob, obc, by omega, by go_num, by rw [HRS.out]; exact HAT.out⟩
            case measure => simp [intOf]; omega
          | succ d =>
            have hp : 0 < 2 ^ d := Nat.pos_of_ne_zero (by simp)
            have hK2 : K = 2 ^ d := by rw [hK, Nat.pow_succ]; omega
            have hp7 : 2 ^ d ≤ 128 := Nat.pow_le_pow_right (n := 2) (j := 7) (by omega) (by omega)
            have hc256 : c < 256 := by
              rw [Nat.pow_succ] at hcd
              have : (c + 1) * 2 ≤ (c + 1) * (2 ^ d * 2) := Nat.mul_le_mul_left _ (by omega)
              omega
            obtain ⟨y, hy⟩ : ∃ y, y = x / K := ⟨_, rfl⟩
            obtain ⟨b, hb⟩ : ∃ b, b = y % 2 := ⟨_, rfl⟩
            have hb2 : b < 2 := by omega
            have hcd2 : (2 * c + b + 1) * 2 ^ d ≤ 512 := by
              rw [Nat.pow_succ] at hcd
              have : (2 * c + b + 1) * 2 ^ d ≤ ((c + 1) * 2) * 2 ^ d := Nat.mul_le_mul_right _ (by omega)
              have e2 : (c + 1) * 2 * 2 ^ d = (c + 1) * (2 ^ d * 2) := by rw [Nat.mul_assoc, Nat.mul_comm 2 (2 ^ d)]
              omega
            have hbits : bitsFrom x c (d + 1) = (c, b == 1) :: bitsFrom x (2 * c + b) d := by rw [bitsFrom, hb, hy, hK2]
            rw [hbits] at hO hM
            simp only [runs] at hO hM
            rw [← List.append_assoc] at hO
            have hol2 : out.length ≤ 1000000000 := by
              have := congrArg List.length hO
              rw [List.length_append, List.length_append] at this; omega
            have hk0 : 0 < K := by omega
            have hk128 : K ≤ 128 := by omega
            have hyl : y ≤ 255 := by rw [hy]; exact Nat.le_trans (Nat.div_le_self _ _) (by omega)
            have hyx : (x : Int) / (K : Int) = (y : Int) := by rw [hy, Int.natCast_ediv]
            have HK' := Lib.hid (by rw [hK2] : K / 2 = 2 ^ d / 2)
            have HM := Lib.hid (hm.step hc256 (b == 1))
            have HOO := Lib.hid hO
            have HMM := Lib.hid hM
            have HCD := Lib.hid hcd2
            obtain ⟨c0, c1, c2, c3, fz⟩ := hat.s.c4
            have fz0 := fz 0
            have fz1 := fz 1
            have fz2 := fz 2
            have fz3 := fz 3
            have hbv : (y : Int) % 2 = (b : Int) := by omega
            have HBV := Lib.hid hbv
            clear fz hK hK2 hp hp7 hcd hcd2 hbits hO hM hat hb hy hbv
            have hbool : ∃ t : Bool, ((y : Int) % 2 == 1) = t ∧ t = (b == 1) := ⟨_, rfl, by
              rw [HBV.out]
              rcases (show b = 0 ∨ b = 1 by omega) with e | e <;> rw [e] <;> rfl⟩
            obtain ⟨t, ht, htb⟩ := hbool
            have HCALL := Lib.hid (bit_any wr mc po pc ob obc out HAT.out.rs hm c hc256 (b == 1) hol2)
            rw [← htb] at HCALL HM HOO HMM
            unfold SV at HCALL
            have HTB := Lib.hid htb
            clear hm htb hol2
            go_wp2_with fail
            refine HCALL.out.mono ?_
            rintro e w5 ⟨oa5, oc5, he, rs5, f5, x5⟩
            unfold SV at he
            subst he
            have HNEW := Lib.hid (HAT.out.bit rs5 f5 x5)
            obtain ⟨e0, e1, e2, e3, ez⟩ := (HAT.out.s.fr f5 (fun k hk hm => by
              simp [blk] at hk; subst hk
              rcases List.mem_append.1 hm with h1 | h1
              · exact HAT.out.sp h1
              · exact HAT.out.so h1)).c4
            have ez0 := ez 0
            have ez1 := ez 1
            have ez2 := ez 2
            have ez3 := ez 3
            have hlen : (out ++ mc.outs c t).length = out.length + (mc.outs c t).length := List.length_append
            have HLEN := Lib.hid hlen
            obtain ⟨MS, hMS⟩ : ∃ MS, MS = mc.step c t := ⟨_, rfl⟩
            obtain ⟨OT, hOT⟩ : ∃ OT, OT = out ++ mc.outs c t := ⟨_, rfl⟩
            rw [← hMS, ← hOT] at HNEW HOO
            rw [← hMS] at HMM HM
            rw [← hMS, ← hOT]
            clear hMS hOT hlen HLEN
            have hc2 : (c : Int) < 256 := by omega
            clear ez rs5 f5 x5 HCALL HAT c0 c1 c2 c3 fz0 fz1 fz2 fz3
            cases t
            · have hb0 : b = 0 := by
                have := HTB.out
                rcases (show b = 0 ∨ b = 1 by omega) with e | e
                · exact e
                · rw [e] at this; cases this
              have HB0 := Lib.hid hb0
              clear hb0
              go_wp2_with fail
              go_roundw
              case rel => exact ⟨d, 2 * c + b, K / 2, MS, oa5, oc5, OT, by omega, by rw [HB0.out]; go_num, by go_num, HK'.out, HCD.out, HM.out, HNEW.out, HOO.out, HMM.out⟩
              case measure => simp [intOf]; omega
            · have hb0 : b = 1 := by
                have := HTB.out
                rcases (show b = 0 ∨ b = 1 by omega) with e | e
                · rw [e] at this; cases this
                · exact e
              have HB0 := Lib.hid hb0
              clear hb0
              go_wp2_with fail
              go_roundw
              case rel => exact ⟨d, 2 * c + b, K / 2, MS, oa5, oc5, OT, by omega, by rw [HB0.out]; go_num, by go_num, HK'.out, HCD.out, HM.out, HNEW.out, HOO.out, HMM.out⟩
              case measure => simp [intOf]; omega
      · have hke : l.take i = l := List.take_of_length_le (by omega)
        rw [hke] at hR HR
        obtain ⟨m, hm⟩ : ∃ m, m = (runs md0 (l.flatMap bitsOf)).2 := ⟨_, rfl⟩
        obtain ⟨out, hout⟩ : ∃ out, out = (runs md0 (l.flatMap bitsOf)).1 := ⟨_, rfl⟩
        have hol : out.length ≤ 40000000 := by
          have h1 := runs_len (l.flatMap bitsOf) md0
          rw [flat_length] at h1
          rw [hout]; omega
        have HRY := Lib.hid (EncInv.rdy l)
        rw [← hm] at HRY
        rw [← hm, ← hout] at HR hR
        have hlo : m.lo ≤ 4294967295 := by have := HRY.out.1.hi; have := HRY.out.2; omega
        have henc : enc l = D ++ out ++ tail4 m.lo := by
          unfold enc
          rw [if_neg (fun h => HL.out (by rw [h]; rfl)), emit_runs, List.append_assoc, HD.out, hm, hout]
        have HENC := Lib.hid henc
        obtain ⟨c0, c1, c2, c3, fz⟩ := hR.s.c4
        have HBO := Lib.hid (bts_one out)
        have HON := Lib.hid (fun (h : oa = none) => by
          rcases hR.rs.o.2.2.2 with ⟨_, h1, _⟩ | ⟨g, off, cur, h1, _⟩
          · exact h1
          · rw [h1] at h; exact absurd h (by simp) : oa = none → out.length = 0)
        obtain ⟨lo, hloe⟩ : ∃ lo, lo = m.lo := ⟨_, rfl⟩
        rw [← hloe] at c0 hlo HENC
        clear hR hke hm hout henc hloe fz c1 c2
        go_wp2_with (at_builtin; refine wpList_append_src rfl _ _ 22 rfl 5 i0 _ 1 1 Try.underlying22 hi0 hz0 hz1 hz2 rfl (by decide) da D.length dc (bts D) rfl HR.out.d oa out.length oc (bts out) rfl HR.out.rs.o.rd HON.out HBO.out (by unfold maxLen; omega) (by omega) ?_; intro ea ec w5 hs5 hf5 hx5; have HS5 := Lib.hid hs5; have HF5 := Lib.hid hf5; have HX5 := Lib.hid hx5; clear hs5 hf5 hx5)
        have HT := Lib.hid (by
          have h1 := HR.out.fr.size
          have h4 := HR.out.s.lt s4 (by simp [blk])
          have hb : ∀ k ∈ blk ea, k ∈ blk da ∨ wr.heap.size ≤ k := HX5.out
          have hl0 : (D ++ out ++ (tail4 lo).take 0).length = D.length + out.length := by simp
          refine ⟨0, ea, ec, by omega, rfl, by rw [hl0], ?_, HR.out.fr.trans HF5.out (fun k hk => .inr (HR.out.nd k hk)), fun k hk => ?_, fun hm => ?_, Nat.lt_of_lt_of_le h4 HF5.out.size, ?_⟩
          · rw [hl0, List.take_zero, List.append_nil, bts_append]; exact HS5.out
          · rcases hb k hk with h | h
            · exact HR.out.nd k h
            · omega
          · rcases hb _ hm with h | h
            · exact HR.out.sd h
            · omega
          · rw [World.cell?_of_block (a := ⟨s4, 0, none⟩) (HF5.out.block s4 h4 HR.out.sd)]; exact c0 :
          TailInv w s4 lo (D ++ out) (.slice ea (D.length + out.length) ec) (.int .u64 16777216) w5)
        obtain ⟨E, hE⟩ : ∃ E, E = D ++ out := ⟨_, rfl⟩
        have hEl : E.length ≤ 41000000 := by rw [hE, List.length_append]; omega
        rw [← hE] at HT HENC
        clear hE HR HRY HF5 HX5 HS5 HON HBO c0 c3 HL HD HSRC
        go_loopw [3, 10] (fun sv kv wr2 => TailInv w s4 lo E sv kv wr2) (fun _ kv _ => (intOf kv).toNat)
        case atStart => exact HT.out
        case round =>
          clear HT
          obtain ⟨j, ga, gc, hj, rfl, rfl, hseg, hf, hn, h4, h4l, c0⟩ := hrel
          have hlt : (E ++ (tail4 lo).take j).length ≤ 41000004 := by rw [List.length_append, List.length_take]; simp [tail4]; omega
          have HF := Lib.hid hf
          have HN := Lib.hid hn
          have H4 := Lib.hid h4
          have H4L := Lib.hid h4l
          have HC0 := Lib.hid c0
          rcases (show j = 0 ∨ j = 1 ∨ j = 2 ∨ j = 3 ∨ j = 4 by omega) with e | e | e | e | e
          · subst e
            have HTA := Lib.hid (fun (o : Obj) (ao' : Option Addr) (cap' : Nat) (w5 : World) => TailInv.add (w := w) (w5 := w5) (ao' := ao') (cap' := cap') (o := o) (lo := lo) (E := E) (j := 0) (b := lo / 16777216 % 256) (by omega) (by simp [tail4]) HF.out HN.out H4.out H4L.out HC0.out)
            have HS := Lib.hid fun (o : Obj) => hseg.alloc o
            have HNE := Lib.hid (fun (v : Value) j u hu => by
              rw [Addr.add_mid, Nat.zero_add, World.cell?_alloc_new]; simpa using hu : ∀ v j u, [v][j]? = some u → (wr.alloc (.cells #[v] 5)).cell? ((⟨wr.heap.size, 0, none⟩ : Addr).add j) = some u)
            obtain ⟨G, hG⟩ : ∃ G, G = E ++ (tail4 lo).take 0 := ⟨_, rfl⟩
            rw [← hG] at HTA HS hlt ⊢
            clear hG hseg hf hn h4
            simp only [tailK]
            go_wp2_with (at_builtin; refine wpList_append_seg rfl _ _ 22 rfl 5 i0 _ 1 1 Try.underlying22 hi0 hz0 hz1 hz2 rfl (by decide) ga G.length gc (bts G) rfl (HS.out _) ⟨wr.heap.size, 0, none⟩ 1 1 [_] rfl rfl (HNE.out _) (by simp [Value.oneCell']) (by unfold maxLen; omega) (by omega) ?_; intro ao' cap' w6 hs6 hf6 hx6; have HF6 := Lib.hid hf6; have HX6 := Lib.hid hx6; have HS6 := Lib.hid hs6; clear hs6 hf6 hx6)
            go_roundw
            case rel => exact HTA.out _ _ _ _ (by rw [show ((lo / 16777216 % 256 : Nat) : Int) = (lo : Int) / 16777216 % 256 by omega]; simpa using HS6.out) HF6.out HX6.out rfl
            case measure => simp [intOf]
          · subst e
            have HTA := Lib.hid (fun (o : Obj) (ao' : Option Addr) (cap' : Nat) (w5 : World) => TailInv.add (w := w) (w5 := w5) (ao' := ao') (cap' := cap') (o := o) (lo := lo) (E := E) (j := 1) (b := lo / 65536 % 256) (by omega) (by simp [tail4]) HF.out HN.out H4.out H4L.out HC0.out)
            have HS := Lib.hid fun (o : Obj) => hseg.alloc o
            have HNE := Lib.hid (fun (v : Value) j u hu => by
              rw [Addr.add_mid, Nat.zero_add, World.cell?_alloc_new]; simpa using hu : ∀ v j u, [v][j]? = some u → (wr.alloc (.cells #[v] 5)).cell? ((⟨wr.heap.size, 0, none⟩ : Addr).add j) = some u)
            obtain ⟨G, hG⟩ : ∃ G, G = E ++ (tail4 lo).take 1 := ⟨_, rfl⟩
            rw [← hG] at HTA HS hlt ⊢
            clear hG hseg hf hn h4
            simp only [tailK]
            go_wp2_with (at_builtin; refine wpList_append_seg rfl _ _ 22 rfl 5 i0 _ 1 1 Try.underlying22 hi0 hz0 hz1 hz2 rfl (by decide) ga G.length gc (bts G) rfl (HS.out _) ⟨wr.heap.size, 0, none⟩ 1 1 [_] rfl rfl (HNE.out _) (by simp [Value.oneCell']) (by unfold maxLen; omega) (by omega) ?_; intro ao' cap' w6 hs6 hf6 hx6; have HF6 := Lib.hid hf6; have HX6 := Lib.hid hx6; have HS6 := Lib.hid hs6; clear hs6 hf6 hx6)
            go_roundw
            case rel => exact HTA.out _ _ _ _ (by rw [show ((lo / 65536 % 256 : Nat) : Int) = (lo : Int) / 65536 % 256 by omega]; simpa using HS6.out) HF6.out HX6.out rfl
            case measure => simp [intOf]
          · subst e
            have HTA := Lib.hid (fun (o : Obj) (ao' : Option Addr) (cap' : Nat) (w5 : World) => TailInv.add (w := w) (w5 := w5) (ao' := ao') (cap' := cap') (o := o) (lo := lo) (E := E) (j := 2) (b := lo / 256 % 256) (by omega) (by simp [tail4]) HF.out HN.out H4.out H4L.out HC0.out)
            have HS := Lib.hid fun (o : Obj) => hseg.alloc o
            have HNE := Lib.hid (fun (v : Value) j u hu => by
              rw [Addr.add_mid, Nat.zero_add, World.cell?_alloc_new]; simpa using hu : ∀ v j u, [v][j]? = some u → (wr.alloc (.cells #[v] 5)).cell? ((⟨wr.heap.size, 0, none⟩ : Addr).add j) = some u)
            obtain ⟨G, hG⟩ : ∃ G, G = E ++ (tail4 lo).take 2 := ⟨_, rfl⟩
            rw [← hG] at HTA HS hlt ⊢
            clear hG hseg hf hn h4
            simp only [tailK]
            go_wp2_with (at_builtin; refine wpList_append_seg rfl _ _ 22 rfl 5 i0 _ 1 1 Try.underlying22 hi0 hz0 hz1 hz2 rfl (by decide) ga G.length gc (bts G) rfl (HS.out _) ⟨wr.heap.size, 0, none⟩ 1 1 [_] rfl rfl (HNE.out _) (by simp [Value.oneCell']) (by unfold maxLen; omega) (by omega) ?_; intro ao' cap' w6 hs6 hf6 hx6; have HF6 := Lib.hid hf6; have HX6 := Lib.hid hx6; have HS6 := Lib.hid hs6; clear hs6 hf6 hx6)
            go_roundw
            case rel => exact HTA.out _ _ _ _ (by rw [show ((lo / 256 % 256 : Nat) : Int) = (lo : Int) / 256 % 256 by omega]; simpa using HS6.out) HF6.out HX6.out rfl
            case measure => simp [intOf]
          · subst e
            have HTA := Lib.hid (fun (o : Obj) (ao' : Option Addr) (cap' : Nat) (w5 : World) => TailInv.add (w := w) (w5 := w5) (ao' := ao') (cap' := cap') (o := o) (lo := lo) (E := E) (j := 3) (b := lo / 1 % 256) (by omega) (by simp [tail4]) HF.out HN.out H4.out H4L.out HC0.out)
            have HS := Lib.hid fun (o : Obj) => hseg.alloc o
            have HNE := Lib.hid (fun (v : Value) j u hu => by
              rw [Addr.add_mid, Nat.zero_add, World.cell?_alloc_new]; simpa using hu : ∀ v j u, [v][j]? = some u → (wr.alloc (.cells #[v] 5)).cell? ((⟨wr.heap.size, 0, none⟩ : Addr).add j) = some u)
            obtain ⟨G, hG⟩ : ∃ G, G = E ++ (tail4 lo).take 3 := ⟨_, rfl⟩
            rw [← hG] at HTA HS hlt ⊢
            clear hG hseg hf hn h4
            simp only [tailK]
            go_wp2_with (at_builtin; refine wpList_append_seg rfl _ _ 22 rfl 5 i0 _ 1 1 Try.underlying22 hi0 hz0 hz1 hz2 rfl (by decide) ga G.length gc (bts G) rfl (HS.out _) ⟨wr.heap.size, 0, none⟩ 1 1 [_] rfl rfl (HNE.out _) (by simp [Value.oneCell']) (by unfold maxLen; omega) (by omega) ?_; intro ao' cap' w6 hs6 hf6 hx6; have HF6 := Lib.hid hf6; have HX6 := Lib.hid hx6; have HS6 := Lib.hid hs6; clear hs6 hf6 hx6)
            go_roundw
            case rel => exact HTA.out _ _ _ _ (by rw [show ((lo / 1 % 256 : Nat) : Int) = (lo : Int) / 1 % 256 by omega]; simpa using HS6.out) HF6.out HX6.out rfl
            case measure => simp [intOf]
          · subst e
            have HS := Lib.hid hseg
            have h4e : E ++ (tail4 lo).take 4 = enc l := by rw [HENC.out]; rfl
            rw [h4e] at HS
            rw [h4e]
            clear hseg hf hn h4 h4l h4e
            simp only [tailK]
            go_wp2_with fail
            go_ret
            exact ⟨ga, gc, rfl, HS.out, HF.out, HN.out⟩
end Go.Proofs.Ytjehkpfmndfjeaa
