/- The reference model of chapter 29: start and Encode. -/
import Derived.Test.YtjehkpfmndfjeaaRefBit
namespace Go.Proofs.Ytjehkpfmndfjeaa
open Go.RowKit

theorem infoU64 : (Try.prog.info? 52).map (fun i => (i.zero, i.size, i.bytes)) = some (some (.int .u64 0), 1, 8) := by kernel_rfl

def StartTo (w : World) (e : Ending) (w' : World) : Prop :=
  ∃ po pc, e = .returned (.agg #[.int .u64 0, .int .u64 4294967295, .slice po 256 pc, .slice none 0 0]) ∧ Seg w' 52 1 po 256 pc (ps md0) ∧ Fr [] w w' ∧ ∀ k ∈ blk po, w.heap.size ≤ k

/-- the loop of start -/
def StInv (w : World) (s1 : Nat) (sv iv : Value) (wr : World) : Prop :=
  ∃ (i : Nat) (po : Option Addr) (pc : Nat), sv = .slice po i pc ∧ iv = .int .i64 (i : Int) ∧ i ≤ 256 ∧ Seg wr 52 1 po i pc (List.replicate i (.int .u64 2048)) ∧ Fr [] w wr ∧ (∀ k ∈ blk po, w.heap.size ≤ k) ∧ s1 ∉ blk po ∧
    Seg wr 55 1 (some ⟨s1, 0, none⟩) 4 4 [.int .u64 0, .int .u64 0, .slice none 0 0, .slice none 0 0]

set_option maxRecDepth 100000 in
set_option maxHeartbeats 4000000 in
theorem start_any (w : World) : Calls Try.prog 27 #[] w (StartTo w) := by
  obtain ⟨i0, hi0, hz0, hz1, hz2⟩ := info_parts infoU64
  have hps : ps md0 = List.replicate 256 (.int .u64 2048) := by unfold ps md0; simp only [List.map_replicate]; rfl
  have HPS := Lib.hid hps
  obtain ⟨s1, hs1⟩ : ∃ s1, s1 = w.heap.size := ⟨_, rfl⟩
  have HS1 := Lib.hid hs1
  have HB := Lib.hid (by
    rw [hs1]
    exact ⟨0, none, 0, rfl, rfl, by omega, by simpa using Seg.nil _ _ _, (Fr.refl [] w).alloc _, by simp [blk], by simp [blk], Seg.one w.heap.size _ _ 1 4 (alloc_new w _) rfl (by unfold maxLen; omega)⟩ :
    StInv w s1 (.slice none 0 0) (.int .i64 0) (w.alloc (.cells #[.int .u64 0, .int .u64 0, .slice none 0 0, .slice none 0 0] 55)))
  clear hps hs1
  go_enter Try.func27, Try.ntmps27
  go_wp2_with fail
  rw [← HS1.out]
  go_loopw [1, 2] (fun sv iv wr => StInv w s1 sv iv wr) (fun _ iv _ => 256 - (intOf iv).toNat)
  case atStart => exact HB.out
  case round =>
    clear HB
    obtain ⟨i, po, pc, rfl, rfl, hi, hseg, hf, hn, h1, hr⟩ := hrel
    have HF := Lib.hid hf
    have HN := Lib.hid hn
    have HR := Lib.hid hr
    have HS := Lib.hid fun (o : Obj) => hseg.alloc o
    have HN1 := Lib.hid h1
    have HNE := Lib.hid (fun (v : Value) j u hu => by
      rw [Addr.add_mid, Nat.zero_add, World.cell?_alloc_new]; simpa using hu : ∀ v j u, [v][j]? = some u → (wr.alloc (.cells #[v] 52)).cell? ((⟨wr.heap.size, 0, none⟩ : Addr).add j) = some u)
    by_cases hi2 : i < 256
    · clear hseg hf hn h1 hr
      go_wp2_with (at_builtin; refine wpList_append_seg rfl _ _ 53 rfl 52 i0 _ 1 8 Try.underlying53 hi0 hz0 hz1 hz2 rfl (by decide) po i pc (List.replicate i (.int .u64 2048)) rfl (HS.out _) ⟨wr.heap.size, 0, none⟩ 1 1 [_] rfl rfl (HNE.out _) (by simp [Value.oneCell']) (by unfold maxLen; omega) (by omega) ?_; intro ao' cap' w5 hs5 hf5 hx5; have HF5 := Lib.hid (((Fr.refl (blk po) wr).alloc _).trans hf5 (Ext.refl _ _)); have HX5 := Lib.hid hx5; have HS5 := Lib.hid hs5; clear hs5 hf5 hx5)
      go_roundw
      case rel =>
        have hb : ∀ k ∈ blk ao', k ∈ blk po ∨ wr.heap.size ≤ k := fun k hk => by
          rcases HX5.out k hk with h | h
          · exact .inl h
          · simp at h; exact .inr (by omega)
        refine ⟨i + 1, ao', cap', rfl, by go_num, by omega, by have := HS5.out; rw [List.replicate_succ']; exact this, HF.out.trans HF5.out (fun k hk => .inr (HN.out k hk)), fun k hk => ?_, fun hm => ?_, HR.out.fr HF5.out (fun k hk hm => by simp [blk] at hk; subst hk; exact HN1.out hm)⟩
        · rcases hb k hk with h | h
          · exact HN.out k h
          · have := HF.out.size; omega
        · rcases hb _ hm with h | h
          · exact HN1.out h
          · have := HR.out.lt s1 (by simp [blk]); omega
      case measure => simp [intOf]; omega
    · obtain ⟨r0, r1, r2, r3, rz⟩ := hr.c4
      have rz0 := rz 0
      have rz1 := rz 1
      have rz2 := rz 2
      have rz3 := rz 3
      have h256 : i = 256 := by omega
      subst h256
      obtain ⟨t0, t1, t2, t3, -⟩ := ((((HR.out.st0 (.int .u64 0)).st1 (.int .u64 4294967295)).st2 (.slice po 256 pc)).st3 (.slice none 0 0)).c4
      have hb1 : w.heap.size ≤ s1 := by rw [HS1.out]; omega
      have HRES := Lib.hid (⟨po, pc, rfl, by rw [HPS.out]; exact (((hseg.setCell_other h1).setCell_other h1).setCell_other h1).setCell_other h1, (((hf.setCell (p := ⟨s1, 0, none⟩) (.inr hb1) _).setCell (p := ⟨s1, 1, none⟩) (.inr hb1) _).setCell (p := ⟨s1, 2, none⟩) (.inr hb1) _).setCell (p := ⟨s1, 3, none⟩) (.inr hb1) _, hn⟩ :
        StartTo w (.returned (.agg #[.int .u64 0, .int .u64 4294967295, .slice po 256 pc, .slice none 0 0])) ((((wr.setCell ⟨s1, 0, none⟩ (.int .u64 0)).setCell ⟨s1, 1, none⟩ (.int .u64 4294967295)).setCell ⟨s1, 2, none⟩ (.slice po 256 pc)).setCell ⟨s1, 3, none⟩ (.slice none 0 0)))
      clear hseg hf hn h1 hr rz
      go_wp2_with fail
      obtain ⟨wf, hwf⟩ : ∃ wf, wf = ((((wr.setCell ⟨s1, 0, none⟩ (.int .u64 0)).setCell ⟨s1, 1, none⟩ (.int .u64 4294967295)).setCell ⟨s1, 2, none⟩ (.slice po 256 pc)).setCell ⟨s1, 3, none⟩ (.slice none 0 0)) := ⟨_, rfl⟩
      rw [← hwf] at t0 t1 t2 t3 HRES ⊢
      clear hwf r0 r1 r2 r3 rz0 rz1 rz2 rz3
      refine bodyPost_ret (by simp [results, Try.results27, go_sem, t0, t1, t2, t3]; rfl) rfl ?_
      exact HRES.out

/-- the reference's Encode: its state, and the digits of the length -/
structure REst (w : World) (s4 : Nat) (da : Option Addr) (dc : Nat) (D : List Nat) (po : Option Addr) (pc : Nat) (m : Md) (oa : Option Addr) (oc : Nat) (out : List Nat) (wr : World) : Prop where
  s : Seg wr 55 1 (some ⟨s4, 0, none⟩) 4 4 [.int .u64 (m.lo : Int), .int .u64 (m.hi : Int), .slice po 256 pc, .slice oa out.length oc]
  rs : RS wr m po pc oa oc out
  d : Seg wr 5 1 da D.length dc (bts D)
  fr : Fr [] w wr
  ns : w.heap.size ≤ s4
  np : ∀ k ∈ blk po, w.heap.size ≤ k
  no : ∀ k ∈ blk oa, w.heap.size ≤ k
  nd : ∀ k ∈ blk da, w.heap.size ≤ k
  sp : s4 ∉ blk po
  so : s4 ∉ blk oa
  sd : s4 ∉ blk da
  dp : ∀ k ∈ blk da, k ∉ blk po
  dO : ∀ k ∈ blk da, k ∉ blk oa

/-- a bit has been coded, and the state has been stored -/
theorem REst.bit {w : World} {s4 : Nat} {da : Option Addr} {dc : Nat} {D : List Nat} {po : Option Addr} {pc : Nat} {m m' : Md} {oa oa' : Option Addr} {oc oc' : Nat} {out out' : List Nat} {wr w5 : World} (h : REst w s4 da dc D po pc m oa oc out wr)
    (hr : RS w5 m' po pc oa' oc' out') (hf : Fr (blk po ++ blk oa) wr w5) (hx : Ext (blk oa) wr (blk oa')) :
    REst w s4 da dc D po pc m' oa' oc' out' ((((w5.setCell ⟨s4, 0, none⟩ (.int .u64 (m'.lo : Int))).setCell ⟨s4, 1, none⟩ (.int .u64 (m'.hi : Int))).setCell ⟨s4, 2, none⟩ (.slice po 256 pc)).setCell ⟨s4, 3, none⟩ (.slice oa' out'.length oc')) := by
  have h4 := h.s.lt s4 (by simp [blk])
  have hsz := h.fr.size
  have hso : s4 ∉ blk oa' := fun hm => by
    rcases hx _ hm with h1 | h1
    · exact h.so h1
    · omega
  have hdo : ∀ k ∈ blk da, k ∉ blk oa' := fun k hk hm => by
    rcases hx _ hm with h1 | h1
    · exact h.dO k hk h1
    · have := h.d.lt k hk; omega
  have hno : ∀ k ∈ blk oa', w.heap.size ≤ k := fun k hm => by
    rcases hx _ hm with h1 | h1
    · exact h.no k h1
    · omega
  have hs5 := h.s.fr hf (fun k hk hm => by
    simp [blk] at hk; subst hk
    rcases List.mem_append.1 hm with h1 | h1
    · exact h.sp h1
    · exact h.so h1)
  have hd5 := h.d.fr hf (fun k hk hm => by
    rcases List.mem_append.1 hm with h1 | h1
    · exact h.dp k hk h1
    · exact h.dO k hk h1)
  refine ⟨(((hs5.st0 _).st1 _).st2 _).st3 _, ⟨?_, ?_, hr.d⟩, ?_, ?_, h.ns, h.np, hno, h.nd, h.sp, hso, h.sd, h.dp, hdo⟩
  · exact (((hr.p.setCell_other h.sp).setCell_other h.sp).setCell_other h.sp).setCell_other h.sp
  · exact (((hr.o.setCell_other hso).setCell_other hso).setCell_other hso).setCell_other hso
  · exact (((hd5.setCell_other h.sd).setCell_other h.sd).setCell_other h.sd).setCell_other h.sd
  · have hf2 : Fr [] w w5 := h.fr.trans hf (fun k hk => by
      rcases List.mem_append.1 hk with h1 | h1
      · exact .inr (h.np k h1)
      · exact .inr (h.no k h1))
    exact (((hf2.setCell (p := ⟨s4, 0, none⟩) (.inr h.ns) _).setCell (p := ⟨s4, 1, none⟩) (.inr h.ns) _).setCell (p := ⟨s4, 2, none⟩) (.inr h.ns) _).setCell (p := ⟨s4, 3, none⟩) (.inr h.ns) _

/-- the state behind start -/
theorem REst.init {w w2 w3 : World} {da po : Option Addr} {dc pc : Nat} {D : List Nat} (hd : Seg w2 5 1 da D.length dc (bts D)) (hf2 : Fr [] w w2) (hnd : ∀ k ∈ blk da, w.heap.size ≤ k)
    (hp : Seg w3 52 1 po 256 pc (ps md0)) (hf3 : Fr [] w2 w3) (hnp : ∀ k ∈ blk po, w2.heap.size ≤ k) :
    REst w w3.heap.size da dc D po pc md0 none 0 [] (w3.alloc (.cells #[.int .u64 0, .int .u64 4294967295, .slice po 256 pc, .slice none 0 0] 55)) := by
  have hd3 := hd.fr hf3 (by simp)
  have hsp : w3.heap.size ∉ blk po := fun hm => by have := hp.lt _ hm; omega
  have hsd : w3.heap.size ∉ blk da := fun hm => by have := hd3.lt _ hm; omega
  have h2 := hf2.size
  have h3 := hf3.size
  have hdp : ∀ k ∈ blk da, k ∉ blk po := fun k hk hm => by have := hd.lt k hk; have := hnp k hm; omega
  have hns : w.heap.size ≤ w3.heap.size := by omega
  refine ⟨Seg.one w3.heap.size _ _ 1 4 (alloc_new w3 _) rfl (by unfold maxLen; omega), ⟨hp.alloc _, by simpa [bts] using Seg.nil _ _ _, by simp [blk]⟩, hd3.alloc _, (hf2.trans hf3 (by simp [Ext])).alloc _, hns, fun k hk => by have := hnp k hk; omega, by simp [blk], hnd, hsp, by simp [blk], hsd, hdp, by simp [blk]⟩
end Go.Proofs.Ytjehkpfmndfjeaa
