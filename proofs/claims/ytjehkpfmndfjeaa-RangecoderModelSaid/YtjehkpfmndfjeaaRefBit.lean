/- The reference model of chapter 29: start and bit. -/
import Derived.Laws.Closers25b
import Derived.Deep.DeepCutAuto
import Derived.Deep.LoopGhost
import Derived.Handy
import Derived.Test.YtjehkpfmndfjeaaLaw29c
namespace Go.Proofs.Ytjehkpfmndfjeaa
open Go.RowKit

def ps (m : Md) : List Value := m.ch.map fun x : Nat => Value.int .u64 (x : Int)
def SV (m : Md) (pv ov : Value) : Value := .agg #[.int .u64 (m.lo : Int), .int .u64 (m.hi : Int), pv, ov]

/-- the reference's state: the slice of probabilities and the bytes so far -/
structure RS (w : World) (m : Md) (po : Option Addr) (pc : Nat) (oa : Option Addr) (oc : Nat) (out : List Nat) : Prop where
  p : Seg w 52 1 po 256 pc (ps m)
  o : Seg w 5 1 oa out.length oc (bts out)
  d : ∀ k ∈ blk po, k ∉ blk oa

def RTo (w : World) (m : Md) (po : Option Addr) (pc : Nat) (oa : Option Addr) (out : List Nat) (e : Ending) (w' : World) : Prop :=
  ∃ oa' oc', e = .returned (SV m (.slice po 256 pc) (.slice oa' out.length oc')) ∧ RS w' m po pc oa' oc' out ∧ Fr (blk po ++ blk oa) w w' ∧ Ext (blk oa) w (blk oa')


theorem Seg.c4 {w : World} {T : TypeId} {b : Nat} {v0 v1 v2 v3 : Value} (h : Seg w T 1 (some ⟨b, 0, none⟩) 4 4 [v0, v1, v2, v3]) :
    w.cell? ⟨b, 0, none⟩ = some v0 ∧ w.cell? ⟨b, 1, none⟩ = some v1 ∧ w.cell? ⟨b, 2, none⟩ = some v2 ∧ w.cell? ⟨b, 3, none⟩ = some v3 ∧ ∀ j, w.frozen? ⟨b, j, none⟩ = false := by
  obtain ⟨g, off, cur, ha, _, _, hc, hf⟩ := h.at (by omega)
  cases ha
  refine ⟨?_, ?_, ?_, ?_, hf⟩
  · simpa using hc 0 (by omega)
  · simpa using hc 1 (by omega)
  · simpa using hc 2 (by omega)
  · simpa using hc 3 (by omega)

theorem Seg.st0 {w : World} {T : TypeId} {b : Nat} {v0 v1 v2 v3 : Value} (h : Seg w T 1 (some ⟨b, 0, none⟩) 4 4 [v0, v1, v2, v3]) (v : Value) : Seg (w.setCell ⟨b, 0, none⟩ v) T 1 (some ⟨b, 0, none⟩) 4 4 [v, v1, v2, v3] := by
  simpa using h.store (i := 0) (by omega) v
theorem Seg.st1 {w : World} {T : TypeId} {b : Nat} {v0 v1 v2 v3 : Value} (h : Seg w T 1 (some ⟨b, 0, none⟩) 4 4 [v0, v1, v2, v3]) (v : Value) : Seg (w.setCell ⟨b, 1, none⟩ v) T 1 (some ⟨b, 0, none⟩) 4 4 [v0, v, v2, v3] := by
  simpa using h.store (i := 1) (by omega) v
theorem Seg.st3 {w : World} {T : TypeId} {b : Nat} {v0 v1 v2 v3 : Value} (h : Seg w T 1 (some ⟨b, 0, none⟩) 4 4 [v0, v1, v2, v3]) (v : Value) : Seg (w.setCell ⟨b, 3, none⟩ v) T 1 (some ⟨b, 0, none⟩) 4 4 [v0, v1, v2, v] := by
  simpa using h.store (i := 3) (by omega) v

theorem Seg.st2 {w : World} {T : TypeId} {b : Nat} {v0 v1 v2 v3 : Value} (h : Seg w T 1 (some ⟨b, 0, none⟩) 4 4 [v0, v1, v2, v3]) (v : Value) : Seg (w.setCell ⟨b, 2, none⟩ v) T 1 (some ⟨b, 0, none⟩) 4 4 [v0, v1, v, v3] := by
  simpa using h.store (i := 2) (by omega) v

/-- the state while a bit is coded: the struct lies at s1, the result's room at s2 -/
structure BitAt (w : World) (s1 s2 : Nat) (po : Option Addr) (pc : Nat) (oa0 : Option Addr) (m : Md) (oa : Option Addr) (oc : Nat) (out : List Nat) (wr : World) : Prop where
  s : Seg wr 55 1 (some ⟨s1, 0, none⟩) 4 4 [.int .u64 (m.lo : Int), .int .u64 (m.hi : Int), .slice po 256 pc, .slice oa out.length oc]
  r : Seg wr 55 1 (some ⟨s2, 0, none⟩) 4 4 [.int .u64 0, .int .u64 0, .slice none 0 0, .slice none 0 0]
  rs : RS wr m po pc oa oc out
  fr : Fr (blk po ++ blk oa0) w wr
  ext : Ext (blk oa0) w (blk oa)
  n1 : s1 ∉ blk oa
  n2 : s2 ∉ blk oa
  p1 : s1 ∉ blk po
  p2 : s2 ∉ blk po
  ne : s1 ≠ s2
  b1 : w.heap.size ≤ s1
  b2 : w.heap.size ≤ s2

def BitInv (w : World) (s1 s2 : Nat) (po : Option Addr) (pc : Nat) (oa0 : Option Addr) (M : Md) (O out : List Nat) (k : Nat) (wr : World) : Prop :=
  ∃ (mc : Md) (dn rest : List Nat) (oa : Option Addr) (oc : Nat), k = rest.length ∧ O = dn ++ rest ∧ Nm mc rest M ∧ mc.Ok ∧ BitAt w s1 s2 po pc oa0 mc oa oc (out ++ dn) wr

def NarSt (w : World) (s1 s2 : Nat) (po : Option Addr) (pc : Nat) (oa0 : Option Addr) (m : Md) (oc : Nat) (out : List Nat) (wr : World) : Prop := BitAt w s1 s2 po pc oa0 m oa0 oc out wr

theorem BitAt.start {w : World} {m : Md} {po : Option Addr} {pc : Nat} {oa : Option Addr} {oc : Nat} {out : List Nat} (h : RS w m po pc oa oc out) :
    BitAt w w.heap.size (w.heap.size + 1) po pc oa m oa oc out ((w.alloc (.cells #[.int .u64 (m.lo : Int), .int .u64 (m.hi : Int), .slice po 256 pc, .slice oa out.length oc] 55)).alloc (.cells #[.int .u64 0, .int .u64 0, .slice none 0 0, .slice none 0 0] 55)) := by
  have hp := h.p.lt
  have ho := h.o.lt
  refine ⟨?_, ?_, ⟨(h.p.alloc _).alloc _, (h.o.alloc _).alloc _, h.d⟩, ((Fr.refl _ _).alloc _).alloc _, Ext.refl _ _, fun hm => by have := ho _ hm; omega, fun hm => by have := ho _ hm; omega, fun hm => by have := hp _ hm; omega, fun hm => by have := hp _ hm; omega, by omega, by omega, by omega⟩
  · exact (Seg.one w.heap.size _ _ 1 4 (alloc_new w _) rfl (by unfold maxLen; omega)).alloc _
  · have := alloc_new (w.alloc (.cells #[.int .u64 (m.lo : Int), .int .u64 (m.hi : Int), .slice po 256 pc, .slice oa out.length oc] 55)) (.cells #[.int .u64 0, .int .u64 0, .slice none 0 0, .slice none 0 0] 55)
    rw [World.size_alloc] at this
    exact Seg.one (w.heap.size + 1) _ _ 1 4 this rfl (by unfold maxLen; omega)

theorem ps_set (m m' : Md) (c v : Nat) (h : m'.ch = m.ch.set c v) : ps m' = (ps m).set c (.int .u64 (v : Int)) := by
  unfold ps; rw [h, List.map_set]

/-- the narrowing -/
theorem BitAt.nar {w : World} {s1 s2 : Nat} {g off pc : Nat} {oa0 oa : Option Addr} {oc : Nat} {out : List Nat} {m m' : Md} {wr : World} (h : BitAt w s1 s2 (some ⟨g, off, none⟩) pc oa0 m oa oc out wr) {c v : Nat} (hc : c < 256) (hch : m'.ch = m.ch.set c v)
    {w1 : World} (hw : Seg w1 55 1 (some ⟨s1, 0, none⟩) 4 4 [.int .u64 (m'.lo : Int), .int .u64 (m'.hi : Int), .slice (some ⟨g, off, none⟩) 256 pc, .slice oa out.length oc]) (hf : Fr [s1] wr w1) :
    BitAt w s1 s2 (some ⟨g, off, none⟩) pc oa0 m' oa oc out (w1.setCell ⟨g, off + c, none⟩ (.int .u64 (v : Int))) := by
  have hg1 : g ∉ blk (some ⟨s1, 0, none⟩) := fun hm => by have := h.p1; simp [blk] at hm this; omega
  have hg2 : g ∉ blk (some ⟨s2, 0, none⟩) := fun hm => by have := h.p2; simp [blk] at hm this; omega
  have hr : Seg w1 55 1 (some ⟨s2, 0, none⟩) 4 4 [.int .u64 0, .int .u64 0, .slice none 0 0, .slice none 0 0] := h.r.fr hf (fun k hk hm => by have := h.ne; simp [blk] at hk hm; omega)
  have hp : Seg w1 52 1 (some ⟨g, off, none⟩) 256 pc (ps m) := h.rs.p.fr hf (fun k hk hm => by have := h.p1; simp only [List.mem_singleton] at hm; subst hm; exact this hk)
  have ho : Seg w1 5 1 oa out.length oc (bts out) := h.rs.o.fr hf (fun k hk hm => by have := h.n1; simp only [List.mem_singleton] at hm; subst hm; exact this hk)
  refine ⟨hw.setCell_other hg1, hr.setCell_other hg2, ⟨?_, ho.setCell_other (fun hm => h.rs.d g (by simp [blk]) hm), h.rs.d⟩, ?_, h.ext, h.n1, h.n2, h.p1, h.p2, h.ne, h.b1, h.b2⟩
  · rw [ps_set m m' c v hch]
    exact hp.store (by omega) _
  · exact (h.fr.trans hf (fun k hk => by simp at hk; subst hk; exact .inr h.b1)).setCell (.inl (by simp [blk])) _

/-- a settled byte has been written out -/
theorem BitAt.shift {w : World} {s1 s2 pc : Nat} {po oa0 ob ao' : Option Addr} {obc cap' x : Nat} {out D dn O r rest : List Nat} {mc M : Md} {wr w5 : World} (h : BitAt w s1 s2 po pc oa0 mc ob obc (out ++ dn) wr)
    (hs : mc.same) (hok : mc.Ok) (hD : D = out ++ dn) (hx : x = mc.lo / 16777216) (hr : rest = mc.lo / 16777216 :: r) (hO : O = dn ++ rest) (hN : Nm mc.shf r M)
    (hf : Fr (blk ob) wr w5) {o : Obj} (hx5 : Ext (blk ob) (wr.alloc o) (blk ao')) (h5 : Seg w5 5 1 ao' (D.length + 1) cap' (bts D ++ [.int .u8 ((mc.lo : Int) / 16777216)])) :
    BitInv w s1 s2 po pc oa0 M O out r.length (((w5.setCell ⟨s1, 3, none⟩ (.slice ao' (D.length + 1) cap')).setCell ⟨s1, 0, none⟩ (.int .u64 ((mc.lo : Int) * 256 % 4294967296))).setCell ⟨s1, 1, none⟩ (.int .u64 (((mc.hi : Int) * 256 + 255) % 4294967296))) := by
  have hsz := h.fr.size
  have hl1 := h.s.lt s1 (by simp [blk])
  have hl2 := h.r.lt s2 (by simp [blk])
  have hb : ∀ k ∈ blk ao', k ∈ blk ob ∨ wr.heap.size ≤ k := fun k hk => by
    rcases hx5 k hk with h | h
    · exact .inl h
    · simp at h; exact .inr (by omega)
  have n1 : s1 ∉ blk ao' := fun hm => by rcases hb _ hm with h1 | h1; exact h.n1 h1; omega
  have n2 : s2 ∉ blk ao' := fun hm => by rcases hb _ hm with h1 | h1; exact h.n2 h1; omega
  have hs5 : Seg w5 55 1 (some ⟨s1, 0, none⟩) 4 4 [.int .u64 (mc.lo : Int), .int .u64 (mc.hi : Int), .slice po 256 pc, .slice ob (out ++ dn).length obc] := h.s.fr hf (fun k hk hm => by simp [blk] at hk; subst hk; exact h.n1 hm)
  have hr5 := h.r.fr hf (fun k hk hm => by simp [blk] at hk; subst hk; exact h.n2 hm)
  have hp5 := h.rs.p.fr hf (fun k hk hm => h.rs.d k hk hm)
  have hsp : ∀ j, (⟨s1, j, none⟩ : Addr).block ∉ blk po := fun j => h.p1
  have hsr : ∀ j, (⟨s1, j, none⟩ : Addr).block ∉ blk (some ⟨s2, 0, none⟩) := fun j hm => by have := h.ne; simp [blk] at hm; exact this hm
  have hso : ∀ j, (⟨s1, j, none⟩ : Addr).block ∉ blk ao' := fun j => n1
  have hlen : (out ++ (dn ++ [x])).length = D.length + 1 := by rw [hD]; simp; omega
  have hbt : bts (out ++ (dn ++ [x])) = bts D ++ [.int .u8 ((mc.lo : Int) / 16777216)] := by rw [← List.append_assoc, ← hD, bts_append, hx]; simp [bts]
  refine ⟨mc.shf, dn ++ [x], r, ao', cap', rfl, by rw [hO, hr, hx]; simp, hN, hok.shf hs, ?_, ?_, ⟨?_, ?_, fun k hk hm => ?_⟩, ?_, ?_, n1, n2, h.p1, h.p2, h.ne, h.b1, h.b2⟩
  · have h3 := ((hs5.st3 (.slice ao' (D.length + 1) cap')).st0 (.int .u64 ((mc.lo : Int) * 256 % 4294967296))).st1 (.int .u64 (((mc.hi : Int) * 256 + 255) % 4294967296))
    rw [hlen, show ((mc.shf.lo : Nat) : Int) = (mc.lo : Int) * 256 % 4294967296 by simp [Md.shf], show ((mc.shf.hi : Nat) : Int) = ((mc.hi : Int) * 256 + 255) % 4294967296 by simp [Md.shf]]
    exact h3
  · exact ((hr5.setCell_other (hsr 3)).setCell_other (hsr 0)).setCell_other (hsr 1)
  · exact ((hp5.setCell_other (hsp 3)).setCell_other (hsp 0)).setCell_other (hsp 1)
  · rw [hlen, hbt]
    exact ((h5.setCell_other (hso 3)).setCell_other (hso 0)).setCell_other (hso 1)
  · rcases hb k hm with h1 | h1
    · exact h.rs.d k hk h1
    · have := h.rs.p.lt k hk; omega
  · have hf2 : Fr (blk po ++ blk oa0) w w5 := h.fr.trans hf (fun k hk => by
      rcases h.ext k hk with h1 | h1
      · exact .inl (by simp [h1])
      · exact .inr h1)
    exact ((hf2.setCell (p := ⟨s1, 3, none⟩) (.inr h.b1) _).setCell (p := ⟨s1, 0, none⟩) (.inr h.b1) _).setCell (p := ⟨s1, 1, none⟩) (.inr h.b1) _
  · intro k hk
    rcases hb k hk with h1 | h1
    · exact h.ext k h1
    · exact .inr (by omega)

/-- the state is handed back -/
theorem BitAt.done {w : World} {s1 s2 pc : Nat} {po oa0 ob : Option Addr} {obc : Nat} {out dn : List Nat} {mc : Md} {wr : World} (h : BitAt w s1 s2 po pc oa0 mc ob obc (out ++ dn) wr) :
    RTo w mc po pc oa0 (out ++ (dn ++ [])) (.returned (.agg #[.int .u64 (mc.lo : Int), .int .u64 (mc.hi : Int), .slice po 256 pc, .slice ob (out.length + dn.length) obc]))
      ((((wr.setCell ⟨s2, 0, none⟩ (.int .u64 (mc.lo : Int))).setCell ⟨s2, 1, none⟩ (.int .u64 (mc.hi : Int))).setCell ⟨s2, 2, none⟩ (.slice po 256 pc)).setCell ⟨s2, 3, none⟩ (.slice ob (out.length + dn.length) obc)) := by
  have hp : ∀ j, (⟨s2, j, none⟩ : Addr).block ∉ blk po := fun j => h.p2
  have ho : ∀ j, (⟨s2, j, none⟩ : Addr).block ∉ blk ob := fun j => h.n2
  rw [List.append_nil]
  refine ⟨ob, obc, by rw [List.length_append]; rfl, ⟨?_, ?_, h.rs.d⟩, ?_, h.ext⟩
  · exact (((h.rs.p.setCell_other (hp 0)).setCell_other (hp 1)).setCell_other (hp 2)).setCell_other (hp 3)
  · exact (((h.rs.o.setCell_other (ho 0)).setCell_other (ho 1)).setCell_other (ho 2)).setCell_other (ho 3)
  · exact (((h.fr.setCell (p := ⟨s2, 0, none⟩) (.inr h.b2) _).setCell (p := ⟨s2, 1, none⟩) (.inr h.b2) _).setCell (p := ⟨s2, 2, none⟩) (.inr h.b2) _).setCell (p := ⟨s2, 3, none⟩) (.inr h.b2) _

set_option maxRecDepth 100000 in
set_option maxHeartbeats 4000000 in
theorem bit_any (w : World) (m : Md) (po : Option Addr) (pc : Nat) (oa : Option Addr) (oc : Nat) (out : List Nat) (h : RS w m po pc oa oc out) (hm : m.Rdy) (c : Nat) (hc : c < 256) (b : Bool) (hl : out.length ≤ 1000000000) :
    Calls Try.prog 28 #[SV m (.slice po 256 pc) (.slice oa out.length oc), .int .i64 c, .bool b] w (RTo w (m.step c b) po pc oa (out ++ m.outs c b)) := by
  obtain ⟨i0, hi0, hz0, hz1, hz2⟩ := info_parts infoByte
  have hpc : 256 ≤ pc := h.p.2.2.1
  obtain ⟨g, off, cur, rfl, hg, hfit, hcell, hfz⟩ := h.p.at (by omega)
  have hp := hm.ok.p_bd hc
  have hmid := hm.ok.mid_bd hm.lt hc
  obtain ⟨p, hpe⟩ : ∃ p, p = m.p c := ⟨_, rfl⟩
  obtain ⟨lo, hlo⟩ : ∃ lo, lo = m.lo := ⟨_, rfl⟩
  obtain ⟨hi, hhi⟩ : ∃ hi, hi = m.hi := ⟨_, rfl⟩
  obtain ⟨md, hmd⟩ : ∃ md, md = m.mid c := ⟨_, rfl⟩
  have hlt : lo < hi := by rw [hlo, hhi]; exact hm.lt
  have hhb : hi ≤ 4294967295 := by have := hm.ok.hi; omega
  have hmdv : (hi - lo) / 4096 * p = md - lo := by rw [hmd, Md.mid, hlo, hhi, hpe]; omega
  rw [← hmd, ← hlo, ← hhi] at hmid
  rw [← hpe] at hp
  obtain ⟨p1, p2⟩ := hp
  obtain ⟨m1, m2⟩ := hmid
  have HB := Lib.hid (BitAt.start h)
  unfold SV
  rw [← hlo, ← hhi] at HB ⊢
  have HNM := Lib.hid (step_nm hm hc b)
  have HOK := Lib.hid (hm.ok.nar hm.lt hc b)
  obtain ⟨M, hM⟩ : ∃ M, M = m.step c b := ⟨_, rfl⟩
  obtain ⟨O, hO⟩ : ∃ O, O = m.outs c b := ⟨_, rfl⟩
  have hOl : O.length ≤ 5 := by rw [hO]; exact outs_len _ _ _
  rw [← hM, ← hO] at HNM ⊢
  have hcp : ∀ {wr : World}, RS wr m (some ⟨g, off, none⟩) pc oa oc out → wr.cell? ⟨g, off + c, none⟩ = some (.int .u64 (p : Int)) ∧ wr.frozen? ⟨g, off + c, none⟩ = false := by
    intro wr hr
    obtain ⟨g', off', cur', ha, hg', _, hcell', hfz'⟩ := hr.p.at (by omega)
    cases ha
    refine ⟨?_, hfz' _⟩
    rw [hcell' c (by omega), ps, List.getElem?_map, hpe, Md.p, List.getD_eq_getElem?_getD]
    have : c < m.ch.length := by rw [hm.ok.len]; exact hc
    rw [List.getElem?_eq_getElem this]; rfl
  have HGL := Lib.hid (lt_of_blk hg)
  have HCP := Lib.hid (fun (wr : World) (hr : RS wr m (some ⟨g, off, none⟩) pc oa oc out) => hcp hr)
  have HPE := Lib.hid hpe
  have HLO := Lib.hid hlo
  have HHI := Lib.hid hhi
  have HMD := Lib.hid hmd
  have e1 : ((hi : Int) - (lo : Int)) / 4096 * (p : Int) = ((md - lo : Nat) : Int) := by rw [← hmdv]; push_cast; rw [Int.natCast_sub (by omega)]
  have e2 : 0 ≤ ((hi : Int) - (lo : Int)) / 4096 * (p : Int) := by rw [e1]; omega
  have e3 : ((hi : Int) - (lo : Int)) / 4096 * (p : Int) ≤ 4294967295 := by rw [e1]; omega
  have HE1 := Lib.hid e1
  clear h hm hg hcell hpe hlo hhi hmd hM hO hcp hfz hfit hmdv e1
  go_enter Try.func28, Try.ntmps28
  obtain ⟨c0, c1, c2, c3, fz⟩ := HB.out.s.c4
  obtain ⟨cp, fp⟩ := HCP.out _ HB.out.rs
  rw [← HLO.out] at c0
  rw [← HHI.out] at c1
  have HFZ := Lib.hid fz
  clear fz c3 fp
  go_upto_if 25 with fail
  clear c0 c1 c2 cp
  obtain ⟨W, hW⟩ : ∃ W, W = ((w.alloc (.cells #[.int .u64 (lo : Int), .int .u64 (hi : Int), .slice (some ⟨g, off, none⟩) 256 pc, .slice oa out.length oc] 55)).alloc (.cells #[.int .u64 0, .int .u64 0, .slice none 0 0, .slice none 0 0] 55)) := ⟨_, rfl⟩
  rw [← hW] at HB ⊢
  obtain ⟨s1, hs1⟩ : ∃ s1, s1 = w.heap.size := ⟨_, rfl⟩
  obtain ⟨s2, hs2⟩ : ∃ s2, s2 = w.heap.size + 1 := ⟨_, rfl⟩
  rw [← hs2, ← hs1] at HB ⊢
  have hgs : g < s1 := by rw [hs1]; exact HGL.out
  clear hW hs1 hs2 HFZ
  go_cut [] (fun wc => NarSt w s1 s2 (some ⟨g, off, none⟩) pc oa (m.nar c b) oc out wc)
  case first =>
    obtain ⟨c0, c1, c2, c3, fz⟩ := HB.out.s.c4
    obtain ⟨cp, fp⟩ := HCP.out _ HB.out.rs
    rw [← HLO.out] at c0
    rw [← HHI.out] at c1
    have fz0 := fz 0
    have fz1 := fz 1
    clear fz
    cases b
    · have key := BitAt.nar (m' := m.nar c false) (v := p - p / 16) HB.out hc (by rw [HPE.out]; rfl) (HB.out.s.st0 (.int .u64 (((m.nar c false).lo : Nat) : Int))) ((Fr.refl [s1] W).setCell (p := ⟨s1, 0, none⟩) (.inl (by simp)) _)
      have el : (((m.nar c false).lo : Nat) : Int) = (lo : Int) + ((hi : Int) - (lo : Int)) / 4096 * (p : Int) + 1 := by
        have : (m.nar c false).lo = md + 1 := by rw [HMD.out]; rfl
        rw [HE1.out, this]; omega
      rw [el, show ((p - p / 16 : Nat) : Int) = (p : Int) - (p : Int) / 16 by omega] at key
      have HK := Lib.hid key
      clear key el
      go_wp2_with fail
      go_meet
      exact HK.out
    · have key := BitAt.nar (m' := m.nar c true) (v := p + (4096 - p) / 16) HB.out hc (by rw [HPE.out]; rfl) (HB.out.s.st1 (.int .u64 (((m.nar c true).hi : Nat) : Int))) ((Fr.refl [s1] W).setCell (p := ⟨s1, 1, none⟩) (.inl (by simp)) _)
      have el : (((m.nar c true).hi : Nat) : Int) = (lo : Int) + ((hi : Int) - (lo : Int)) / 4096 * (p : Int) := by
        have : (m.nar c true).hi = md := by rw [HMD.out]; rfl
        rw [HE1.out, this]; omega
      rw [el, show ((p + (4096 - p) / 16 : Nat) : Int) = (p : Int) + (4096 - (p : Int)) / 16 by omega] at key
      have HK := Lib.hid key
      clear key el
      go_wp2_with fail
      go_meet
      exact HK.out
  case rest =>
    unfold NarSt at hcut
    have HST := Lib.hid (⟨m.nar c b, [], O, oa, oc, rfl, rfl, HNM.out, HOK.out, by rw [List.append_nil]; exact hcut⟩ : BitInv w s1 s2 (some ⟨g, off, none⟩) pc oa M O out O.length wc)
    clear hcut HB HCP HPE HLO HHI HMD HE1 e2 e3 HNM HOK
    go_wp2_with fail
    go_loopg [] O.length (fun k wr => BitInv w s1 s2 (some ⟨g, off, none⟩) pc oa M O out k wr)
    case atStart => exact HST.out
    case round =>
      clear HST
      obtain ⟨mc, dn, rest, ob, obc, hk, hO, hN, hok, hat⟩ := hrel
      have HAT := Lib.hid hat
      have HN := Lib.hid hN
      have HO := Lib.hid hO
      obtain ⟨c0, c1, c2, c3, fz⟩ := hat.s.c4
      have fz0 := fz 0
      have fz1 := fz 1
      have fz3 := fz 3
      have hlo : mc.lo ≤ 4294967295 := by have := hok.le; have := hok.hi; omega
      have hhi : mc.hi ≤ 4294967295 := by have := hok.hi; omega
      have hdl : (out ++ dn).length ≤ 1000000005 := by rw [hO] at hOl; simp at hOl ⊢; omega
      have hsz : s1 < wr.heap.size := hat.s.lt s1 (by simp [blk])
      have HOK2 := Lib.hid hok
      clear fz hat hN hO hok
      by_cases hs : mc.same
      · obtain ⟨r, hr, hN2⟩ := HN.out.yes hs
        obtain ⟨x, hx⟩ : ∃ x, x = mc.lo / 16777216 := ⟨_, rfl⟩
        have hsm : ((mc.lo : Int) / 16777216 == (mc.hi : Int) / 16777216) = true := by unfold Md.same at hs; simp; omega
        have ho : (mc.lo : Int) / 16777216 % 256 = (mc.lo : Int) / 16777216 := by omega
        have HS := Lib.hid fun (o : Obj) => HAT.out.rs.o.alloc o
        have HNE := Lib.hid (fun (v : Value) j u hu => by
          rw [Addr.add_mid, Nat.zero_add, World.cell?_alloc_new]; simpa using hu : ∀ v j u, [v][j]? = some u → (wr.alloc (.cells #[v] 5)).cell? ((⟨wr.heap.size, 0, none⟩ : Addr).add j) = some u)
        obtain ⟨D, hD⟩ : ∃ D, D = out ++ dn := ⟨_, rfl⟩
        rw [← hD] at c3 hdl HS
        have HD := Lib.hid hD
        have HX := Lib.hid hx
        have HSM := Lib.hid hs
        have HR := Lib.hid hr
        have HN2 := Lib.hid hN2
        clear hD hx hs hr hN2
        go_wp2_with (at_builtin; refine wpList_append_seg rfl _ _ 22 rfl 5 i0 _ 1 1 Try.underlying22 hi0 hz0 hz1 hz2 rfl (by decide) ob D.length obc (bts D) rfl (HS.out _) ⟨wr.heap.size, 0, none⟩ 1 1 [_] rfl rfl (HNE.out _) (by simp [Value.oneCell']) (by unfold maxLen; omega) (by omega) ?_; intro ao' cap' w5 hs5 hf5 hx5; have HF5 := Lib.hid (((Fr.refl (blk ob) wr).alloc _).trans hf5 (Ext.refl _ _)); have HX5 := Lib.hid hx5; have HS5 := Lib.hid hs5; obtain ⟨d0, d1, d2, d3, dz⟩ := (HAT.out.s.fr HF5.out (fun k hk hm => by simp [blk] at hk; subst hk; exact HAT.out.n1 hm)).c4; have dz0 := dz 0; have dz1 := dz 1; have dz3 := dz 3; clear hs5 hf5 hx5 dz c0 c1 c2 c3 fz0 fz1 fz3)
        go_roundg r.length
        case measure => rw [hk, HR.out]; simp
        case rel => exact HAT.out.shift HSM.out HOK2.out HD.out HX.out HR.out HO.out HN2.out HF5.out HX5.out HS5.out
      · have hsm : ((mc.lo : Int) / 16777216 == (mc.hi : Int) / 16777216) = false := by unfold Md.same at hs; simp; omega
        obtain ⟨rfl, rfl⟩ := HN.out.no hs
        obtain ⟨r0, r1, r2, r3, rz⟩ := HAT.out.r.c4
        have rz0 := rz 0
        have rz1 := rz 1
        have rz2 := rz 2
        have rz3 := rz 3
        obtain ⟨t0, t1, t2, t3, -⟩ := ((((HAT.out.r.st0 (.int .u64 (mc.lo : Int))).st1 (.int .u64 (mc.hi : Int))).st2 (.slice (some ⟨g, off, none⟩) 256 pc)).st3 (.slice ob (out.length + dn.length) obc)).c4
        clear hs rz
        go_wp2_with fail
        obtain ⟨wf, hwf⟩ : ∃ wf, wf = ((((wr.setCell ⟨s2, 0, none⟩ (.int .u64 (mc.lo : Int))).setCell ⟨s2, 1, none⟩ (.int .u64 (mc.hi : Int))).setCell ⟨s2, 2, none⟩ (.slice (some ⟨g, off, none⟩) 256 pc)).setCell ⟨s2, 3, none⟩ (.slice ob (out.length + dn.length) obc)) := ⟨_, rfl⟩
        rw [← hwf] at t0 t1 t2 t3 ⊢
        have HWF := Lib.hid hwf
        clear hwf r0 r1 r2 r3 rz0 rz1 rz2 rz3 c0 c1 c2 c3 fz0 fz1 fz3
        refine bodyPost_ret (by simp [results, Try.results28, go_sem, t0, t1, t2, t3]; rfl) rfl ?_
        rw [HWF.out, HO.out]
        exact HAT.out.done
end Go.Proofs.Ytjehkpfmndfjeaa
