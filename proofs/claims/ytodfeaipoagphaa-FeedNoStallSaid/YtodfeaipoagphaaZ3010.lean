/- Enc, Put, Fin, Walk, Encode, Encode2 (merged by merge.py). -/
import Derived.Test.YtodfeaipoagphaaZ309
import Derived.Test.YtodfeaipoagphaaZ300
import Derived.Deep.LoopGhost
import Derived.Deep.RegionHeld3
/- Package rangecoder: the encoder; put. -/
namespace Go.Proofs.Ytodfeaipoagphaa
open Go.RowKit

/-! ### how the settled bytes come, one by one -/
inductive Nm : Md → List Nat → Md → Prop
  | done {m : Md} : ¬ m.same → Nm m [] m
  | more {m m' : Md} {o : List Nat} : m.same → Nm m.shf o m' → Nm m (m.lo / 16777216 :: o) m'

theorem norm_nm : ∀ (k : Nat) {m : Md}, m.Ok → 16777216 < (m.hi - m.lo + 1) * 256 ^ k → Nm m (norm k m).1 (norm k m).2
  | 0, m, h, hw => .done (norm_done 0 h hw)
  | k + 1, m, h, hw => by
    by_cases hs : m.same
    · have e : norm (k + 1) m = (m.lo / 16777216 :: (norm k m.shf).1, (norm k m.shf).2) := by rw [norm, if_pos hs]
      rw [e]
      obtain ⟨a, b, c, d⟩ := Md.shf_eq h hs
      have hl := h.le
      refine .more hs (norm_nm k (h.shf hs) ?_)
      have e2 : m.shf.hi - m.shf.lo + 1 = (m.hi - m.lo + 1) * 256 := by omega
      rw [e2, Nat.mul_assoc, ← Nat.pow_succ']
      exact hw
    · have e : norm (k + 1) m = ([], m) := by rw [norm, if_neg hs]
      rw [e]; exact .done hs
theorem step_nm {m : Md} (h : m.Rdy) {c : Nat} (hc : c < 256) (b : Bool) : Nm (m.nar c b) (m.outs c b) (m.step c b) := norm_nm 5 (h.ok.nar h.lt hc b) (by omega)
theorem Nm.no {m m' : Md} {o : List Nat} (h : Nm m o m') (hs : ¬ m.same) : o = [] ∧ m = m' := by
  cases h with
  | done _ => exact ⟨rfl, rfl⟩
  | more h1 _ => exact absurd h1 hs
theorem Nm.yes {m m' : Md} {o : List Nat} (h : Nm m o m') (hs : m.same) : ∃ o', o = m.lo / 16777216 :: o' ∧ Nm m.shf o' m' := by
  cases h with
  | done h1 => exact absurd hs h1
  | more _ h2 => exact ⟨_, rfl, h2⟩
theorem norm_len : ∀ (k : Nat) (m : Md), (norm k m).1.length ≤ k
  | 0, _ => by simp [norm]
  | k + 1, m => by
    unfold norm
    split
    · have := norm_len k m.shf; simp only [List.length_cons]; omega
    · simp
theorem outs_len (m : Md) (c : Nat) (b : Bool) : (m.outs c b).length ≤ 5 := norm_len 5 _

/-! ### the encoder in the heap -/
structure IsEncAt (w : World) (p : Nat) (F : List Nat) (m : Md) (out : List Nat) (oa : Option Addr) (oc : Nat) : Prop where
  blocks : F = p :: blk oa
  po : p ∉ blk oa
  head : MdAt w p 99 m [.slice oa out.length oc]
  out : Seg w 5 1 oa out.length oc (bts out)
def IsEnc (w : World) (p : Nat) (F : List Nat) (m : Md) (out : List Nat) : Prop := ∃ oa oc, IsEncAt w p F m out oa oc
/-- the encoder has m and out now; nothing but its own blocks has changed -/
def EncTo (w : World) (p : Nat) (F : List Nat) (m : Md) (out : List Nat) (w' : World) : Prop := ∃ F', IsEnc w' p F' m out ∧ Fr F w w' ∧ Ext F w F'

section
variable {w : World} {p : Nat} {F : List Nat} {m : Md} {out : List Nat}

theorem IsEncAt.lt {oa : Option Addr} {oc : Nat} (h : IsEncAt w p F m out oa oc) : ∀ k ∈ F, k < w.heap.size := by
  intro k hk
  rw [h.blocks] at hk
  simp only [List.mem_cons] at hk
  rcases hk with rfl | hk
  · exact h.head.lt
  · exact h.out.lt k hk
theorem IsEnc.lt (h : IsEnc w p F m out) : ∀ k ∈ F, k < w.heap.size := by obtain ⟨_, _, h⟩ := h; exact h.lt
theorem IsEnc.fr {w' : World} {S : List Nat} (h : IsEnc w p F m out) (hf : Fr S w w') (hS : ∀ k ∈ F, k ∉ S) : IsEnc w' p F m out := by
  obtain ⟨oa, oc, h⟩ := h
  have hb := h.blocks
  exact ⟨oa, oc, h.blocks, h.po, h.head.fr hf (hS p (by simp [hb])), h.out.fr hf fun k hk => hS k (by simp [hb, hk])⟩
theorem EncTo.trans {F' : List Nat} {w1 w2 : World} {m2 : Md} {out2 : List Nat} (h1 : Fr F w w1) (h2 : Ext F w F') (h : EncTo w1 p F' m2 out2 w2) : EncTo w p F m2 out2 w2 := by
  obtain ⟨F2, a, b, c⟩ := h
  exact ⟨F2, a, h1.trans b h2, h2.trans c h1.size⟩
theorem IsEnc.to (h : IsEnc w p F m out) : EncTo w p F m out w := ⟨F, h, Fr.refl _ _, Ext.refl _ _⟩
theorem IsEnc.toFr {w' : World} (h : IsEnc w p F m out) (hf : Fr [] w w') : EncTo w p F m out w' := ⟨F, h.fr hf (by simp), hf.mono (by simp), Ext.refl _ _⟩
theorem IsEnc.mdTo {oa : Option Addr} {oc : Nat} {m' : Md} {w' : World} (h : IsEncAt w p F m out oa oc) (ht : MdTo w p 99 m' [.slice oa out.length oc] w') : EncTo w p F m' out w' := by
  have hb := h.blocks
  exact ⟨F, ⟨oa, oc, h.blocks, h.po, ht.1, h.out.fr ht.2 fun k hk hm => by simp at hm; subst hm; exact h.po hk⟩, ht.2.mono (by simp [hb]), Ext.refl _ _⟩

theorem enc_narrow (h : IsEnc w p F m out) (hm : m.Rdy) (c : Nat) (hc : c < 256) (b : Bool) {x : Int} (hx : x = if b then 1 else 0) :
    Calls Try.prog 53 #[.pointer (some ⟨p, 0, none⟩), .int .i64 c, .int .i64 x] w fun e w' => e = .returned (.tuple #[]) ∧ EncTo w p F (m.nar c b) out w' := by
  obtain ⟨oa, oc, h⟩ := h
  exact (narrow_any h.head hm c hc b hx).mono fun e w' ⟨h1, h2⟩ => ⟨h1, IsEnc.mdTo h h2⟩
theorem enc_shift_no (h : IsEnc w p F m out) (hm : m.Ok) (hs : ¬ m.same) :
    Calls Try.prog 54 #[.pointer (some ⟨p, 0, none⟩)] w fun e w' => e = .returned (.tuple #[.int .u8 0, .bool false]) ∧ EncTo w p F m out w' := by
  have h' := h
  obtain ⟨oa, oc, h⟩ := h
  exact (shift_no h.head hm hs).mono fun e w' ⟨h1, h2⟩ => ⟨h1, h'.toFr h2⟩
theorem enc_shift_yes (h : IsEnc w p F m out) (hm : m.Ok) (hs : m.same) :
    Calls Try.prog 54 #[.pointer (some ⟨p, 0, none⟩)] w fun e w' => e = .returned (.tuple #[.int .u8 ((m.lo / 16777216 : Nat) : Int), .bool true]) ∧ EncTo w p F m.shf out w' := by
  obtain ⟨oa, oc, h⟩ := h
  exact (shift_yes h.head hm hs).mono fun e w' ⟨h1, h2⟩ => ⟨h1, IsEnc.mdTo h h2⟩

/-- the loop of put -/
def PutInv (w : World) (p : Nat) (F : List Nat) (M : Md) (O out : List Nat) (k : Nat) (cv ov : Value) (wr : World) : Prop :=
  (k = 0 ∧ cv = .int .u8 0 ∧ ov = .bool false ∧ EncTo w p F M (out ++ O) wr) ∨
  ∃ (x : Nat) (mc : Md) (dn rest : List Nat), k = rest.length + 1 ∧ cv = .int .u8 (x : Int) ∧ ov = .bool true ∧ x < 256 ∧ O = dn ++ x :: rest ∧ Nm mc rest M ∧ mc.Ok ∧ EncTo w p F mc (out ++ dn) wr

/-- shift as the loop of put meets it: what it returns, and the state behind it -/
def ShiftTo (w : World) (p : Nat) (F : List Nat) (M : Md) (rest out : List Nat) (e : Ending) (w' : World) : Prop :=
  (rest = [] ∧ e = .returned (.tuple #[.int .u8 0, .bool false]) ∧ EncTo w p F M out w') ∨
  ∃ (x : Nat) (mc : Md) (r : List Nat), rest = x :: r ∧ e = .returned (.tuple #[.int .u8 (x : Int), .bool true]) ∧ x < 256 ∧ Nm mc r M ∧ mc.Ok ∧ EncTo w p F mc out w'
theorem enc_shift (h : IsEnc w p F m out) (hm : m.Ok) {rest : List Nat} {M : Md} (hn : Nm m rest M) :
    Calls Try.prog 54 #[.pointer (some ⟨p, 0, none⟩)] w (ShiftTo w p F M rest out) := by
  by_cases hs : m.same
  · obtain ⟨o', rfl, hn'⟩ := hn.yes hs
    exact (enc_shift_yes h hm hs).mono fun e w' ⟨h1, h2⟩ => .inr ⟨_, _, _, rfl, h1, by have := hm.hi; have := hm.le; omega, hn', hm.shf hs, h2⟩
  · obtain ⟨rfl, rfl⟩ := hn.no hs
    exact (enc_shift_no h hm hs).mono fun e w' ⟨h1, h2⟩ => .inl ⟨rfl, h1, h2⟩


/-- a byte has been appended -/
theorem put_app {oa ao' : Option Addr} {oc cap' : Nat} {w1 : World} {x : Nat} {o : Obj} (h : IsEncAt w p F m out oa oc) (hs : Seg w1 5 1 ao' (out.length + 1) cap' (bts out ++ [.int .u8 (x : Int)])) (hf : Fr (blk oa) (w.alloc o) w1) (hx : Ext (blk oa) (w.alloc o) (blk ao')) :
    EncTo w p F m (out ++ [x]) (w1.setCell ⟨p, 258, none⟩ (.slice ao' (out.length + 1) cap')) := by
  have hb := h.blocks
  have hpl := h.head.lt
  have hfw : Fr (blk oa) w w1 := ((Fr.refl (blk oa) w).alloc o).trans hf (Ext.refl _ _)
  have hn : ∀ k ∈ blk ao', k ∈ blk oa ∨ w.heap.size ≤ k := fun k hk => by rcases hx k hk with h | h; exact .inl h; simp at h; exact .inr (by omega)
  have hpa : p ∉ blk ao' := fun hm => by rcases hn p hm with h1 | h1; exact h.po h1; omega
  refine ⟨p :: blk ao', ⟨ao', cap', rfl, hpa, ?_, ?_⟩, (hfw.mono (by intro k hk; simp [hb, hk])).setCell (.inl (by simp [hb])) _, fun k hk => ?_⟩
  · have := (h.head.fr hfw h.po).setX 0 (.slice ao' (out.length + 1) cap')
    simpa using this
  · have := Seg.setCell_other (p := ⟨p, 258, none⟩) (v := .slice ao' (out.length + 1) cap') hs hpa
    rw [bts_append, List.length_append]
    exact this
  · simp only [List.mem_cons] at hk
    rcases hk with rfl | hk
    · exact .inl (by simp [hb])
    · rcases hn k hk with h1 | h1
      · exact .inl (by simp [hb, h1])
      · exact .inr h1
theorem put_cy {oa : Option Addr} {oc : Nat} {w1 : World} {o : Obj} (h : IsEncAt w p F m out oa oc) (hf : Fr (blk oa) (w.alloc o) w1) : w1.cell? ⟨p, 258, none⟩ = some (.slice oa out.length oc) := by
  have := (h.head.fr (((Fr.refl (blk oa) w).alloc o).trans hf (Ext.refl _ _)) h.po).cx 0
  simpa using this
theorem put_fy {oa : Option Addr} {oc : Nat} {w1 : World} {o : Obj} (h : IsEncAt w p F m out oa oc) (hf : Fr (blk oa) (w.alloc o) w1) : w1.frozen? ⟨p, 258, none⟩ = false :=
  (h.head.fr (((Fr.refl (blk oa) w).alloc o).trans hf (Ext.refl _ _)) h.po).fz 258
end
end Go.Proofs.Ytodfeaipoagphaa
/- Package rangecoder: put. -/
namespace Go.Proofs.Ytodfeaipoagphaa
open Go.RowKit

section
variable {w : World} {p : Nat} {F : List Nat} {m : Md} {out : List Nat}

set_option maxHeartbeats 2000000 in
theorem put29_any (h : IsEnc w p F m out) (hm : m.Rdy) (c : Nat) (hc : c < 256) (b : Bool) {x : Int} (hx : x = if b then 1 else 0) (hl : out.length ≤ 1099511627776) :
    Calls Try.prog 46 #[.pointer (some ⟨p, 0, none⟩), .int .i64 c, .int .i64 x] w fun e w' => e = .returned (.tuple #[]) ∧ EncTo w p F (m.step c b) (out ++ m.outs c b) w' := by
  obtain ⟨i0, hi0, hz0, hz1, hz2⟩ := info_parts infoByte
  have HN := Lib.hid (step_nm hm hc b)
  have HOK := Lib.hid (hm.ok.nar hm.lt hc b)
  obtain ⟨M, hM⟩ : ∃ M, M = m.step c b := ⟨_, rfl⟩
  obtain ⟨O, hO⟩ : ∃ O, O = m.outs c b := ⟨_, rfl⟩
  have hOl : O.length ≤ 5 := by rw [hO]; exact outs_len _ _ _
  rw [← hM, ← hO] at HN ⊢
  clear hM hO
  have HNAR := Lib.hid (enc_narrow h hm c hc b hx)
  have HX := Lib.hid hx
  clear h hm hx
  go_enter Try.func46, Try.ntmps46
  go_wp2_with fail
  refine (HNAR.out).mono ?_
  rintro e w1 ⟨rfl, F1, h1, hf1, hx1⟩
  go_wp2_with fail
  refine (enc_shift h1 HOK.out HN.out).mono ?_
  intro e w2 ht
  have hst : ∃ k cv ov, e = .returned (.tuple #[cv, ov]) ∧ k ≤ 6 ∧ PutInv w p F M O out k cv ov w2 := by
    rcases ht with ⟨h0, he, h2⟩ | ⟨x, mc, r, h0, he, h3, h4, h5, h2⟩
    · exact ⟨0, _, _, he, by omega, .inl ⟨rfl, rfl, rfl, by rw [h0, List.append_nil]; exact EncTo.trans hf1 hx1 h2⟩⟩
    · exact ⟨r.length + 1, _, _, he, by rw [h0] at hOl; simp at hOl; omega, .inr ⟨x, mc, [], r, rfl, rfl, rfl, h3, h0, h4, h5, by rw [List.append_nil]; exact EncTo.trans hf1 hx1 h2⟩⟩
  obtain ⟨k, cv, ov, rfl, hk6, hpi⟩ := hst
  have HP := Lib.hid hpi
  clear hpi ht h1 hf1 hx1 HNAR
  go_wp2_with fail
  go_loopg [6, 7] k (fun k cv ov wr => PutInv w p F M O out k cv ov wr)
  case atStart => exact HP.out
  case round =>
    clear HP hk6
    rcases hrel with ⟨rfl, rfl, rfl, h2⟩ | ⟨x, mc, dn, rest, rfl, rfl, rfl, hx, hO, hn, hok, F2, h2, hf2, hx2⟩
    · have H2 := Lib.hid h2
      clear h2
      go_wp2_with fail
      go_end0
      exact ⟨rfl, H2.out⟩
    · obtain ⟨oa, oc, h3⟩ := h2
      have cx := h3.head.cx 0
      have fx := h3.head.fz 258
      simp only [Nat.add_zero, List.getElem?_cons_zero] at cx
      have hxi : (x : Int) < 256 := by omega
      have hdl : (out ++ dn).length ≤ 1099511627786 := by rw [hO] at hOl; simp at hOl ⊢; omega
      have HS := Lib.hid fun (o : Obj) => h3.out.alloc o
      have HNE := Lib.hid (fun j u hu => by
        rw [Addr.add_mid, Nat.zero_add, World.cell?_alloc_new]; simpa using hu : ∀ j u, [Value.int .u8 (x : Int)][j]? = some u → (wr.alloc (.cells #[.int .u8 (x : Int)] 5)).cell? ((⟨wr.heap.size, 0, none⟩ : Addr).add j) = some u)
      have H3 := Lib.hid h3
      have HN2 := Lib.hid hn
      have HOK2 := Lib.hid hok
      have HO := Lib.hid hO
      have HF2 := Lib.hid hf2
      have HX2 := Lib.hid hx2
      obtain ⟨D, hD⟩ : ∃ D, D = out ++ dn := ⟨_, rfl⟩
      rw [← hD] at cx hdl HS H3
      have HD := Lib.hid hD
      clear h3 hn hok hO hf2 hx2 hD
      go_wp2_with (at_builtin; refine wpList_append_seg rfl _ _ 33 rfl 5 i0 _ 1 1 Try.underlying33 hi0 hz0 hz1 hz2 rfl (by decide) oa D.length oc (bts D) rfl (HS.out _) ⟨wr.heap.size, 0, none⟩ 1 1 [_] rfl rfl HNE.out (by simp [Value.oneCell']) (by unfold maxLen; omega) (by omega) ?_; intro ao' cap' w5 hs5 hf5 hx5; have cy := put_cy H3.out hf5; have fy := put_fy H3.out hf5; have HS5 := Lib.hid hs5; have HF5 := Lib.hid hf5; have HX5 := Lib.hid hx5; clear hs5 hf5 hx5)
      have hp := put_app H3.out HS5.out HF5.out HX5.out
      have HP := Lib.hid hp
      obtain ⟨F6, h6, hf6, hx6⟩ := hp
      refine (enc_shift h6 HOK2.out HN2.out).mono ?_
      intro e w7 ht
      have hst : ∃ k' cv ov, e = .returned (.tuple #[cv, ov]) ∧ k' < rest.length + 1 ∧ PutInv w p F M O out k' cv ov w7 := by
        have hDx : D ++ [x] = out ++ (dn ++ [x]) := by rw [HD.out, List.append_assoc]
        rw [hDx] at h6 ht
        rcases ht with ⟨h0, he, h2⟩ | ⟨y, mc2, r, h0, he, h3, h4, h5, h2⟩
        · exact ⟨0, _, _, he, by omega, .inl ⟨rfl, rfl, rfl, by rw [HO.out, h0]; exact EncTo.trans HF2.out HX2.out (EncTo.trans hf6 hx6 h2)⟩⟩
        · exact ⟨r.length + 1, _, _, he, by rw [h0]; simp, .inr ⟨y, mc2, dn ++ [x], r, rfl, rfl, rfl, h3, by rw [HO.out, h0]; simp, h4, h5, EncTo.trans HF2.out HX2.out (EncTo.trans hf6 hx6 h2)⟩⟩
      obtain ⟨k', cv, ov, rfl, hk', hpi⟩ := hst
      have HP7 := Lib.hid hpi
      clear hpi ht h6 hf6 hx6 HP
      go_wp2_with fail
      go_roundg k'
      case measure => omega
      case rel => exact HP7.out
end
end Go.Proofs.Ytodfeaipoagphaa
/- Package rangecoder: finish. -/
namespace Go.Proofs.Ytodfeaipoagphaa
open Go.RowKit

section
variable {w : World} {p : Nat} {F : List Nat} {m : Md} {out : List Nat}

theorem tail4_get (n : Nat) (k : Nat) (hk : k < 4) : (tail4 n).take (k + 1) = (tail4 n).take k ++ [n / 2 ^ (24 - 8 * k) % 256] := by
  rcases (show k = 0 ∨ k = 1 ∨ k = 2 ∨ k = 3 by omega) with rfl | rfl | rfl | rfl <;> simp [tail4]

theorem EncTo.ofDrew {w' : World} (h : EncTo w.drew p F m out w') : EncTo w p F m out w' := by
  obtain ⟨F', h1, h2, h3⟩ := h
  exact ⟨F', h1, ((Fr.refl F w).drew).trans h2 (Ext.refl _ _), h3⟩

theorem fin_ly {oa : Option Addr} {oc : Nat} {w1 : World} {o : Obj} (h : IsEncAt w p F m out oa oc) (hf : Fr (blk oa) (w.alloc o) w1) : w1.cell? ⟨p, 256, none⟩ = some (.int .u32 (m.lo : Int)) :=
  (h.head.fr (((Fr.refl (blk oa) w).alloc o).trans hf (Ext.refl _ _)) h.po).clo

set_option maxRecDepth 100000 in
set_option maxHeartbeats 4000000 in
theorem finish_any (h : IsEnc w p F m out) (hm : m.lo < 4294967296) (hl : out.length ≤ 1099511627776) :
    Calls Try.prog 47 #[.pointer (some ⟨p, 0, none⟩)] w fun e w' => e = .returned (.tuple #[]) ∧ EncTo w p F m (out ++ tail4 m.lo) w' := by
  obtain ⟨i0, hi0, hz0, hz1, hz2⟩ := info_parts infoByte
  have H := Lib.hid h
  clear h
  go_enter Try.func47, Try.ntmps47
  go_wp2_with fail
  go_loopw [3] (fun i wr => ∃ k : Nat, k ≤ 4 ∧ i = .int .i64 k ∧ EncTo w p F m (out ++ (tail4 m.lo).take k) wr) (fun i _ => 4 - (intOf i).toNat)
  case atStart => exact ⟨0, by omega, rfl, by rw [List.take_zero, List.append_nil]; exact H.out.to⟩
  case round =>
    obtain ⟨k, hk, rfl, F2, h2, hf2, hx2⟩ := hrel
    by_cases hk4 : k < 4
    · obtain ⟨oa, oc, h3⟩ := h2
      obtain ⟨D, hD⟩ : ∃ D, D = out ++ (tail4 m.lo).take k := ⟨_, rfl⟩
      rw [← hD] at h3
      have hdl : D.length ≤ 1099511627786 := by rw [hD]; simp [tail4]; omega
      have cx := h3.head.cx 0
      have cl := h3.head.clo
      have fx := h3.head.fz 258
      simp only [Nat.add_zero, List.getElem?_cons_zero] at cx
      obtain ⟨y, hy⟩ : ∃ y, y = m.lo / 2 ^ (24 - 8 * k) % 256 := ⟨_, rfl⟩
      have HTK := Lib.hid (by rw [hD, tail4_get _ _ hk4, ← hy, ← List.append_assoc] : out ++ (tail4 m.lo).take (k + 1) = D ++ [y])
      have HCA := Lib.hid fun (o : Obj) => (by
        have h4 := h3.head.fr ((Fr.refl [] wr).drew.alloc o) (by simp)
        have c4 := h4.cx 0
        simp only [Nat.add_zero, List.getElem?_cons_zero] at c4
        exact ⟨c4, h4.clo⟩ : (wr.drew.alloc o).cell? ⟨p, 258, none⟩ = some (.slice oa D.length oc) ∧ (wr.drew.alloc o).cell? ⟨p, 256, none⟩ = some (.int .u32 (m.lo : Int)))
      have HS := Lib.hid fun (o : Obj) => h3.out.drew.alloc o
      have hd3 : IsEncAt wr.drew p F2 m D oa oc := ⟨h3.blocks, h3.po, h3.head, h3.out.drew⟩
      have H3 := Lib.hid hd3
      have HF2 := Lib.hid hf2
      have HX2 := Lib.hid hx2
      have HV := Lib.hid (by
        rw [show (24 - 8 * (k : Int)).toNat = 24 - 8 * k by omega, show ((2 : Int) ^ (24 - 8 * k)) = ((2 ^ (24 - 8 * k) : Nat) : Int) by rw [Int.natCast_pow]; rfl, ← Int.natCast_ediv, IntKind.wrap_u8, hy]
        omega : IntKind.u8.wrap ((m.lo : Int) / 2 ^ (24 - 8 * (k : Int)).toNat) = (y : Int))
      have HM := Lib.hid hm
      have HNE := Lib.hid (fun (v : Value) j u hu => by
        rw [Addr.add_mid, Nat.zero_add, World.cell?_alloc_new]; simpa using hu : ∀ v j u, [v][j]? = some u → (wr.drew.alloc (.cells #[v] 5)).cell? ((⟨wr.drew.heap.size, 0, none⟩ : Addr).add j) = some u)
      clear h3 hd3 hf2 hx2 hD hy H
      have w1 : IntKind.i64.wrap (8 * (k : Int)) = 8 * (k : Int) := IntWalk.i64_in _ (by omega)
      have w2 : IntKind.i64.wrap (24 - 8 * (k : Int)) = 24 - 8 * (k : Int) := IntWalk.i64_in _ (by omega)
      have ca : ∀ o : Obj, (wr.alloc o).cell? ⟨p, 258, none⟩ = some (.slice oa D.length oc) := fun o => (HCA.out o).1
      have cb : ∀ o : Obj, (wr.alloc o).cell? ⟨p, 256, none⟩ = some (.int .u32 (m.lo : Int)) := fun o => (HCA.out o).2
      go_wp2_with fail
      go_region_law (refine step_append_seg rfl _ _ 33 rfl 5 i0 _ 1 1 Try.underlying33 hi0 hz0 hz1 hz2 rfl (by decide) oa D.length oc (bts D) rfl (HS.out _) ⟨wr.drew.heap.size, 0, none⟩ 1 1 [_] rfl rfl (HNE.out _) (by simp [Value.oneCell']) (by unfold maxLen; omega) (by omega) ?_; intro ao' cap' w5 hs5 hf5 hx5; have cy := put_cy H3.out hf5; have fy := put_fy H3.out hf5; have ly := fin_ly H3.out hf5; have HS5 := Lib.hid hs5; have HF5 := Lib.hid hf5; have HX5 := Lib.hid hx5; clear hs5 hf5 hx5)
      all_goals
        rw [HV.out] at HS5
        go_wp2
        go_roundw
        case rel => exact ⟨k + 1, by omega, by go_num, by rw [HTK.out]; exact EncTo.trans HF2.out HX2.out (put_app H3.out HS5.out HF5.out HX5.out).ofDrew⟩
        case measure => simp [intOf]; omega
    · have hk5 : k = 4 := by omega
      have H2 := Lib.hid (by rw [hk5] at h2; exact EncTo.trans hf2 hx2 (IsEnc.to h2) : EncTo w p F m (out ++ (tail4 m.lo).take 4) wr)
      clear h2 hf2 hx2
      go_wp2_with fail
      go_end0
      exact ⟨rfl, H2.out⟩
end
end Go.Proofs.Ytodfeaipoagphaa
/- Package rangecoder: the function value of Encode, and walk over it. -/
namespace Go.Proofs.Ytodfeaipoagphaa
open Go.RowKit

section
variable {w : World} {p : Nat} {F : List Nat} {m : Md} {out : List Nat}

theorem and_one (a : Nat) (h : a < 9223372036854775808) : bits BinOp.and IntKind.i64 (a : Int) 1 = ((a % 2 : Nat) : Int) := by
  have := bits_and_i64 a 1 h (by omega)
  rw [Nat.and_one_is_mod] at this
  exact this

set_option maxHeartbeats 1000000 in
theorem encbit_any (h : IsEnc w p F m out) (hm : m.Rdy) (c : Nat) (hc : c < 256) (x d : Nat) (hx : x < 256) (hd : d ≤ 7) {cb eb : Nat} (h1 : w.cell? ⟨cb, 0, none⟩ = some (.int .u8 (x : Int))) (h2 : w.cell? ⟨eb, 0, none⟩ = some (.pointer (some ⟨p, 0, none⟩))) (hl : out.length ≤ 1099511627776) :
    Calls Try.prog 45 #[.int .i64 c, .int .i64 d, .pointer (some ⟨cb, 0, none⟩), .pointer (some ⟨eb, 0, none⟩)] w fun e w' => e = .returned (.int .i64 ((x / 2 ^ d % 2 : Nat) : Int)) ∧ EncTo w p F (m.step c (x / 2 ^ d % 2 == 1)) (out ++ m.outs c (x / 2 ^ d % 2 == 1)) w' := by
  have hxi : (x : Int) < 256 := by omega
  have hdi : (d : Int) ≤ 7 := by omega
  obtain ⟨y, hy⟩ : ∃ y, y = x / 2 ^ d := ⟨_, rfl⟩
  have hyl : y ≤ 255 := by rw [hy]; exact Nat.le_trans (Nat.div_le_self _ _) (by omega)
  have hyx : (x : Int) / 2 ^ (d : Int).toNat = (y : Int) := by
    rw [Int.toNat_natCast, show ((2 : Int) ^ d) = ((2 ^ d : Nat) : Int) by rw [Int.natCast_pow]; rfl, ← Int.natCast_ediv, hy]
  have hyx2 : (x : Int) / 2 ^ d = (y : Int) := by
    rw [show ((2 : Int) ^ d) = ((2 ^ d : Nat) : Int) by rw [Int.natCast_pow]; rfl, ← Int.natCast_ediv, hy]
  have hya : bits BinOp.and IntKind.i64 (y : Int) 1 = ((y % 2 : Nat) : Int) := and_one y (by omega)
  have HP := Lib.hid (put29_any h hm c hc (y % 2 == 1) (x := (y : Int) % 2) (by
    rcases Nat.mod_two_eq_zero_or_one y with e | e <;> simp [e] <;> omega) hl)
  rw [← hy]
  clear h hm hy
  go_enter Try.func45, Try.ntmps45
  go_wp2_with fail
  refine HP.out.mono ?_
  rintro e w1 ⟨rfl, hp⟩
  have H1 := Lib.hid hp
  clear hp
  go_wp2
  go_ret
  exact ⟨ret_int29 (by omega), H1.out⟩

/-- what is emitted for some bits, and the model behind them -/
def runs : Md → List (Nat × Bool) → List Nat × Md
  | m, [] => ([], m)
  | m, e :: r => (m.outs e.1 e.2 ++ (runs (m.step e.1 e.2) r).1, (runs (m.step e.1 e.2) r).2)
theorem emit_runs : ∀ (r : List (Nat × Bool)) (m : Md), emit m r = (runs m r).1 ++ tail4 (runs m r).2.lo
  | [], _ => rfl
  | e :: r, m => by simp only [emit, runs, emit_runs r, List.append_assoc]
theorem runs_append : ∀ (a b : List (Nat × Bool)) (m : Md), runs m (a ++ b) = ((runs m a).1 ++ (runs (runs m a).2 b).1, (runs (runs m a).2 b).2)
  | [], _, _ => by simp [runs]
  | e :: a, b, m => by simp only [List.cons_append, runs, runs_append a b, List.append_assoc]
theorem runs_len : ∀ (r : List (Nat × Bool)) (m : Md), (runs m r).1.length ≤ 5 * r.length
  | [], _ => by simp [runs]
  | e :: r, m => by
    have := outs_len m e.1 e.2
    have := runs_len r (m.step e.1 e.2)
    simp only [runs, List.length_append, List.length_cons]; omega
theorem runs_rdy : ∀ (r : List (Nat × Bool)) {m : Md}, m.Rdy → (∀ e ∈ r, e.1 < 256) → (runs m r).2.Rdy
  | [], _, h, _ => h
  | e :: r, m, h, hc => runs_rdy r (h.step (hc e (by simp)) e.2) fun x hx => hc x (by simp [hx])

/-- walk over a byte -/
def WalkTo (w : World) (p : Nat) (F : List Nat) (m : Md) (out : List Nat) (e : Ending) (w' : World) : Prop := ∃ v, e = .returned v ∧ EncTo w p F m out w'

theorem two_or (c b : Nat) (hc : c < 512) (hb : b < 2) : bits BinOp.or IntKind.i64 ((c : Int) * 2) (b : Int) = ((2 * c + b : Nat) : Int) := by
  have e1 : (c : Int) * 2 = ((c * 2 ^ 1 : Nat) : Int) := by omega
  rw [e1, bits_or_i64 _ _ (by omega) (by omega), or_low _ _ 1 (by omega)]
  omega

set_option maxHeartbeats 2000000 in
theorem walkenc_any (h : IsEnc w p F m out) (hm : m.Rdy) (x : Nat) (hx : x < 256) {cb eb : Nat} (h1 : w.cell? ⟨cb, 0, none⟩ = some (.int .u8 (x : Int))) (h2 : w.cell? ⟨eb, 0, none⟩ = some (.pointer (some ⟨p, 0, none⟩)))
    (hcb : cb ∉ F) (heb : eb ∉ F) (hl : out.length ≤ 1000000000) :
    Calls Try.prog 36 #[.func (.func 45) #[] #[.pointer (some ⟨cb, 0, none⟩), .pointer (some ⟨eb, 0, none⟩)]] w (WalkTo w p F (runs m (bitsOf x)).2 (out ++ (runs m (bitsOf x)).1)) := by
  have hcl := World.block_lt_of_cell? w _ h1
  have hel := World.block_lt_of_cell? w _ h2
  simp only at hcl hel
  have hOl : (out ++ (runs m (bitsOf x)).1).length ≤ 1000000040 := by
    have := runs_len (bitsOf x) m
    rw [show (bitsOf x).length = 8 from bitsFrom_length x 8 1] at this
    rw [List.length_append]; omega
  obtain ⟨O, hO⟩ : ∃ O, O = out ++ (runs m (bitsOf x)).1 := ⟨_, rfl⟩
  obtain ⟨M, hM⟩ : ∃ M, M = (runs m (bitsOf x)).2 := ⟨_, rfl⟩
  have HS := Lib.hid (⟨8, 1, m, out, by omega, rfl, rfl, by omega, hm, h.to, hO.symm, hM.symm⟩ :
    ∃ (d c : Nat) (mc : Md) (oc : List Nat), d ≤ 8 ∧ Value.int .i64 1 = .int .i64 c ∧ Value.int .i64 7 = .int .i64 ((d : Int) - 1) ∧ (c + 1) * 2 ^ d ≤ 512 ∧ mc.Rdy ∧ EncTo w p F mc oc w ∧ oc ++ (runs mc (bitsFrom x c d)).1 = O ∧ (runs mc (bitsFrom x c d)).2 = M)
  rw [← hO, ← hM]
  rw [← hO] at hOl
  have H1 := Lib.hid h1
  have H2 := Lib.hid h2
  have HCB := Lib.hid hcb
  have HEB := Lib.hid heb
  clear h hm h1 h2 hO hM hcb heb
  go_enter Try.func36, Try.ntmps36
  go_wp2_with fail
  go_loopw [3, 4] (fun cv pv wr => ∃ (d c : Nat) (mc : Md) (oc : List Nat), d ≤ 8 ∧ cv = .int .i64 c ∧ pv = .int .i64 ((d : Int) - 1) ∧ (c + 1) * 2 ^ d ≤ 512 ∧ mc.Rdy ∧ EncTo w p F mc oc wr ∧ oc ++ (runs mc (bitsFrom x c d)).1 = O ∧ (runs mc (bitsFrom x c d)).2 = M) (fun _ pv _ => (intOf pv + 1).toNat)
  case atStart => exact HS.out
  case round =>
    clear HS
    obtain ⟨d, c, mc, oc, hd, rfl, rfl, hcd, hm, ⟨F2, h3, hf2, hx2⟩, hO, hM⟩ := hrel
    have g1 : wr.cell? ⟨cb, 0, none⟩ = some (.int .u8 (x : Int)) := (World.cell?_of_block (a := ⟨cb, 0, none⟩) (hf2.block cb hcl HCB.out)).trans H1.out
    have g2 : wr.cell? ⟨eb, 0, none⟩ = some (.pointer (some ⟨p, 0, none⟩)) := (World.cell?_of_block (a := ⟨eb, 0, none⟩) (hf2.block eb hel HEB.out)).trans H2.out
    have hol : oc.length ≤ 1099511627776 := by
      have := congrArg List.length hO
      rw [List.length_append] at this; omega
    cases d with
    | zero =>
      have hO2 : oc = O := by simpa [bitsFrom, runs] using hO
      have hM2 : mc = M := by simpa [bitsFrom, runs] using hM
      subst hO2; subst hM2
      have HE := Lib.hid (EncTo.trans hf2 hx2 h3.to)
      have hcl2 : c < 512 := by simp at hcd; omega
      clear h3 hf2 hx2 hO hM hcd
      go_wp2_with fail
      go_ret
      exact ⟨_, rfl, HE.out⟩
    | succ d =>
      have hc256 : c < 256 := by
        have hp : 0 < 2 ^ d := Nat.pos_of_ne_zero (by simp)
        rw [Nat.pow_succ] at hcd
        have : (c + 1) * 2 ≤ (c + 1) * (2 ^ d * 2) := Nat.mul_le_mul_left _ (by omega)
        omega
      obtain ⟨b, hb⟩ : ∃ b, b = x / 2 ^ d % 2 := ⟨_, rfl⟩
      have hb2 : b < 2 := by omega
      have hcd2 : (2 * c + b + 1) * 2 ^ d ≤ 512 := by
        rw [Nat.pow_succ] at hcd
        have : (2 * c + b + 1) * 2 ^ d ≤ ((c + 1) * 2) * 2 ^ d := Nat.mul_le_mul_right _ (by omega)
        have e2 : (c + 1) * 2 * 2 ^ d = (c + 1) * (2 ^ d * 2) := by rw [Nat.mul_assoc, Nat.mul_comm 2 (2 ^ d)]
        omega
      have hbits : bitsFrom x c (d + 1) = (c, b == 1) :: bitsFrom x (2 * c + b) d := by rw [bitsFrom, hb]
      rw [hbits] at hO hM
      simp only [runs] at hO hM
      rw [← List.append_assoc] at hO
      have hcall := encbit_any h3 hm c hc256 x d hx (by omega) g1 g2 hol
      rw [← hb] at hcall
      have HCALL := Lib.hid hcall
      have HM := Lib.hid (hm.step hc256 (b == 1))
      have HOO := Lib.hid hO
      have HMM := Lib.hid hM
      have HF2 := Lib.hid hf2
      have HX2 := Lib.hid hx2
      have HCD := Lib.hid hcd2
      have ho := two_or c b (by omega) hb2
      have hdd : ((d + 1 : Nat) : Int) - 1 = (d : Int) := by omega
      have hd0 : (0 : Int) ≤ (d : Int) := by omega
      clear hO hM hbits hb hcall h3 hf2 hx2 hcd hcd2 hm g1 g2 hol
      rw [hdd]
      clear hdd
      go_wp2_with fail
      refine HCALL.out.mono ?_
      rintro e w5 ⟨rfl, hp⟩
      have HP := Lib.hid hp
      clear hp
      go_wp2_with fail
      go_roundw
      case rel => exact ⟨d, 2 * c + b, _, _, by omega, by first | rfl | go_num, by first | rfl | go_num, HCD.out, HM.out, EncTo.trans HF2.out HX2.out HP.out, HOO.out, HMM.out⟩
      case measure => simp [intOf]
end
end Go.Proofs.Ytodfeaipoagphaa
/- Package rangecoder: newModel, appendLength, Encode. -/
namespace Go.Proofs.Ytodfeaipoagphaa
open Go.RowKit

/-- a model has been made by value -/
def ModelV (m : Md) : Value := .agg (mdV m).toArray

theorem mdV_one (m : Md) : ∀ v ∈ mdV m, v.oneCell' = true := by
  intro v hv
  simp only [mdV, chV, List.mem_append, List.mem_map, List.mem_cons, List.not_mem_nil, or_false] at hv
  rcases hv with ⟨x, _, rfl⟩ | rfl | rfl <;> rfl

/-- the model with nothing in it -/
def mdz : Md := { ch := List.replicate 256 0, lo := 0, hi := 0 }
theorem zeroModel (w : World) : (zeroValue 79).run Try.prog w = .ok (ModelV mdz) w := by kernel_rfl

theorem infoModel : (Try.prog.info? 79).map (·.size) = some 258 := by kernel_rfl

def mdk (k : Nat) : Md := { ch := List.replicate k 2048 ++ List.replicate (256 - k) 0, lo := 0, hi := 4294967295 }
theorem mdk_len {k : Nat} (hk : k ≤ 256) : (mdk k).ch.length = 256 := by
  simp only [mdk, List.length_append, List.length_replicate]; omega
theorem mdk_set {k : Nat} (hk : k < 256) : { mdk k with ch := (mdk k).ch.set k 2048 } = mdk (k + 1) := by
  simp only [mdk, Md.mk.injEq, and_true]
  rw [List.set_append_right _ _ (by rw [List.length_replicate]; omega), List.length_replicate, Nat.sub_self, show 256 - k = (256 - (k + 1)) + 1 by omega, List.replicate_succ, List.set_cons_zero, List.replicate_succ', List.append_assoc]
  rfl
theorem mdk_end : mdk 256 = md0 := by
  simp only [mdk, md0, Nat.sub_self, List.replicate_zero, List.append_nil]

theorem there_of_blk {w : World} {g : Nat} {c : Array Value} {T : TypeId} {n : Nat} (h : w.heap[g]? = some (.cells c T (0, 0))) (hn : n ≤ c.size) : w.there g 0 n := fun j hj => by
  rw [Nat.zero_add]
  refine ⟨?_, frozen_blk h j⟩
  rw [cell_blk h, Array.getElem?_eq_getElem (by omega)]; rfl
theorem setCells_all {w : World} {g : Nat} {c : Array Value} {T : TypeId} {vs : List Value} (h : w.heap[g]? = some (.cells c T (0, 0))) (hn : vs.length = c.size) : (w.setCells g 0 vs).heap[g]? = some (.cells vs.toArray T (0, 0)) := by
  rw [setCells_blk vs 0 w c h (by omega)]
  congr 3
  simp [hn]

theorem mdz_hi : (mdV mdz).set 257 (.int .u32 4294967295) = mdV (mdk 0) := by
  have h : (mdV mdz) = chV (List.replicate 256 0) ++ [.int .u32 0, .int .u32 0] := rfl
  rw [h, List.set_append_right _ _ (by rw [chV_length, List.length_replicate]; omega), chV_length, List.length_replicate]
  rfl

/-- the state of newModel: the result's block b, the model's block b + 1 -/
def NewM (w : World) (Z : Array Value) (m : Md) (wr : World) : Prop := MdAt wr (w.heap.size + 1) 79 m [] ∧ wr.heap[w.heap.size]? = some (.cells Z 79 (0, 0)) ∧ Fr [] w wr

theorem newm_start {w : World} {Z : Array Value} (hZ : Z = (mdV mdz).toArray) :
    NewM w Z (mdk 0) (((w.alloc (.cells Z 79)).alloc (.cells Z 79)).setCells (w.heap.size + 1) 0 (Z.toList.set 257 (.int .u32 4294967295))) := by
  have h1 := alloc_new (w.alloc (.cells Z 79)) (.cells Z 79)
  rw [World.size_alloc] at h1
  have h0 := alloc_old (o' := .cells Z 79) (alloc_new w (.cells Z 79))
  refine ⟨⟨?_, mdk_len (by omega)⟩, ?_, ((((Fr.refl [] w).alloc _).alloc _).setCells (.inr (by omega)) _ _)⟩
  · have e : Z.toList.set 257 (.int .u32 4294967295) = mdV (mdk 0) := by rw [hZ]; exact mdz_hi
    rw [setCells_all h1 (by simp), List.append_nil, e]
  · rw [heap_setCells_ne _ _ _ _ _ (by omega)]; exact h0

set_option maxHeartbeats 1000000 in
theorem newmodel_any (w : World) : Calls Try.prog 34 #[] w fun e w' => e = .returned (ModelV md0) ∧ Fr [] w w' := by
  have hz := zeroModel
  unfold ModelV at hz
  obtain ⟨Z, hZ⟩ : ∃ Z, Z = (mdV mdz).toArray := ⟨_, rfl⟩
  rw [← hZ] at hz
  have hsz : Z.size = 258 := by
    rw [hZ, List.size_toArray, mdV_length]
    show (List.replicate 256 0).length + 2 = 258
    rw [List.length_replicate]
  have HT1 := Lib.hid (there_of_blk (n := (Z.setIfInBounds 257 (.int .u32 4294967295)).size) (by
    have h1 := alloc_new (w.alloc (.cells Z 79)) (.cells Z 79)
    rw [World.size_alloc] at h1
    exact h1 : ((w.alloc (.cells Z 79)).alloc (.cells Z 79)).heap[w.heap.size + 1]? = some (.cells Z 79 (0, 0))) (by simp))
  have HI1 := Lib.hid (by rw [Array.size_setIfInBounds, hsz]; exact infoModel : (Try.prog.info? 79).map (·.size) = some (Z.setIfInBounds 257 (.int .u32 4294967295)).size)
  have HO1 := Lib.hid (by
    rw [hZ]
    refine Array.all_eq_true_iff_forall_mem.2 fun v hv => ?_
    rcases Array.mem_or_eq_of_mem_setIfInBounds hv with h | h
    · exact mdV_one mdz v (by simpa using h)
    · rw [h]; rfl : (Z.setIfInBounds 257 (.int .u32 4294967295)).all (·.oneCell') = true)
  have HZ := Lib.hid hZ
  have HN := Lib.hid (newm_start (w := w) hZ)
  have HSZ := Lib.hid hsz
  have hs8 : 258 ≤ Z.size := by omega
  clear hZ hsz
  go_enter Try.func34, Try.ntmps34
  go_wp2_with (refine wpList_store_mid rfl _ (Operand.tmp 1) (Operand.tmp 3) (by rfl) (w.heap.size + 1) 0 (Z.setIfInBounds 257 (.int .u32 4294967295)) (by rfl) (by rfl) HT1.out HI1.out HO1.out ?_)
  go_loopw [4] (fun i wr => ∃ k : Nat, k ≤ 256 ∧ i = .int .i64 k ∧ NewM w Z (mdk k) wr) (fun i _ => 256 - (intOf i).toNat)
  case atStart => exact ⟨0, by omega, rfl, HN.out⟩
  case round =>
    clear HN
    obtain ⟨k, hk, rfl, h1, h2, h3⟩ := hrel
    by_cases hk2 : k < 256
    · have cx := h1.c hk2
      have fx := h1.fz k
      have H1 := Lib.hid h1
      have H2 := Lib.hid h2
      have H3 := Lib.hid h3
      have hki : (k : Int) < 256 := by omega
      clear h1 h2 h3
      go_wp2_with fail
      go_roundw
      case rel =>
        refine ⟨k + 1, by omega, by go_num, ?_, ?_, H3.out.setCell (.inr (by simp)) _⟩
        · have := H1.out.setCh hk2 2048
          rw [mdk_set hk2] at this
          exact this
        · rw [setCell_ne (by simp)]; exact H2.out
      case measure => simp [intOf]; omega
    · obtain rfl : k = 256 := by omega
      rw [mdk_end] at h1
      have hblk := h1.1
      rw [List.append_nil] at hblk
      have HB := Lib.hid hblk
      have HT2 := Lib.hid (there_of_blk (n := (mdV md0).toArray.size) h2 (by rw [HSZ.out, List.size_toArray, mdV_length, md0_ok.len]; exact Nat.le_refl _))
      have HI2 := Lib.hid (by rw [List.size_toArray, mdV_length, md0_ok.len]; exact infoModel : (Try.prog.info? 79).map (·.size) = some (mdV md0).toArray.size)
      have HO2 := Lib.hid (all_oneCell_toArray (mdV_one md0))
      have HR := Lib.hid (setCells_all h2 (vs := (mdV md0).toArray.toList) (by rw [HSZ.out]; show (mdV md0).length = 258; rw [mdV_length, md0_ok.len]))
      have HF := Lib.hid (h3.setCells (b := w.heap.size) (.inr (Nat.le_refl _)) 0 (mdV md0).toArray.toList)
      clear h1 h2 h3 hblk
      obtain ⟨V, hV⟩ : ∃ V, V = mdV md0 := ⟨_, rfl⟩
      rw [← hV] at HB HT2 HI2 HO2 HR HF
      have HV := Lib.hid hV
      clear hV
      go_wp2_with (first
        | (refine wpList_store_mid rfl _ (Operand.tmp 0) (Operand.tmp 11) (by rfl) w.heap.size 0 V.toArray (by rfl) (by rfl) HT2.out HI2.out HO2.out ?_)
        | (refine wpList_load_row rfl _ (Operand.tmp 1) (by rfl) (w.heap.size + 1) (by rfl) _ V.toArray _ _ HB.out Try.underlying79 rfl HI2.out ?_))
      refine bodyPost_ret (v := .agg V.toArray) (results_cell_row rfl _ _ w.heap.size _ V.toArray _ _ (by rfl) HR.out Try.underlying79 rfl HI2.out) rfl ?_
      exact ⟨by rw [HV.out]; rfl, HF.out⟩

theorem or128b (x : Nat) : bits BinOp.or IntKind.u8 ((x : Int) % 256) 128 = ((x % 128 + 128 : Nat) : Int) := by
  have h : ∀ y : Fin 256, y.val ||| 128 = y.val % 128 + 128 := by decide +kernel
  rw [show (x : Int) % 256 = ((x % 256 : Nat) : Int) by omega, show (128 : Int) = ((128 : Nat) : Int) from rfl, bits_or_u8 _ _ (by omega) (by omega)]
  have := h ⟨x % 256, by omega⟩
  simp only at this
  rw [this]
  omega

/-- the loop of appendLength -/
def LenInv (w : World) (n : Nat) (sv xv : Value) (wr : World) : Prop :=
  ∃ (dn : List Nat) (x : Nat) (oa : Option Addr) (oc : Nat), sv = .slice oa dn.length oc ∧ xv = .int .i64 (x : Int) ∧ x ≤ n ∧ dn ++ digits x = digits n ∧ Seg wr 5 1 oa dn.length oc (bts dn) ∧ Fr [] w wr ∧ ∀ k ∈ blk oa, w.heap.size ≤ k
theorem LenInv.add {w wr w1 : World} {n x' : Nat} {dn : List Nat} {oa ao' : Option Addr} {cap' : Nat} {o : Obj} {b : Nat} (hx : x' ≤ n) (hd : dn ++ b :: digits x' = digits n)
    (hf : Fr [] w wr) (hn : ∀ k ∈ blk oa, w.heap.size ≤ k) (hs : Seg w1 5 1 ao' (dn.length + 1) cap' (bts dn ++ [.int .u8 (b : Int)])) (h1 : Fr (blk oa) (wr.alloc o) w1) (h2 : Ext (blk oa) (wr.alloc o) (blk ao')) :
    LenInv w n (.slice ao' (dn.length + 1) cap') (.int .i64 (x' : Int)) w1 := by
  have hsz := hf.size
  refine ⟨dn ++ [b], x', ao', cap', by simp, rfl, hx, by simpa using hd, by rw [bts_append, List.length_append]; exact hs, (hf.alloc o).trans h1 (fun k hk => .inr (hn k hk)), fun k hk => ?_⟩
  rcases h2 k hk with h | h
  · exact hn k h
  · simp at h; omega

/-- digits have been laid onto a new slice -/
def LenTo (w : World) (n : Nat) (e : Ending) (w' : World) : Prop :=
  ∃ oa oc, e = .returned (.slice oa (digits n).length oc) ∧ Seg w' 5 1 oa (digits n).length oc (bts (digits n)) ∧ Fr [] w w' ∧ ∀ k ∈ blk oa, w.heap.size ≤ k
theorem LenTo.of {w wr w1 : World} {n x : Nat} {dn : List Nat} {oa ao' : Option Addr} {cap' : Nat} {o : Obj} (hd : dn ++ [x] = digits n)
    (hf : Fr [] w wr) (hn : ∀ k ∈ blk oa, w.heap.size ≤ k) (hs : Seg w1 5 1 ao' (dn.length + 1) cap' (bts dn ++ [.int .u8 (x : Int)])) (h1 : Fr (blk oa) (wr.alloc o) w1) (h2 : Ext (blk oa) (wr.alloc o) (blk ao')) :
    LenTo w n (.returned (.slice ao' (dn.length + 1) cap')) w1 := by
  have hsz := hf.size
  refine ⟨ao', cap', by rw [← hd]; simp, by rw [← hd, bts_append, List.length_append]; exact hs, (hf.alloc o).trans h1 (fun k hk => .inr (hn k hk)), fun k hk => ?_⟩
  rcases h2 k hk with h | h
  · exact hn k h
  · simp at h; omega
theorem digits_len (n : Nat) (k : Nat) (h : n < 128 ^ (k + 1)) : (digits n).length ≤ k + 1 := by
  induction k generalizing n with
  | zero => rw [digits, dif_pos (by omega)]; simp
  | succ k ih =>
    rw [digits]
    split
    · simp
    · have := ih (n / 128) (by rw [Nat.pow_succ] at h; exact Nat.div_lt_of_lt_mul (by rw [Nat.mul_comm]; exact h))
      simp only [List.length_cons]; omega

set_option maxRecDepth 100000 in
set_option maxHeartbeats 1000000 in
theorem applen_any (w : World) (n : Nat) (hn : n ≤ 1099511627776) : Calls Try.prog 44 #[.slice none 0 0, .int .i64 n] w (LenTo w n) := by
  obtain ⟨i0, hi0, hz0, hz1, hz2⟩ := info_parts infoByte
  have hdl := digits_len n 8 (by omega)
  go_enter Try.func44, Try.ntmps44
  go_wp2_with fail
  go_loopw [0, 1] (fun sv xv wr => LenInv w n sv xv wr) (fun _ xv _ => (intOf xv).toNat)
  case atStart => exact ⟨[], n, none, 0, rfl, rfl, Nat.le_refl _, by simp, by simpa [bts] using Seg.nil _ _ _, Fr.refl _ _, by simp [blk]⟩
  case round =>
    obtain ⟨dn, x, oa, oc, rfl, rfl, hx, hd, hs, hf, hne⟩ := hrel
    have hdn : dn.length ≤ 9 := by have := congrArg List.length hd; rw [List.length_append] at this; omega
    have HD := Lib.hid hd
    have HF := Lib.hid hf
    have HNE := Lib.hid hne
    have HS := Lib.hid fun (o : Obj) => hs.alloc o
    have HN := Lib.hid (fun (v : Value) j u hu => by
      rw [Addr.add_mid, Nat.zero_add, World.cell?_alloc_new]; simpa using hu : ∀ v j u, [v][j]? = some u → (wr.alloc (.cells #[v] 5)).cell? ((⟨wr.heap.size, 0, none⟩ : Addr).add j) = some u)
    clear hd hs hf hne
    by_cases hx2 : 128 ≤ x
    · have ho := or128b x
      have HDG := Lib.hid (by rw [digits, dif_neg (by omega)] : digits x = (x % 128 + 128) :: digits (x / 128))
      go_wp2_with (at_builtin; refine wpList_append_seg rfl _ _ 33 rfl 5 i0 _ 1 1 Try.underlying33 hi0 hz0 hz1 hz2 rfl (by decide) oa dn.length oc (bts dn) rfl (HS.out _) ⟨wr.heap.size, 0, none⟩ 1 1 [_] rfl rfl (HN.out _) (by simp [Value.oneCell']) (by unfold maxLen; omega) (by omega) ?_; intro ao' cap' w5 hs5 hf5 hx5; have HS5 := Lib.hid hs5; have HF5 := Lib.hid hf5; have HX5 := Lib.hid hx5; clear hs5 hf5 hx5)
      go_roundw
      case rel =>
        have := LenInv.add (n := n) (x' := x / 128) (b := x % 128 + 128) (by omega) (by rw [← HDG.out]; exact HD.out) HF.out HNE.out (by have := HS5.out; rw [show (x : Int) % 128 + 128 = ((x % 128 + 128 : Nat) : Int) by omega] at this; exact this) HF5.out HX5.out
        rw [show ((x / 128 : Nat) : Int) = (x : Int) / 128 by omega] at this
        exact this
      case measure => simp [intOf]; omega
    · have ho : (x : Int) % 256 = (x : Int) := by omega
      have HDG := Lib.hid (by rw [digits, dif_pos (by omega)] : digits x = [x])
      go_wp2_with (at_builtin; refine wpList_append_seg rfl _ _ 33 rfl 5 i0 _ 1 1 Try.underlying33 hi0 hz0 hz1 hz2 rfl (by decide) oa dn.length oc (bts dn) rfl (HS.out _) ⟨wr.heap.size, 0, none⟩ 1 1 [_] rfl rfl (HN.out _) (by simp [Value.oneCell']) (by unfold maxLen; omega) (by omega) ?_; intro ao' cap' w5 hs5 hf5 hx5; have HS5 := Lib.hid hs5; have HF5 := Lib.hid hf5; have HX5 := Lib.hid hx5; clear hs5 hf5 hx5)
      go_ret
      exact LenTo.of (x := x) (by rw [← HDG.out]; exact HD.out) HF.out HNE.out HS5.out HF5.out HX5.out
end Go.Proofs.Ytodfeaipoagphaa
/- Package rangecoder: Encode. -/
namespace Go.Proofs.Ytodfeaipoagphaa
open Go.RowKit

/-- a slice of bytes has been made -/
def SliceTo (w : World) (l : List Nat) (e : Ending) (w' : World) : Prop :=
  ∃ oa oc, e = .returned (.slice oa l.length oc) ∧ Seg w' 5 1 oa l.length oc (bts l) ∧ Fr [] w w' ∧ ∀ k ∈ blk oa, w.heap.size ≤ k

theorem zeroEnc (w : World) : (zeroValue 99).run Try.prog w = .ok (.agg (mdV mdz ++ [Value.slice none 0 0]).toArray) w := by kernel_rfl

theorem fill_list : ∀ (l : List Value) (k : Nat) (Z : Array Value), k + l.length ≤ Z.size →
    (l.zipIdx k).foldl (fun (cs : Array Value) (x : Value × Nat) => cs.setIfInBounds x.2 x.1) Z = (Z.toList.take k ++ l ++ Z.toList.drop (k + l.length)).toArray
  | [], k, Z, _ => by simp
  | v :: l, k, Z, h => by
    simp only [List.length_cons] at h
    rw [List.zipIdx_cons, List.foldl_cons, fill_list l (k + 1) _ (by simp; omega)]
    congr 1
    simp only [Array.toList_setIfInBounds, List.length_cons]
    rw [List.take_set, List.drop_set]
    rw [if_pos (by omega)]
    apply List.ext_getElem?
    intro j
    simp only [List.append_assoc, List.getElem?_append, List.length_take, List.length_set, Array.length_toList, List.getElem?_take, List.getElem?_drop, List.getElem?_set, List.length_cons, List.cons_append, List.length_append]
    have e1 : min (k + 1) Z.size = k + 1 := by omega
    have e2 : min k Z.size = k := by omega
    rw [e1, e2]
    by_cases h1 : j < k
    · simp [h1, show j < k + 1 by omega, show k ≠ j by omega]
    · by_cases h2 : j = k
      · subst h2; simp [show j < Z.size by omega]
      · have h3 : ¬ j < k + 1 := by omega
        have h5 : j - k = (j - (k + 1)) + 1 := by omega
        simp only [h1, h3, if_false]
        rw [h5, List.getElem?_cons_succ]
        rw [List.getElem?_append]
        by_cases h4 : j - (k + 1) < l.length
        · simp [h4]
        · rw [if_neg h4, if_neg h4, List.getElem?_drop]
          congr 1; omega

/-- an aggregate laid over the first cells of another one -/
theorem fill_arr (V Z : Array Value) (n : Nat) (hn : V.size = n) (h : n ≤ Z.size) : Array.foldl (fun (cs : Array Value) (x : Value × Nat) => cs.setIfInBounds x.2 x.1) Z V.zipIdx 0 n = (V.toList ++ Z.toList.drop n).toArray := by
  subst hn
  have e : V.zipIdx.size = V.size := by simp
  rw [← e, ← Array.foldl_toList, Array.toList_zipIdx, fill_list _ 0 _ (by simpa using h)]
  simp

theorem Rd.frNew {w wX wr : World} {F : List Nat} {ao : Option Addr} {n : Nat} {xs : List Value} (h : Rd w 1 ao n xs) (h1 : Fr [] w wX) (h2 : Ext [] w F) (h3 : Fr F wX wr) : Rd wr 1 ao n xs :=
  h.fr (h1.trans h3 h2) (by simp)

/-- the encoder has been made: at block p; the variable that leads to it at block p + 1 -/
theorem enc_start {w2 : World} {oa : Option Addr} {oc : Nat} {dg : List Nat} {U : Array Value} (hU : U = (mdV md0 ++ [Value.slice none 0 0]).toArray) (hs : Seg w2 5 1 oa dg.length oc (bts dg)) (o : Obj) :
    IsEnc ((w2.alloc (.cells (U.setIfInBounds 258 (.slice oa dg.length oc)) 99)).alloc o) w2.heap.size (w2.heap.size :: blk oa) md0 dg := by
  have he : U.setIfInBounds 258 (.slice oa dg.length oc) = (mdV md0 ++ [Value.slice oa dg.length oc]).toArray := by
    rw [hU, List.setIfInBounds_toArray, List.set_append_right _ _ (by rw [mdV_length, md0_ok.len]; omega), mdV_length, md0_ok.len]
    rfl
  refine ⟨oa, oc, rfl, fun hm => by have := hs.lt _ hm; omega, ⟨?_, md0_ok.len⟩, (hs.alloc _).alloc _⟩
  rw [he]
  exact alloc_old (alloc_new w2 _)

/-- the loop of Encode -/
def EncInv (wX : World) (p : Nat) (F : List Nat) (l : List Nat) (k : Nat) (wr : World) : Prop :=
  EncTo wX p F (runs md0 ((l.take k).flatMap bitsOf)).2 (digits l.length ++ (runs md0 ((l.take k).flatMap bitsOf)).1) wr
theorem EncInv.rdy (l : List Nat) : (runs md0 (l.flatMap bitsOf)).2.Rdy := runs_rdy _ md0_rdy (flat_ctx l)
theorem runs_snoc (l : List Nat) (k : Nat) (hk : k < l.length) : runs md0 ((l.take (k + 1)).flatMap bitsOf) = ((runs md0 ((l.take k).flatMap bitsOf)).1 ++ (runs (runs md0 ((l.take k).flatMap bitsOf)).2 (bitsOf l[k])).1, (runs (runs md0 ((l.take k).flatMap bitsOf)).2 (bitsOf l[k])).2) := by
  rw [List.take_succ_eq_append_getElem hk, List.flatMap_append, runs_append]
  simp

theorem enc_done {w wX w' : World} {p : Nat} {F : List Nat} {m : Md} {out : List Nat} (h1 : Fr [] w wX) (h2 : Ext [] w F) (h : EncTo wX p F m out w') : ∃ oa oc, Seg w' 5 1 oa out.length oc (bts out) ∧ Fr [] w w' ∧ (∀ k ∈ blk oa, w.heap.size ≤ k) ∧ w'.cell? ⟨p, 258, none⟩ = some (.slice oa out.length oc) := by
  obtain ⟨F', ⟨oa, oc, h3⟩, h4, h5⟩ := h
  have c := h3.head.cx 0
  refine ⟨oa, oc, h3.out, h1.trans h4 h2, fun k hk => ?_, by simpa using c⟩
  rcases h5 k (by rw [h3.blocks]; simp [hk]) with h | h
  · rcases h2 k h with h | h
    · simp at h
    · exact h
  · have := h1.size; omega

set_option maxRecDepth 100000 in
set_option maxHeartbeats 2000000 in
theorem encode_any (w : World) (ao : Option Addr) (cap : Nat) (l : List Nat) (hrd : Rd w 1 ao l.length (bts l)) (hb : Bytes l) (hl : l.length ≤ 1000000) :
    Calls Try.prog 27 #[.slice ao l.length cap] w (SliceTo w (enc l)) := by
  have HRD := Lib.hid hrd
  have HB := Lib.hid hb
  have hz := zeroEnc
  obtain ⟨Z, hZ⟩ : ∃ Z, Z = (mdV mdz ++ [Value.slice none 0 0]).toArray := ⟨_, rfl⟩
  rw [← hZ] at hz
  have HZ := Lib.hid hZ
  obtain ⟨V, hV⟩ : ∃ V, V = (mdV md0).toArray := ⟨_, rfl⟩
  have HV := Lib.hid hV
  have hZs : Z.size = 259 := by
    rw [hZ, List.size_toArray, List.length_append, mdV_length]
    show (List.replicate 256 0).length + 2 + 1 = 259
    rw [List.length_replicate]
  have hVs : V.size = 258 := by rw [hV, List.size_toArray, mdV_length, md0_ok.len]
  have hfold : Array.foldl (fun (cs : Array Value) (x : Value × Nat) => cs.setIfInBounds x.2 x.1) Z V.zipIdx 0 258 = (mdV md0 ++ [Value.slice none 0 0]).toArray := by
    rw [fill_arr V Z 258 hVs (by omega), hZ, hV]
    congr 2
  obtain ⟨U, hU⟩ : ∃ U, U = (mdV md0 ++ [Value.slice none 0 0]).toArray := ⟨_, rfl⟩
  rw [← hU] at hfold
  have hUs : U.size = 259 := by rw [hU, List.size_toArray, List.length_append, mdV_length, md0_ok.len]; rfl
  have HU := Lib.hid hU
  have hmf : ∀ (fn : Fn) (first cp : Array Value) (w : World), (Instr.makeFunc fn first cp).run Try.prog w = .ok (.func fn first cp) w := fun _ _ _ _ => rfl
  have HN := Lib.hid newmodel_any
  unfold ModelV at HN
  rw [← hV] at HN
  clear hrd hb hZ hV hU
  by_cases hl0 : l.length = 0
  · have hz0 : ((l.length : Int) == 0) = true := beq_iff_eq.2 (by omega)
    have HL := Lib.hid hl0
    clear hl0 hmf
    go_enter Try.func27, Try.ntmps27
    go_wp2_with fail
    refine (HN.out _).mono ?_
    rintro e w1 ⟨rfl, hf1⟩
    go_wp2_with fail
    refine (applen_any _ l.length (by omega)).mono ?_
    rintro e w2 ⟨oa, oc, rfl, hs2, hf2, hn2⟩
    have HS2 := Lib.hid hs2
    have HF2 := Lib.hid (hf1.trans hf2 (by simp [Ext]))
    have HN2 := Lib.hid (fun k hk => Nat.le_trans hf1.size (hn2 k hk))
    clear hs2 hf1 hf2 hn2
    go_wp2_with fail
    go_ret
    obtain rfl : l = [] := List.eq_nil_of_length_eq_zero HL.out
    have he : enc [] = digits ([] : List Nat).length := by simp [enc]
    rw [he]
    exact ⟨oa, oc, rfl, (HS2.out.alloc _).alloc _, (HF2.out.alloc _).alloc _, HN2.out⟩
  · have hz0 : ((l.length : Int) == 0) = false := beq_eq_false_iff_ne.2 (by omega)
    have HL := Lib.hid hl0
    clear hl0
    go_enter Try.func27, Try.ntmps27
    go_wp2_with fail
    refine (HN.out _).mono ?_
    rintro e w1 ⟨rfl, hf1⟩
    go_wp2_with fail
    refine (applen_any _ l.length (by omega)).mono ?_
    rintro e w2 ⟨oa, oc, rfl, hs2, hf2, hn2⟩
    have HS2 := Lib.hid hs2
    have HF2 := Lib.hid (hf1.trans hf2 (by simp [Ext]))
    have HN2 := Lib.hid (fun k hk => Nat.le_trans hf1.size (hn2 k hk))
    have HE := Lib.hid fun (o : Obj) => enc_start HU.out hs2 o
    have HEB := Lib.hid (fun (o1 o2 : Obj) => (by have := alloc_new (w2.alloc o1) o2; rwa [World.size_alloc] at this : ((w2.alloc o1).alloc o2).heap[w2.heap.size + 1]? = some o2))
    have HX := Lib.hid (fun k hk => by
      simp only [List.mem_cons] at hk
      rcases hk with rfl | hk
      · right; exact (hf1.trans hf2 (by simp [Ext])).size
      · right; exact Nat.le_trans hf1.size (hn2 k hk) : Ext [] w (w2.heap.size :: blk oa))
    have HP1 := Lib.hid (fun hm => by
      simp only [List.mem_cons] at hm
      rcases hm with h | h
      · omega
      · have := hs2.lt _ h; omega : w2.heap.size + 1 ∉ w2.heap.size :: blk oa)
    clear hs2 hf1 hf2 hn2
    obtain ⟨p, hp⟩ : ∃ p, p = w2.heap.size := ⟨_, rfl⟩
    rw [← hp] at HE HEB HX HP1
    obtain ⟨F, hF⟩ : ∃ F, F = p :: blk oa := ⟨_, rfl⟩
    rw [← hF] at HE HX HP1
    clear hF
    go_wp2_with fail
    obtain ⟨wX, hwX⟩ : ∃ wX, wX = ((w2.alloc (.cells (U.setIfInBounds 258 (.slice oa (digits l.length).length oc)) 99)).alloc (.cells #[.pointer (some ⟨w2.heap.size, 0, none⟩)] 97)) := ⟨_, rfl⟩
    rw [← hwX]
    have HE1 := Lib.hid (hwX ▸ HE.out _ : IsEnc wX p F md0 (digits l.length))
    have HEB1 := Lib.hid (hwX ▸ HEB.out _ _ : wX.heap[p + 1]? = some (.cells #[.pointer (some ⟨w2.heap.size, 0, none⟩)] 97))
    have HFX := Lib.hid (hwX ▸ (HF2.out.alloc _).alloc _ : Fr [] w wX)
    rw [← hp] at HEB1 ⊢
    clear hwX hp HE HEB HS2 HF2 HN2 hfold hz hUs hZs hVs
    go_loopw [21] (fun i wr => ∃ k : Nat, k ≤ l.length ∧ i = .int .i64 k ∧ EncInv wX p F l k wr) (fun i _ => l.length - (intOf i).toNat)
    case atStart => exact ⟨0, Nat.zero_le _, rfl, by unfold EncInv; simp only [List.take_zero, List.flatMap_nil, runs, List.append_nil]; exact HE1.out.to⟩
    case round =>
      obtain ⟨k, hk, rfl, hinv⟩ := hrel
      unfold EncInv at hinv
      obtain ⟨F2, h2, hf2, hx2⟩ := hinv
      have hebF : p + 1 ∉ F2 := fun hm => by
        rcases hx2 _ hm with h | h
        · exact HP1.out h
        · have := lt_of_blk HEB1.out; omega
      have heb := hf2.blk HEB1.out HP1.out
      by_cases hkl : k < l.length
      · obtain ⟨g, off, rfl, _, hc⟩ := (HRD.out.frNew HFX.out HX.out hf2).at (by omega)
        have cx : wr.cell? ⟨g, off + k, none⟩ = some (.int .u8 ((l[k] : Nat) : Int)) := by rw [hc k (by omega), bts_get, List.getElem?_eq_getElem hkl]; rfl
        have hxb : l[k] < 256 := HB.out _ (List.getElem_mem hkl)
        obtain ⟨x, hx⟩ : ∃ x, x = l[k] := ⟨_, rfl⟩
        rw [← hx] at cx hxb
        have HRS := Lib.hid (runs_snoc l k hkl)
        rw [← hx] at HRS
        have H2 := Lib.hid h2
        have HF2 := Lib.hid hf2
        have HX2 := Lib.hid hx2
        have HHEB := Lib.hid heb
        have HEF := Lib.hid hebF
        have hki : (k : Int) < (l.length : Int) := by omega
        have hol : (digits l.length ++ (runs md0 ((l.take k).flatMap bitsOf)).1).length ≤ 1000000000 := by
          have h1 := runs_len ((l.take k).flatMap bitsOf) md0
          have h2 := digits_len l.length 8 (by omega)
          rw [flat_length, List.length_take] at h1
          rw [List.length_append]; omega
        have HOL := Lib.hid hol
        have HRY := Lib.hid (EncInv.rdy (l.take k))
        clear h2 hf2 hx2 heb hebF hc hx hol
        go_wp2_with fail
        have hcall := walkenc_any (cb := wr.heap.size) (eb := p + 1) (H2.out.fr ((Fr.refl [] wr).alloc (.cells #[.int .u8 (x : Int)] 5)) (by simp)) HRY.out x hxb (by rw [World.cell?_alloc_new]; rfl) (cell_blk (alloc_old HHEB.out) 0) (fun hm => by have := H2.out.lt _ hm; omega) HEF.out HOL.out
        have HCALL := Lib.hid hcall
        clear hcall
        refine HCALL.out.mono ?_
        rintro e w5 ⟨v, rfl, hp5⟩
        have HP5 := Lib.hid hp5
        clear hp5
        go_wp2_with fail
        go_roundw
        case rel =>
          refine ⟨k + 1, by omega, by go_num, ?_⟩
          unfold EncInv
          rw [HRS.out]
          simp only
          rw [← List.append_assoc]
          obtain ⟨F5, h5, hf5, hx5⟩ := HP5.out
          exact EncTo.trans HF2.out HX2.out ⟨F5, h5, ((Fr.refl F2 wr).alloc _).trans hf5 (Ext.refl _ _), fun k hk => by
            rcases hx5 k hk with h | h
            · exact .inl h
            · simp at h; exact .inr (by omega)⟩
        case measure => simp [intOf]; omega
      · have hke : l.take k = l := List.take_of_length_le (by omega)
        rw [hke] at h2
        have H2 := Lib.hid h2
        have HF2 := Lib.hid hf2
        have HX2 := Lib.hid hx2
        have c1 := cell_blk heb 0
        have HRY := Lib.hid (EncInv.rdy l)
        have hol : (digits l.length ++ (runs md0 (l.flatMap bitsOf)).1).length ≤ 1099511627776 := by
          have h1 := runs_len (l.flatMap bitsOf) md0
          have h2 := digits_len l.length 8 (by omega)
          rw [flat_length] at h1
          rw [List.length_append]; omega
        have hcall := finish_any H2.out (by have := HRY.out.1.hi; have := HRY.out.2; omega) hol
        have HCALL := Lib.hid hcall
        have HHEB := Lib.hid heb
        have HEF := Lib.hid hebF
        clear h2 hf2 hx2 heb hebF hke hol hcall
        go_wp2_with fail
        refine HCALL.out.mono ?_
        rintro e w5 ⟨rfl, hp5⟩
        have heb5 : w5.cell? ⟨p + 1, 0, none⟩ = some (.pointer (some ⟨p, 0, none⟩)) := by
          obtain ⟨F5, h5, hf5, hx5⟩ := hp5
          exact cell_blk (hf5.blk HHEB.out HEF.out) 0
        have henc : enc l = digits l.length ++ (runs md0 (l.flatMap bitsOf)).1 ++ tail4 (runs md0 (l.flatMap bitsOf)).2.lo := by
          unfold enc
          rw [if_neg (fun h => HL.out (by rw [h]; rfl)), emit_runs, List.append_assoc]
        obtain ⟨oa5, oc5, s5, f5, n5, c5⟩ := enc_done HFX.out HX.out (EncTo.trans HF2.out HX2.out hp5)
        rw [← henc] at s5 c5
        have HS5 := Lib.hid s5
        have HF5 := Lib.hid f5
        have HN5 := Lib.hid n5
        clear hp5 s5 f5 n5 henc HCALL
        go_wp2_with fail
        go_ret
        exact ⟨oa5, oc5, rfl, HS5.out, HF5.out, HN5.out⟩
end Go.Proofs.Ytodfeaipoagphaa
