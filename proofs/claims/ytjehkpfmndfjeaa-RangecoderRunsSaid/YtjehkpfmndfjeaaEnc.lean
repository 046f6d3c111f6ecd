/- Package rangecoder: the encoder; put. -/
import Derived.Test.YtjehkpfmndfjeaaRcm
import Derived.Deep.LoopGhost
namespace Go.Proofs.Ytjehkpfmndfjeaa
open Go.RowKit

def bts (l : List Nat) : List Value := l.map fun x : Nat => Value.int .u8 (x : Int)
theorem bts_length (l : List Nat) : (bts l).length = l.length := by simp [bts]
theorem bts_append (l m : List Nat) : bts (l ++ m) = bts l ++ bts m := by simp [bts]
theorem bts_get (l : List Nat) (j : Nat) : (bts l)[j]? = l[j]?.map fun x : Nat => Value.int .u8 (x : Int) := by simp [bts]
theorem bts_one (l : List Nat) : ∀ u ∈ bts l, u.oneCell' = true := by
  intro u hu; simp only [bts, List.mem_map] at hu; obtain ⟨_, _, rfl⟩ := hu; rfl

/-! ### how the settled bytes come, one by one -/
inductive Nm : Md → List Nat → Md → Prop
  | done {m : Md} : ¬ m.same → Nm m [] m
  | more {m m' : Md} {o : List Nat} : m.same → Nm m.shf o m' → Nm m (m.lo / 16777216 :: o) m'

theorem norm_nm : ∀ (k : Nat) {m : Md}, m.Ok → 16777216 < (m.hi - m.lo + 1) * 256 ^ k → Nm m (norm k m).1 (norm k m).2
  | 0, m, h, hw => .done (norm_done 0 h hw)
  | k + 1, m, h, hw => by
    by_cases hs : m.same
    · have e : norm (k + 1) m = (m.lo / 16777216 :: (norm k m.shf).1, (norm k m.shf).2) := by rw [norm, if_pos hs]
      rw [e]
      obtain ⟨a, b, c, d⟩ := Md.shf_eq h hs
      have hl := h.le
      refine .more hs (norm_nm k (h.shf hs) ?_)
      have e2 : m.shf.hi - m.shf.lo + 1 = (m.hi - m.lo + 1) * 256 := by omega
      rw [e2, Nat.mul_assoc, ← Nat.pow_succ']
      exact hw
    · have e : norm (k + 1) m = ([], m) := by rw [norm, if_neg hs]
      rw [e]; exact .done hs
theorem step_nm {m : Md} (h : m.Rdy) {c : Nat} (hc : c < 256) (b : Bool) : Nm (m.nar c b) (m.outs c b) (m.step c b) := norm_nm 5 (h.ok.nar h.lt hc b) (by omega)
theorem Nm.no {m m' : Md} {o : List Nat} (h : Nm m o m') (hs : ¬ m.same) : o = [] ∧ m = m' := by
  cases h with
  | done _ => exact ⟨rfl, rfl⟩
  | more h1 _ => exact absurd h1 hs
theorem Nm.yes {m m' : Md} {o : List Nat} (h : Nm m o m') (hs : m.same) : ∃ o', o = m.lo / 16777216 :: o' ∧ Nm m.shf o' m' := by
  cases h with
  | done h1 => exact absurd hs h1
  | more _ h2 => exact ⟨_, rfl, h2⟩
theorem norm_len : ∀ (k : Nat) (m : Md), (norm k m).1.length ≤ k
  | 0, _ => by simp [norm]
  | k + 1, m => by
    unfold norm
    split
    · have := norm_len k m.shf; simp only [List.length_cons]; omega
    · simp
theorem outs_len (m : Md) (c : Nat) (b : Bool) : (m.outs c b).length ≤ 5 := norm_len 5 _

/-! ### the encoder in the heap -/
structure IsEncAt (w : World) (p : Nat) (F : List Nat) (m : Md) (out : List Nat) (oa : Option Addr) (oc : Nat) : Prop where
  blocks : F = p :: blk oa
  po : p ∉ blk oa
  head : MdAt w p 49 m [.slice oa out.length oc]
  out : Seg w 5 1 oa out.length oc (bts out)
def IsEnc (w : World) (p : Nat) (F : List Nat) (m : Md) (out : List Nat) : Prop := ∃ oa oc, IsEncAt w p F m out oa oc
/-- the encoder has m and out now; nothing but its own blocks has changed -/
def EncTo (w : World) (p : Nat) (F : List Nat) (m : Md) (out : List Nat) (w' : World) : Prop := ∃ F', IsEnc w' p F' m out ∧ Fr F w w' ∧ Ext F w F'

section
variable {w : World} {p : Nat} {F : List Nat} {m : Md} {out : List Nat}

theorem IsEncAt.lt {oa : Option Addr} {oc : Nat} (h : IsEncAt w p F m out oa oc) : ∀ k ∈ F, k < w.heap.size := by
  intro k hk
  rw [h.blocks] at hk
  simp only [List.mem_cons] at hk
  rcases hk with rfl | hk
  · exact h.head.lt
  · exact h.out.lt k hk
theorem IsEnc.lt (h : IsEnc w p F m out) : ∀ k ∈ F, k < w.heap.size := by obtain ⟨_, _, h⟩ := h; exact h.lt
theorem IsEnc.fr {w' : World} {S : List Nat} (h : IsEnc w p F m out) (hf : Fr S w w') (hS : ∀ k ∈ F, k ∉ S) : IsEnc w' p F m out := by
  obtain ⟨oa, oc, h⟩ := h
  have hb := h.blocks
  exact ⟨oa, oc, h.blocks, h.po, h.head.fr hf (hS p (by simp [hb])), h.out.fr hf fun k hk => hS k (by simp [hb, hk])⟩
theorem EncTo.trans {F' : List Nat} {w1 w2 : World} {m2 : Md} {out2 : List Nat} (h1 : Fr F w w1) (h2 : Ext F w F') (h : EncTo w1 p F' m2 out2 w2) : EncTo w p F m2 out2 w2 := by
  obtain ⟨F2, a, b, c⟩ := h
  exact ⟨F2, a, h1.trans b h2, h2.trans c h1.size⟩
theorem IsEnc.to (h : IsEnc w p F m out) : EncTo w p F m out w := ⟨F, h, Fr.refl _ _, Ext.refl _ _⟩
theorem IsEnc.toFr {w' : World} (h : IsEnc w p F m out) (hf : Fr [] w w') : EncTo w p F m out w' := ⟨F, h.fr hf (by simp), hf.mono (by simp), Ext.refl _ _⟩
theorem IsEnc.mdTo {oa : Option Addr} {oc : Nat} {m' : Md} {w' : World} (h : IsEncAt w p F m out oa oc) (ht : MdTo w p 49 m' [.slice oa out.length oc] w') : EncTo w p F m' out w' := by
  have hb := h.blocks
  exact ⟨F, ⟨oa, oc, h.blocks, h.po, ht.1, h.out.fr ht.2 fun k hk hm => by simp at hm; subst hm; exact h.po hk⟩, ht.2.mono (by simp [hb]), Ext.refl _ _⟩

theorem enc_narrow (h : IsEnc w p F m out) (hm : m.Rdy) (c : Nat) (hc : c < 256) (b : Bool) {x : Int} (hx : x = if b then 1 else 0) :
    Calls Try.prog 34 #[.pointer (some ⟨p, 0, none⟩), .int .i64 c, .int .i64 x] w fun e w' => e = .returned (.tuple #[]) ∧ EncTo w p F (m.nar c b) out w' := by
  obtain ⟨oa, oc, h⟩ := h
  exact (narrow_any h.head hm c hc b hx).mono fun e w' ⟨h1, h2⟩ => ⟨h1, IsEnc.mdTo h h2⟩
theorem enc_shift_no (h : IsEnc w p F m out) (hm : m.Ok) (hs : ¬ m.same) :
    Calls Try.prog 35 #[.pointer (some ⟨p, 0, none⟩)] w fun e w' => e = .returned (.tuple #[.int .u8 0, .bool false]) ∧ EncTo w p F m out w' := by
  have h' := h
  obtain ⟨oa, oc, h⟩ := h
  exact (shift_no h.head hm hs).mono fun e w' ⟨h1, h2⟩ => ⟨h1, h'.toFr h2⟩
theorem enc_shift_yes (h : IsEnc w p F m out) (hm : m.Ok) (hs : m.same) :
    Calls Try.prog 35 #[.pointer (some ⟨p, 0, none⟩)] w fun e w' => e = .returned (.tuple #[.int .u8 ((m.lo / 16777216 : Nat) : Int), .bool true]) ∧ EncTo w p F m.shf out w' := by
  obtain ⟨oa, oc, h⟩ := h
  exact (shift_yes h.head hm hs).mono fun e w' ⟨h1, h2⟩ => ⟨h1, IsEnc.mdTo h h2⟩

/-- the loop of put -/
def PutInv (w : World) (p : Nat) (F : List Nat) (M : Md) (O out : List Nat) (k : Nat) (cv ov : Value) (wr : World) : Prop :=
  (k = 0 ∧ cv = .int .u8 0 ∧ ov = .bool false ∧ EncTo w p F M (out ++ O) wr) ∨
  ∃ (x : Nat) (mc : Md) (dn rest : List Nat), k = rest.length + 1 ∧ cv = .int .u8 (x : Int) ∧ ov = .bool true ∧ x < 256 ∧ O = dn ++ x :: rest ∧ Nm mc rest M ∧ mc.Ok ∧ EncTo w p F mc (out ++ dn) wr

/-- shift as the loop of put meets it: what it returns, and the state behind it -/
def ShiftTo (w : World) (p : Nat) (F : List Nat) (M : Md) (rest out : List Nat) (e : Ending) (w' : World) : Prop :=
  (rest = [] ∧ e = .returned (.tuple #[.int .u8 0, .bool false]) ∧ EncTo w p F M out w') ∨
  ∃ (x : Nat) (mc : Md) (r : List Nat), rest = x :: r ∧ e = .returned (.tuple #[.int .u8 (x : Int), .bool true]) ∧ x < 256 ∧ Nm mc r M ∧ mc.Ok ∧ EncTo w p F mc out w'
theorem enc_shift (h : IsEnc w p F m out) (hm : m.Ok) {rest : List Nat} {M : Md} (hn : Nm m rest M) :
    Calls Try.prog 35 #[.pointer (some ⟨p, 0, none⟩)] w (ShiftTo w p F M rest out) := by
  by_cases hs : m.same
  · obtain ⟨o', rfl, hn'⟩ := hn.yes hs
    exact (enc_shift_yes h hm hs).mono fun e w' ⟨h1, h2⟩ => .inr ⟨_, _, _, rfl, h1, by have := hm.hi; have := hm.le; omega, hn', hm.shf hs, h2⟩
  · obtain ⟨rfl, rfl⟩ := hn.no hs
    exact (enc_shift_no h hm hs).mono fun e w' ⟨h1, h2⟩ => .inl ⟨rfl, h1, h2⟩

theorem infoByte : (Try.prog.info? 5).map (fun i => (i.zero, i.size, i.bytes)) = some (some (.int .u8 0), 1, 1) := by kernel_rfl

/-- a byte has been appended -/
theorem put_app {oa ao' : Option Addr} {oc cap' : Nat} {w1 : World} {x : Nat} {o : Obj} (h : IsEncAt w p F m out oa oc) (hs : Seg w1 5 1 ao' (out.length + 1) cap' (bts out ++ [.int .u8 (x : Int)])) (hf : Fr (blk oa) (w.alloc o) w1) (hx : Ext (blk oa) (w.alloc o) (blk ao')) :
    EncTo w p F m (out ++ [x]) (w1.setCell ⟨p, 258, none⟩ (.slice ao' (out.length + 1) cap')) := by
  have hb := h.blocks
  have hpl := h.head.lt
  have hfw : Fr (blk oa) w w1 := ((Fr.refl (blk oa) w).alloc o).trans hf (Ext.refl _ _)
  have hn : ∀ k ∈ blk ao', k ∈ blk oa ∨ w.heap.size ≤ k := fun k hk => by rcases hx k hk with h | h; exact .inl h; simp at h; exact .inr (by omega)
  have hpa : p ∉ blk ao' := fun hm => by rcases hn p hm with h1 | h1; exact h.po h1; omega
  refine ⟨p :: blk ao', ⟨ao', cap', rfl, hpa, ?_, ?_⟩, (hfw.mono (by intro k hk; simp [hb, hk])).setCell (.inl (by simp [hb])) _, fun k hk => ?_⟩
  · have := (h.head.fr hfw h.po).setX 0 (.slice ao' (out.length + 1) cap')
    simpa using this
  · have := Seg.setCell_other (p := ⟨p, 258, none⟩) (v := .slice ao' (out.length + 1) cap') hs hpa
    rw [bts_append, List.length_append]
    exact this
  · simp only [List.mem_cons] at hk
    rcases hk with rfl | hk
    · exact .inl (by simp [hb])
    · rcases hn k hk with h1 | h1
      · exact .inl (by simp [hb, h1])
      · exact .inr h1
theorem put_cy {oa : Option Addr} {oc : Nat} {w1 : World} {o : Obj} (h : IsEncAt w p F m out oa oc) (hf : Fr (blk oa) (w.alloc o) w1) : w1.cell? ⟨p, 258, none⟩ = some (.slice oa out.length oc) := by
  have := (h.head.fr (((Fr.refl (blk oa) w).alloc o).trans hf (Ext.refl _ _)) h.po).cx 0
  simpa using this
theorem put_fy {oa : Option Addr} {oc : Nat} {w1 : World} {o : Obj} (h : IsEncAt w p F m out oa oc) (hf : Fr (blk oa) (w.alloc o) w1) : w1.frozen? ⟨p, 258, none⟩ = false :=
  (h.head.fr (((Fr.refl (blk oa) w).alloc o).trans hf (Ext.refl _ _)) h.po).fz 258
end
end Go.Proofs.Ytjehkpfmndfjeaa
