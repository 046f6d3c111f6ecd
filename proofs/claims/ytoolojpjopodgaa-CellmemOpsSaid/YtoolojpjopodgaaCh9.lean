/- Chapter 9: Changed by what is seen of a memory beside local slices. -/
import Derived.Test.YtoolojpjopodgaaChanged
import Derived.Test.YtoolojpjopodgaaSame
import Derived.Test.YtoolojpjopodgaaAround
namespace Go.Proofs.Ytoolojpjopodgaa
open Go.RowKit

section
variable {W w : World} {G : List Nat} {p : Nat} {s s' : MemS} {n : Int}

set_option maxRecDepth 100000 in
theorem changed_no {F : List Nat} (h : IsMem w p F s) (m : Int) (hb : 0 ≤ s.base) (hm : s.base + s.log.length ≤ 1099511627776) (hc : (s.check m == 0) = false) :
    Calls Try.prog 22 #[.pointer (some ⟨p, 0, none⟩), .int .i64 m] w fun e w' => e = .returned (.tuple #[.slice none 0 0, .int .i64 (s.check m)]) ∧ ∃ n, w' = w.drewN n := by
  have hc2 : (s.check m != 0) = true := by rw [bne, hc]; rfl
  go_enter Try.func22, Try.ntmps22
  go_wp2_with (go_at_call 40; refine (check_any h _ hb (by omega)).mono ?_; rintro e w' ⟨rfl, n, rfl⟩)
  go_ret2
  exact ⟨rfl, _, rfl⟩

/-- the slice l came back, new; the memory is as it was -/
def ChRes (W w : World) (G : List Nat) (p : Nat) (s : MemS) (n : Int) (code : Int) (l : List Int) (e : Ending) (w' : World) : Prop :=
  ∃ ao cap, e = .returned (.tuple #[.slice ao l.length cap, .int .i64 code]) ∧ Seg w' 3 1 ao l.length cap (ints l) ∧ OwnG (memX p s n) W (blk ao ++ G) w' ∧ Kept G w w' ∧ ∀ k ∈ blk ao, w.heap.size ≤ k

theorem m_changed (h : OwnG (memX p s n) W G w) (m : Int) (hn : n ≤ 1000000) (h1 : s.base ≤ m) (h2 : m ≤ s.base + s.log.length) {l : List Int} (hl : s.chg m = l) :
    Calls Try.prog 22 #[.pointer (some ⟨p, 0, none⟩), .int .i64 m] w (ChRes W w G p s n 0 l) := by
  subst hl
  obtain ⟨F, hF⟩ := h.mem
  have hg := h.good
  obtain ⟨k, hk⟩ := Int.eq_ofNat_of_zero_le (show 0 ≤ m - s.base by omega)
  obtain rfl : m = s.base + k := by omega
  refine (changed_ok hF k (by omega) hg.ok hg.base (by have := hg.cap; omega)).mono ?_
  rintro e w' ⟨ao, cap, a, b, c, d⟩
  refine ⟨ao, cap, a, b, h.own (memX_frm p s n) c (by simp) (fun k hk => ?_), (h.fr (memX_frm p s n) c).2, d⟩
  rcases List.mem_append.1 hk with hk | hk
  · exact ⟨.inr (d k hk), b.lt k hk⟩
  · exact ⟨.inl hk, Nat.lt_of_lt_of_le (h.gnew k hk).2 c.size⟩

def MemS.chgC (s : MemS) (m : Int) : Int × List Int := (s.check m, if s.check m = 0 then s.chg m else [])

theorem m_changedC (h : OwnG (memX p s n) W G w) (m : Int) (hn : n ≤ 1000000) {code : Int} {l : List Int} (hl : s.chgC m = (code, l)) :
    Calls Try.prog 22 #[.pointer (some ⟨p, 0, none⟩), .int .i64 m] w (ChRes W w G p s n code l) := by
  unfold MemS.chgC at hl
  by_cases hc : s.check m = 0
  · rw [hc, if_pos rfl] at hl
    obtain ⟨h1, h2⟩ := MemS.check_in hc
    have e1 : code = 0 := by rw [Prod.mk.injEq] at hl; exact hl.1.symm
    subst e1
    exact m_changed h m hn h1 h2 (by rw [Prod.mk.injEq] at hl; exact hl.2)
  · rw [if_neg hc, Prod.mk.injEq] at hl
    obtain ⟨rfl, rfl⟩ := hl
    obtain ⟨F, hF⟩ := h.mem
    have hg := h.good
    refine (changed_no hF m hg.base (by have := hg.cap; omega) (by simpa using hc)).mono ?_
    rintro e w' ⟨a, k, rfl⟩
    have hf : Fr [] w (w.drewN k) := (Fr.refl _ _).drewN k
    exact ⟨none, 0, a, Seg.nil _ _ _, (h.fr (memX_frm p s n) hf).1, (h.fr (memX_frm p s n) hf).2, by simp [blk]⟩

/-- the memory that New makes -/
theorem m_new (ao : Option Addr) (cap : Nat) (l : List Int) (hrd : Rd w 1 ao l.length (ints l)) (hl : l.length ≤ 1000000) :
    Calls Try.prog 13 #[.slice ao l.length cap] w fun e w' => e = .returned (.pointer (some ⟨w.heap.size + 1, 0, none⟩)) ∧ OwnG (memX (w.heap.size + 1) { cells := l, log := [], base := 0 } 0) w [] w' := by
  refine (new_any ao cap l hrd (by omega)).mono ?_
  rintro e w' ⟨h1, F, h2, h3, h4⟩
  exact ⟨h1, F, ⟨h2, ⟨by simp [MemS.ok], by simp, by simp, hl⟩⟩, h3, h4, by simp, by simp⟩

/-- the same, the world W being older -/
theorem m_new' (hW : Fr [] W w) (ao : Option Addr) (cap : Nat) (l : List Int) (hrd : Rd w 1 ao l.length (ints l)) (hl : l.length ≤ 1000000) {G : List Nat} (hG : ∀ k ∈ G, W.heap.size ≤ k ∧ k < w.heap.size) :
    Calls Try.prog 13 #[.slice ao l.length cap] w fun e w' => ∃ p, e = .returned (.pointer (some ⟨p, 0, none⟩)) ∧ OwnG (memX p { cells := l, log := [], base := 0 } 0) W G w' ∧ Kept G w w' := by
  refine (m_new ao cap l hrd hl).mono ?_
  rintro e w' ⟨h1, F, h2, h3, h4, -, -⟩
  refine ⟨_, h1, ⟨F, h2, hW.trans h3 (by simp [Ext]), fun k hk => ?_, fun k hk hg => ?_, fun k hk => ⟨(hG k hk).1, Nat.lt_of_lt_of_le (hG k hk).2 h3.size⟩⟩, fun k hk => h3.block k (hG k hk).2 (by simp)⟩
  · rcases h4 k hk with h | h
    · simp at h
    · exact .inr (Nat.le_trans hW.size h)
  · rcases h4 k hk with h | h
    · simp at h
    · have := (hG k hg).2; omega
theorem OwnG.drewN (h : OwnG (memX p s n) W G w) (k : Nat) : OwnG (memX p s n) W G (w.drewN k) := (h.fr (memX_frm p s n) ((Fr.refl _ _).drewN k)).1
theorem OwnG.allocN (h : OwnG (memX p s n) W G w) (o : Obj) : OwnG (memX p s n) W (w.heap.size :: G) (w.alloc o) :=
  h.own (memX_frm p s n) ((Fr.refl [] w).alloc o) (by simp) (fun k hk => by
    rcases List.mem_cons.1 hk with rfl | hk
    · exact ⟨.inr (Nat.le_refl _), by simp⟩
    · exact ⟨.inl hk, by have := (h.gnew k hk).2; simp; omega⟩)
end
end Go.Proofs.Ytoolojpjopodgaa
