/- A new memory as a thing beside local slices. -/
import Derived.Test.YtlfomhknfpmhbaaOwn9
namespace Go.Proofs.Ytlfomhknfpmhbaa
open Go.RowKit

section
variable {W w : World} {G : List Nat} {p : Nat} {s s' : MemS} {n : Int}

/-- the memory that New makes -/
theorem m_new (ao : Option Addr) (cap : Nat) (l : List Int) (hrd : Rd w 1 ao l.length (ints l)) (hl : l.length ≤ 1000000) :
    Calls Try.prog 32 #[.slice ao l.length cap] w fun e w' => e = .returned (.pointer (some ⟨w.heap.size + 1, 0, none⟩)) ∧ OwnG (memX (w.heap.size + 1) { cells := l, log := [], base := 0 } 0) w [] w' := by
  refine (new_any ao cap l hrd (by omega)).mono ?_
  rintro e w' ⟨h1, F, h2, h3, h4⟩
  exact ⟨h1, F, ⟨h2, ⟨by simp [MemS.ok], by simp, by simp, hl⟩⟩, h3, h4, by simp, by simp⟩

/-- the same, the world W being older -/
theorem m_new' (hW : Fr [] W w) (ao : Option Addr) (cap : Nat) (l : List Int) (hrd : Rd w 1 ao l.length (ints l)) (hl : l.length ≤ 1000000) {G : List Nat} (hG : ∀ k ∈ G, W.heap.size ≤ k ∧ k < w.heap.size) :
    Calls Try.prog 32 #[.slice ao l.length cap] w fun e w' => ∃ p, e = .returned (.pointer (some ⟨p, 0, none⟩)) ∧ OwnG (memX p { cells := l, log := [], base := 0 } 0) W G w' ∧ Kept G w w' := by
  refine (m_new ao cap l hrd hl).mono ?_
  rintro e w' ⟨h1, F, h2, h3, h4, -, -⟩
  refine ⟨_, h1, ⟨F, h2, hW.trans h3 (by simp [Ext]), fun k hk => ?_, fun k hk hg => ?_, fun k hk => ⟨(hG k hk).1, Nat.lt_of_lt_of_le (hG k hk).2 h3.size⟩⟩, fun k hk => h3.block k (hG k hk).2 (by simp)⟩
  · rcases h4 k hk with h | h
    · simp at h
    · exact .inr (Nat.le_trans hW.size h)
  · rcases h4 k hk with h | h
    · simp at h
    · have := (hG k hg).2; omega
theorem OwnG.drewN (h : OwnG (memX p s n) W G w) (k : Nat) : OwnG (memX p s n) W G (w.drewN k) := (h.fr (memX_frm p s n) ((Fr.refl _ _).drewN k)).1
theorem OwnG.allocN (h : OwnG (memX p s n) W G w) (o : Obj) : OwnG (memX p s n) W (w.heap.size :: G) (w.alloc o) :=
  h.own (memX_frm p s n) ((Fr.refl [] w).alloc o) (by simp) (fun k hk => by
    rcases List.mem_cons.1 hk with rfl | hk
    · exact ⟨.inr (Nat.le_refl _), by simp⟩
    · exact ⟨.inl hk, by have := (h.gnew k hk).2; simp; omega⟩)
end
end Go.Proofs.Ytlfomhknfpmhbaa
