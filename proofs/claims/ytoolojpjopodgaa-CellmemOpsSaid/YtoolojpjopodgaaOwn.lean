/- A thing made of blocks F that may change, beside blocks G (of local slices) that it leaves alone. -/
import Derived.Test.YtoolojpjopodgaaBase
import Derived.Test.YtoolojpjopodgaaProg
namespace Go.Proofs.Ytoolojpjopodgaa
open Go.RowKit

def Kept (G : List Nat) (w w' : World) : Prop := ∀ k ∈ G, w'.heap[k]? = w.heap[k]?
theorem Kept.refl (G : List Nat) (w : World) : Kept G w w := fun _ _ => rfl
theorem Kept.trans {G : List Nat} {a b c : World} (h : Kept G a b) (h2 : Kept G b c) : Kept G a c := fun k hk => (h2 k hk).trans (h k hk)
theorem Kept.sub {G G' : List Nat} {a b : World} (h : Kept G a b) (hs : ∀ k ∈ G', k ∈ G) : Kept G' a b := fun k hk => h k (hs k hk)

/-- X speaks of the blocks F alone -/
structure Frm (X : World → List Nat → Prop) : Prop where
  lt : ∀ {w F}, X w F → ∀ k ∈ F, k < w.heap.size
  fr : ∀ {w w' F S}, X w F → Fr S w w' → (∀ k ∈ F, k ∉ S) → X w' F

/-- X holds of w with blocks F made since W; the blocks G are of now and made since W too, and none of them is in F -/
def OwnG (X : World → List Nat → Prop) (W : World) (G : List Nat) (w : World) : Prop :=
  ∃ F, X w F ∧ Fr [] W w ∧ Ext [] W F ∧ (∀ k ∈ F, k ∉ G) ∧ ∀ k ∈ G, W.heap.size ≤ k ∧ k < w.heap.size

variable {X Y : World → List Nat → Prop} {W w : World} {G : List Nat}

theorem OwnG.frame (h : OwnG X W G w) : Fr [] W w := by obtain ⟨F, a, b, c⟩ := h; exact b
theorem OwnG.gnew (h : OwnG X W G w) : ∀ k ∈ G, W.heap.size ≤ k ∧ k < w.heap.size := by obtain ⟨F, a, b, c, d, e⟩ := h; exact e

theorem OwnG.call {f : FuncId} {args : Array Value} {v : Ending} (h : OwnG X W G w)
    (hc : ∀ F, X w F → Calls Try.prog f args w fun e w' => e = v ∧ ∃ F', Y w' F' ∧ Fr F w w' ∧ Ext F w F') :
    Calls Try.prog f args w fun e w' => e = v ∧ OwnG Y W G w' ∧ Kept G w w' := by
  obtain ⟨F, a, b, c, d, e⟩ := h
  refine (hc F a).mono ?_
  rintro x w' ⟨h1, F', hY, h5, h6⟩
  refine ⟨h1, ⟨F', hY, b.trans h5 c, c.trans h6 b.size, fun k hk hg => ?_, fun k hk => ⟨(e k hk).1, Nat.lt_of_lt_of_le (e k hk).2 h5.size⟩⟩, fun k hk => h5.block k (e k hk).2 (fun hf => d k hf hk)⟩
  rcases h6 k hk with h | h
  · exact d k h hg
  · have := (e k hg).2; omega

/-- the program itself changes blocks of G, or makes new ones -/
theorem OwnG.own (hX : Frm X) {S G' : List Nat} {w' : World} (h : OwnG X W G w) (hf : Fr S w w') (hS : ∀ k ∈ S, k ∈ G) (hG : ∀ k ∈ G', (k ∈ G ∨ w.heap.size ≤ k) ∧ k < w'.heap.size) : OwnG X W G' w' := by
  obtain ⟨F, a, b, c, d, e⟩ := h
  refine ⟨F, hX.fr a hf (fun k hk hs => d k hk (hS k hs)), b.trans hf (fun k hk => .inr (e k (hS k hk)).1), c, fun k hk hg => ?_, fun k hk => ⟨?_, (hG k hk).2⟩⟩
  · rcases (hG k hg).1 with h | h
    · exact d k hk h
    · have := hX.lt a k hk; omega
  · rcases (hG k hk).1 with h | h
    · exact (e k h).1
    · exact Nat.le_trans b.size h

theorem OwnG.fr (hX : Frm X) {w' : World} (h : OwnG X W G w) (hf : Fr [] w w') : OwnG X W G w' ∧ Kept G w w' :=
  ⟨h.own hX hf (by simp) (fun k hk => ⟨.inl hk, Nat.lt_of_lt_of_le (h.gnew k hk).2 hf.size⟩), fun k hk => hf.block k (h.gnew k hk).2 (by simp)⟩
theorem OwnG.mono (h : OwnG X W G w) (hm : ∀ F, X w F → Y w F) : OwnG Y W G w := by
  obtain ⟨F, a, b⟩ := h; exact ⟨F, hm F a, b⟩
theorem OwnG.sub {G' : List Nat} (h : OwnG X W G w) (hs : ∀ k ∈ G', k ∈ G) : OwnG X W G' w := by
  obtain ⟨F, a, b, c, d, e⟩ := h
  exact ⟨F, a, b, c, fun k hk hg => d k hk (hs k hg), fun k hk => e k (hs k hk)⟩

end Go.Proofs.Ytoolojpjopodgaa
