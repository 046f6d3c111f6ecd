/- A region that draws its order, inside a round of a range over a function, walked under a condition that holds all the way (calls allowed). -/
import Derived.Deep.RegionHeld3
import Derived.Test.YtlfomhknfpmhbaaRound
namespace Go.Proofs.Ytlfomhknfpmhbaa
open Go.RowKit

def noDef (ops : Array Oper) : Bool := ops.all fun o => match o.op with | .defer _ => false | _ => true
theorem noDef_spec {ops : Array Oper} (h : noDef ops = true) {i : Nat} {o : Oper} (ho : ops[i]? = some o) : ∀ c, o.op ≠ .defer c := by
  intro c hc
  have h1 := Array.all_eq_true.1 h i (Array.getElem?_eq_some_iff.1 ho).1
  rw [(Array.getElem?_eq_some_iff.1 ho).2, hc] at h1
  cases h1
theorem opsInC_of_ops {l n : Nat} {P : Program} {ops : Array Oper} {Q : Exit → Act → World → Prop} (hd : noDef ops = true) (L : List Nat) :
    ∀ (a : Act) (w : World), wpOps P ops (onlyNormal Q) L a w → wpOpsIn (Fence.wide.inRound l) n P ops Q L a w := by
  induction L with
  | nil => intro a w h; exact h.2
  | cons i rest ih =>
    intro a w h
    simp only [wpOps] at h
    simp only [wpOpsIn]
    cases ho : ops[i]? with
    | none => simp only [ho] at h ⊢; exact ih a w h
    | some o =>
      simp only [ho] at h ⊢
      by_cases hw : Region.wanted o (yielded ops a.tmps) = true
      · simp only [hw, if_true] at h ⊢
        rcases h with h | ⟨_, a₀, w₀, hq⟩
        case inr => exact absurd hq.1 (by intro e; cases e)
        refine ⟨fun _ _ => trivial, ?_⟩
        rw [Fence.inRound_round, Oper.semAt_some l a.eval o (noDef_spec hd ho)]
        unfold Oper.wp at h
        generalize (execOp a.eval o).run P w = r at h ⊢
        cases r with
        | ok x w' =>
          cases x <;> simp only [Oper.upon, Oper.uponIn] at h ⊢
          case value v => exact ih _ _ h
          case skip => exact ih _ _ h
          case defer d => exact ih _ _ h
          case enter f args =>
            refine ⟨fun he => by simp [Fence.wide, Fence.inRound] at he, CallsIn.inRound l ((callsIn_wide.2 h).mono fun e w'' he => ?_)⟩
            cases e with
            | returned v => exact ih _ _ he
            | panicked chain => exact absurd he.1 (by intro e; cases e)
            | outgrown => obtain ⟨a₀, w₀, hq⟩ := he; exact absurd hq.1 (by intro e; cases e)
          case row rw' args =>
            refine ⟨fun he => by simp [Fence.wide, Fence.inRound] at he, fun c cs _ => ?_⟩
            obtain ⟨v, w'', hv, hs⟩ := h c cs
            exact ⟨v, w'', ih _ _ hv, stepsIn_wide.2 hs⟩
        | halt x w' => cases x <;> simp only [Oper.upon, Oper.uponIn] at h ⊢ <;> exact absurd h.1 (by intro e; cases e)
      · simp only [hw, if_false, Bool.false_eq_true] at h ⊢
        exact ⟨fun _ _ => trivial, ih _ _ h⟩
theorem wpIn_round_held {l n : Nat} {P : Program} {id : Nat} {L : List Oper} {Q : Exit → Act → World → Prop} {a : Act} {w : World} {S : World → Prop} (hm : P.follows .mixedOrders = true) (hd : noDef L.toArray = true) (hS : S w.drew)
    (h : S w.drew → wpAnyH P .any L.toArray (onlyNormal Q) S L.toArray.size (Array.replicate L.toArray.size false) a w.drew) :
    (Code.region id L.toArray true).wpIn (Fence.wide.inRound l) n P Q a w :=
  wpIn_region_draw fun t => by
    simp only [Region.schedule, hm, Bool.true_or, if_true]
    exact opsInC_of_ops hd _ _ _ (wpAny_sound _ t _ a _ (wpAny_of_held _ _ _ _ (h hS)))
theorem wpIn_round_list {l n : Nat} {P : Program} {id : Nat} {L : List Oper} {Q : Exit → Act → World → Prop} {a : Act} {w : World} (hd : noDef L.toArray = true) (h : wpList P L.toArray (onlyNormal Q) L a w) :
    (Code.region id L.toArray false).wpIn (Fence.wide.inRound l) n P Q a w :=
  wpIn_region (by
    refine opsInC_of_ops hd _ a w ?_
    rw [List.range_eq_range', ← Array.length_toList, wpOps_eq_wpList L.toArray.toList 0 (by simp)]
    exact h)
end Go.Proofs.Ytlfomhknfpmhbaa
