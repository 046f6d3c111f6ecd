/- Package snapshot: the decoder: index. -/
import Derived.Test.YtcgndeggemceaaaDec28
import Derived.Deep.QuietTactic
import Derived.BigQuiet
namespace Go.Proofs.Ytcgndeggemceaaa
open Go.RowKit

def ixV (prev : Int) (g : Nat) : Int := match idxN prev g with | none => prev | some k => k
def ixE (prev : Int) (g e : Nat) : Nat := match idxN prev g with | none => failE e 8 | some _ => e
theorem ixV_bd {prev : Int} (g : Nat) (hp : -1 ≤ prev ∧ prev ≤ maxI) : -1 ≤ ixV prev g ∧ ixV prev g ≤ maxI := by
  unfold ixV
  cases h : idxN prev g with
  | none => exact hp
  | some k => obtain ⟨h1, h2, h3⟩ := idxN_inv h; exact ⟨by show -1 ≤ k; omega, h2⟩
theorem numN_lt {rest : List Nat} (e : Nat) (hb : BytesB rest) : numN rest e < 18446744073709551616 := by
  unfold numN
  split
  · cases h : readV rest with
    | bad x => show 0 < 18446744073709551616; omega
    | ok n r => exact (readV_ok hb h).2
  · omega
theorem numR_bytes {rest : List Nat} (e : Nat) (hb : BytesB rest) : BytesB (numR rest e) := by
  unfold numR
  split
  · cases h : readV rest with
    | bad x => exact hb
    | ok n r =>
      intro x hx
      exact hb x (by rw [(readV_ok hb h).1]; exact List.mem_append_right _ hx)
  · exact hb

def IdxTo (w : World) (p : Nat) (ro : Option Addr) (k : Int) (rest : List Nat) (e : Nat) (r : Ending) (w' : World) : Prop := r = .returned (.int .i64 k) ∧ DecTo w p ro rest e w'

set_option maxRecDepth 100000 in
set_option maxHeartbeats 8000000 in
theorem index_any {w : World} {p : Nat} {ro : Option Addr} {rest : List Nat} {rc e : Nat} (h : IsDec w p ro rest rc e) (hb : BytesB rest) {prev : Int} (hp : -1 ≤ prev ∧ prev ≤ maxI) :
    Calls Try.prog 53 #[.pointer (some ⟨p, 0, none⟩), .int .i64 prev] w (IdxTo w p ro (ixV prev (numN rest e)) (numR rest e) (ixE prev (numN rest e) (numE rest e))) := by
  have HNUM := Lib.hid (number_any h hb)
  have hn := numN_lt e hb
  obtain ⟨n, hn2⟩ : ∃ n, n = numN rest e := ⟨_, rfl⟩
  rw [← hn2] at HNUM hn ⊢
  obtain ⟨R, hR⟩ : ∃ R, R = numR rest e := ⟨_, rfl⟩
  obtain ⟨E, hE⟩ : ∃ E, E = numE rest e := ⟨_, rfl⟩
  rw [← hR, ← hE] at HNUM ⊢
  unfold maxI at hp
  clear h hb hn2 hR hE
  have w1 : IntKind.i64.wrap (2147483647 - prev) = 2147483647 - prev := IntWalk.i64_in _ (by omega)
  have w2 : IntKind.i64.wrap (2147483647 - prev - 1) = 2147483647 - prev - 1 := IntWalk.i64_in _ (by omega)
  have w3 : IntKind.i64.wrap (prev + 1) = prev + 1 := IntWalk.i64_in _ (by omega)
  by_cases hm : prev = 2147483647
  · have hi : idxN prev n = none := by unfold idxN maxI; rw [if_pos (.inr hm)]
    have HV := Lib.hid (by unfold ixV; rw [hi] : ixV prev n = prev)
    have HE := Lib.hid (by unfold ixE; rw [hi] : ixE prev n E = failE E 8)
    have w4 : IntKind.u64.wrap (2147483647 - prev - 1) = 18446744073709551615 := by rw [hm]; decide
    have hgt : ¬ (18446744073709551615 : Int) < (n : Int) := by omega
    have heb : (prev == 2147483647) = true := beq_iff_eq.2 hm
    clear hi hm
    go_enter Try.func53, Try.ntmps53
    go_wp2_with fail
    refine HNUM.out.mono ?_
    rintro r wn ⟨rfl, ro1, rc1, hd, hf, hbk⟩
    have HD := Lib.hid hd
    have HF := Lib.hid hf
    clear hd hf
    go_wp2_with fail
    refine (fail_any HD.out 8).mono ?_
    rintro r wf ⟨rfl, hd2, hf2⟩
    have HD2 := Lib.hid hd2
    have HF2 := Lib.hid hf2
    clear hd2 hf2
    go_wp2
    go_ret
    exact ⟨by rw [HV.out]; rfl, by rw [HE.out]; exact ⟨ro1, rc1, HD2.out, HF.out.trans HF2.out (Ext.refl _ _), hbk⟩⟩
  · have heb : (prev == 2147483647) = false := beq_eq_false_iff_ne.2 hm
    have w4 : IntKind.u64.wrap (2147483647 - prev - 1) = 2147483647 - prev - 1 := IntWalk.u64_in _ (by omega)
    by_cases hg : 2147483647 - prev - 1 < (n : Int)
    · have hi : idxN prev n = none := by unfold idxN maxI; rw [if_pos (.inl hg)]
      have HV := Lib.hid (by unfold ixV; rw [hi] : ixV prev n = prev)
      have HE := Lib.hid (by unfold ixE; rw [hi] : ixE prev n E = failE E 8)
      clear hi hm
      go_enter Try.func53, Try.ntmps53
      go_wp2_with fail
      refine HNUM.out.mono ?_
      rintro r wn ⟨rfl, ro1, rc1, hd, hf, hbk⟩
      have HD := Lib.hid hd
      have HF := Lib.hid hf
      clear hd hf
      go_wp2_with fail
      refine (fail_any HD.out 8).mono ?_
      rintro r wf ⟨rfl, hd2, hf2⟩
      have HD2 := Lib.hid hd2
      have HF2 := Lib.hid hf2
      clear hd2 hf2
      go_wp2
      go_ret
      exact ⟨by rw [HV.out]; rfl, by rw [HE.out]; exact ⟨ro1, rc1, HD2.out, HF.out.trans HF2.out (Ext.refl _ _), hbk⟩⟩
    · have hi : idxN prev n = some (prev + 1 + (n : Int)) := by unfold idxN maxI; rw [if_neg (fun q => q.elim hg hm)]
      have HV := Lib.hid (by unfold ixV; rw [hi] : ixV prev n = prev + 1 + (n : Int))
      have HE := Lib.hid (by unfold ixE; rw [hi] : ixE prev n E = E)
      have w5 : IntKind.i64.wrap (n : Int) = (n : Int) := IntWalk.i64_in _ (by omega)
      have w6 : IntKind.i64.wrap (prev + 1 + (n : Int)) = prev + 1 + (n : Int) := IntWalk.i64_in _ (by omega)
      clear hi hm
      go_enter Try.func53, Try.ntmps53
      go_wp2_with fail
      refine HNUM.out.mono ?_
      rintro r wn ⟨rfl, ro1, rc1, hd, hf, hbk⟩
      have HD := Lib.hid hd
      have HF := Lib.hid hf
      clear hd hf
      go_wp2_with fail
      go_ret
      exact ⟨by rw [HV.out]; rfl, by rw [HE.out]; exact ⟨ro1, rc1, HD.out, HF.out, hbk⟩⟩
end Go.Proofs.Ytcgndeggemceaaa
