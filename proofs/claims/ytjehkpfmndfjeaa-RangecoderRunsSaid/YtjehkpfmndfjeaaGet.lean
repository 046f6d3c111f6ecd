/- Package rangecoder: get; the function value of Decode, and walk over it. -/
import Derived.Test.YtjehkpfmndfjeaaDec
namespace Go.Proofs.Ytjehkpfmndfjeaa
open Go.RowKit

section
variable {w : World} {p : Nat} {s : Ds}

/-- the loop of get -/
def GetInv (w : World) (p : Nat) (S : Ds) (k : Nat) (ov : Value) (wr : World) : Prop :=
  (ov = .bool false ∧ DecTo w p S wr) ∨ ∃ (j : Nat) (sc : Ds), ov = .bool true ∧ k = j + 1 ∧ DecTo w p sc wr ∧ Dn j sc.next S ∧ sc.m.Ok
theorem DShift.inv {w1 w' : World} {S : Ds} {k : Nat} {e : Ending} (h1 : Fr [p] w w1) (h : DShift w1 p S k e w') : ∃ v ov, e = .returned (.tuple #[v, ov]) ∧ GetInv w p S k ov w' := by
  obtain ⟨v, ok, rfl, h⟩ := h
  refine ⟨v, .bool ok, rfl, ?_⟩
  cases ok with
  | false => exact .inl ⟨rfl, DecTo.trans h1 h⟩
  | true =>
    obtain ⟨j, sc, h2, h3, h4, h5⟩ := h
    exact .inr ⟨j, sc, rfl, h2, DecTo.trans h1 h3, h4, h5⟩

set_option maxHeartbeats 2000000 in
theorem get_any (h : IsDec w p s) (hm : s.m.Rdy) (c : Nat) (hc : c < 256) :
    Calls Try.prog 32 #[.pointer (some ⟨p, 0, none⟩), .int .i64 c] w fun e w' => e = .returned (.int .i64 (b2n (s.bit c) : Int)) ∧ DecTo w p (s.step c) w' := by
  obtain ⟨J, hJ⟩ := dstep_dn hm hc
  obtain ⟨S, hS⟩ : ∃ S, S = s.step c := ⟨_, rfl⟩
  rw [← hS] at hJ ⊢
  have HJ := Lib.hid hJ
  have HOK := Lib.hid (hm.ok.nar hm.lt hc (s.bit c))
  have hh := h
  obtain ⟨ra, rc, h⟩ := h
  have c1 := h.head.cx 1
  simp only [List.getElem?_cons_zero, List.getElem?_cons_succ] at c1
  have HM := Lib.hid fun n => middle_any (h.head.drewN n) hm c hc
  have HNAR := Lib.hid fun (n : Nat) (b : Bool) (x : Int) (hx : x = if b then 1 else 0) => dec_narrow (hh.fr (S := []) ((Fr.refl [] w).drewN n) (by simp) (by simp)) hm c hc b hx
  have HB := Lib.hid (rfl : s.bit c = decide (s.code ≤ s.m.mid c))
  clear h hh hm hJ hS
  by_cases hb : s.code ≤ s.m.mid c
  · have hbb : s.bit c = true := by rw [HB.out]; exact decide_eq_true hb
    rw [hbb] at HJ HOK ⊢
    clear hbb
    go_enter Try.func32, Try.ntmps32
    go_wp2
    go_quiet ((go_at_call 36; exact quiet1d (HM.out _)))
    go_wp2_with fail
    refine (HNAR.out _ true 1 rfl).mono ?_
    rintro e w1 ⟨rfl, h1, hf1⟩
    go_wp2_with fail
    refine (dec_shift h1 HOK.out HJ.out).mono ?_
    intro e w2 ht
    obtain ⟨v, ov, rfl, hinv⟩ := ht.inv (((Fr.refl [p] w).drewN _).trans hf1 (Ext.refl _ _))
    have HI := Lib.hid hinv
    clear ht hinv h1 hf1
    go_wp2_with fail
    go_loopg [7] J (fun k ov wr => GetInv w p S k ov wr)
    case atStart => exact HI.out
    case round =>
      clear HI
      rcases hrel with ⟨rfl, h2⟩ | ⟨j, sc, rfl, rfl, h2, hn, hok⟩
      · have H2 := Lib.hid h2
        clear h2
        go_wp2_with fail
        go_ret
        exact ⟨rfl, H2.out⟩
      · have HF2 := Lib.hid h2.2
        have HN2 := Lib.hid hn
        have HOK2 := Lib.hid hok
        have HNX := Lib.hid (next_any h2.1)
        clear h2 hn hok
        go_wp2_with fail
        refine HNX.out.mono ?_
        rintro e w5 ⟨rfl, h5, hf5⟩
        have HF5 := Lib.hid (HF2.out.trans hf5 (Ext.refl _ _))
        have HSH := Lib.hid (dec_shift h5 HOK2.out HN2.out)
        clear h5 hf5
        go_wp2_with fail
        refine HSH.out.mono ?_
        intro e w6 ht
        obtain ⟨v6, ov6, rfl, hinv⟩ := ht.inv HF5.out
        have HI6 := Lib.hid hinv
        clear ht hinv
        go_wp2_with fail
        go_roundg j
        case measure => omega
        case rel => exact HI6.out
  · have hbb : s.bit c = false := by rw [HB.out]; exact decide_eq_false hb
    rw [hbb] at HJ HOK ⊢
    clear hbb
    go_enter Try.func32, Try.ntmps32
    go_wp2
    go_quiet ((go_at_call 36; exact quiet1d (HM.out _)))
    go_wp2_with fail
    refine (HNAR.out _ false 0 rfl).mono ?_
    rintro e w1 ⟨rfl, h1, hf1⟩
    go_wp2_with fail
    refine (dec_shift h1 HOK.out HJ.out).mono ?_
    intro e w2 ht
    obtain ⟨v, ov, rfl, hinv⟩ := ht.inv (((Fr.refl [p] w).drewN _).trans hf1 (Ext.refl _ _))
    have HI := Lib.hid hinv
    clear ht hinv h1 hf1
    go_wp2_with fail
    go_loopg [7] J (fun k ov wr => GetInv w p S k ov wr)
    case atStart => exact HI.out
    case round =>
      clear HI
      rcases hrel with ⟨rfl, h2⟩ | ⟨j, sc, rfl, rfl, h2, hn, hok⟩
      · have H2 := Lib.hid h2
        clear h2
        go_wp2_with fail
        go_ret
        exact ⟨rfl, H2.out⟩
      · have HF2 := Lib.hid h2.2
        have HN2 := Lib.hid hn
        have HOK2 := Lib.hid hok
        have HNX := Lib.hid (next_any h2.1)
        clear h2 hn hok
        go_wp2_with fail
        refine HNX.out.mono ?_
        rintro e w5 ⟨rfl, h5, hf5⟩
        have HF5 := Lib.hid (HF2.out.trans hf5 (Ext.refl _ _))
        have HSH := Lib.hid (dec_shift h5 HOK2.out HN2.out)
        clear h5 hf5
        go_wp2_with fail
        refine HSH.out.mono ?_
        intro e w6 ht
        obtain ⟨v6, ov6, rfl, hinv⟩ := ht.inv HF5.out
        have HI6 := Lib.hid hinv
        clear ht hinv
        go_wp2_with fail
        go_roundg j
        case measure => omega
        case rel => exact HI6.out
end
end Go.Proofs.Ytjehkpfmndfjeaa
