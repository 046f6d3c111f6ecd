/- bytes.Equal. -/
import Derived.Laws.BytesArg
import Derived.Lib.Bytes
import Derived.Shelf.Bytes.SlEqualAll
import Derived.Test.YtjehkpfmndfjeaaReadLen
namespace Go.Proofs.Ytjehkpfmndfjeaa
open Go.RowKit

def strN (l : List Nat) : ByteArray := strOfNums (l.map fun x : Nat => (x : Int))

theorem strN_inj {a b : List Nat} (ha : Bytes a) (hb : Bytes b) : ((strN a).toList == (strN b).toList) = decide (a = b) := by
  rw [Bool.eq_iff_iff, beq_iff_eq, decide_eq_true_eq]
  constructor
  · intro h
    have h1 := h
    simp only [strN, Go.Lib.strOfNums_toList, Go.Lib.bytesOf, List.map_map] at h1
    have h2 := congrArg (List.map UInt8.toNat) h1
    simp only [List.map_map] at h2
    have e : ∀ l : List Nat, Bytes l → l.map (UInt8.toNat ∘ (fun n : Int => UInt8.ofNat n.toNat) ∘ fun x : Nat => (x : Int)) = l := by
      intro l hl
      conv => rhs; rw [← List.map_id l]
      apply List.map_congr_left
      intro x hx
      have := hl x hx
      simp only [Function.comp_apply, Int.toNat_natCast, UInt8.toNat_ofNat', id_eq]
      omega
    rwa [e a ha, e b hb] at h2
  · intro h; rw [h]

theorem conv_str {w : World} {ao : Option Addr} {c : Nat} {l : List Nat} (h : Rd w 1 ao l.length (bts l)) : (convert 22 9 (.slice ao l.length c)).run Try.prog w = .ok (.string (strN l)) w := by
  rcases h.2.2 with h0 | ⟨g, off, rfl, hg, hc⟩
  · have hl : l = [] := List.eq_nil_of_length_eq_zero h0
    subst hl
    exact Go.Proofs.run_convert_bytes_zero w _ _ Try.underlying22 Try.underlying5 ao c _ Try.underlying9
  · exact run_convert_bytes_arg w _ _ Try.underlying22 Try.underlying5 g off l.length c _ (by simp) (fun i hi => by
      rw [hc i (by omega), bts_get, List.getElem?_eq_getElem hi]
      simp [List.getD_eq_getElem?_getD, hi]) _ Try.underlying9

theorem equal_any (w : World) (ao bo : Option Addr) (ca cb : Nat) (a b : List Nat) (h1 : Rd w 1 ao a.length (bts a)) (h2 : Rd w 1 bo b.length (bts b)) (ha : Bytes a) (hb : Bytes b) :
    Calls Try.prog 33 #[.slice ao a.length ca, .slice bo b.length cb] w fun e w' => e = .returned (.bool (decide (a = b))) ∧ w = w' := by
  have k1 := conv_str (c := ca) h1
  have k2 := conv_str (c := cb) h2
  have HI := Lib.hid (strN_inj ha hb)
  clear h1 h2 ha hb
  go_enter Try.func33, Try.ntmps33
  go_wp2
  go_ret
  exact ⟨ret_bool HI.out, rfl⟩
end Go.Proofs.Ytjehkpfmndfjeaa
