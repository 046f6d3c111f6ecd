/- Chapter 28, plain: the bytes that Diff gathers, place by place, for pairs in any order. -/
import Derived.Test.YtcgndeggemceaaaGap28
namespace Go.Proofs.Ytcgndeggemceaaa
open Go.RowKit

def lastI (prev : Int) (l : List Int) : Int := l.getLastD prev
theorem lastI_snoc (prev : Int) (l : List Int) (k : Int) : lastI prev (l ++ [k]) = k := by simp [lastI]
theorem lastI_cons (prev k : Int) (l : List Int) : lastI prev (k :: l) = lastI k l := by cases l <;> rfl
def gG (prev : Int) : List Int → List Nat
  | [] => []
  | k :: r => varN (gpN prev k) ++ gG k r
def gD (prev : Int) : List (Int × Int × Int) → List Nat
  | [] => []
  | y :: r => varN (gpN prev y.1) ++ varN (zz (wrap64 (y.2.1 - y.2.2))) ++ gD y.1 r
theorem gG_snoc : ∀ (l : List Int) (prev k : Int), gG prev (l ++ [k]) = gG prev l ++ varN (gpN (lastI prev l) k)
  | [], prev, k => by simp [gG, lastI]
  | x :: l, prev, k => by rw [List.cons_append, gG, gG_snoc l x k, lastI_cons, gG, List.append_assoc]
theorem gD_snoc : ∀ (l : List (Int × Int × Int)) (prev : Int) (y : Int × Int × Int), gD prev (l ++ [y]) = gD prev l ++ varN (gpN (lastI prev (l.map (·.1))) y.1) ++ varN (zz (wrap64 (y.2.1 - y.2.2)))
  | [], prev, y => by simp [gD, lastI]
  | x :: l, prev, y => by rw [List.cons_append, gD, gD_snoc l x.1 y, List.map_cons, lastI_cons, gD]; simp only [List.append_assoc]
theorem gG_enc : ∀ (l : List Int) (prev : Int), -1 ≤ prev → l.Pairwise (· < ·) → (∀ k ∈ l, prev < k ∧ k ≤ 2147483647) → gG prev l = encG prev l
  | [], _, _, _, _ => rfl
  | k :: l, prev, h0, hp, hk => by
    have h1 := hk k (by simp)
    rw [gG, encG, gpN_up h0 h1.1 h1.2, gG_enc l k (by omega) (List.pairwise_cons.1 hp).2 (fun x hx => ⟨(List.pairwise_cons.1 hp).1 x hx, (hk x (by simp [hx])).2⟩)]
theorem gD_enc : ∀ (l : List (Int × Int × Int)) (prev : Int), -1 ≤ prev → l.Pairwise (fun x y => x.1 < y.1) → (∀ k ∈ l, prev < k.1 ∧ k.1 ≤ 2147483647) → gD prev l = encD prev l
  | [], _, _, _, _ => rfl
  | k :: l, prev, h0, hp, hk => by
    have h1 := hk k (by simp)
    rw [gD, encD, gpN_up h0 h1.1 h1.2, gD_enc l k.1 (by omega) (List.pairwise_cons.1 hp).2 (fun x hx => ⟨(List.pairwise_cons.1 hp).1 x hx, (hk x (by simp [hx])).2⟩)]
end Go.Proofs.Ytcgndeggemceaaa
