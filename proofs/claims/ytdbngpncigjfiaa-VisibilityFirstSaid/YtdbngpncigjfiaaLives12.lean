/- Chapter 12: shape.Validate on a circle; lives. -/
import Derived.Test.YtdbngpncigjfiaaVal4
import Derived.Test.YtdbngpncigjfiaaField
import Derived.Test.YtdbngpncigjfiaaBlk
namespace Go.Proofs.Ytdbngpncigjfiaa
open Go.RowKit


theorem infoSetup : (Try.prog.info? 31).map (·.size) = some 16 := by kernel_rfl

def lvD : Bd := ⟨5, none, 0, 0, 0, 0, 0, 0, 0, 0, 0⟩
def lvS (b : Nat) : St := ⟨1, some ⟨b, 0, none⟩, 1, 1, 0, 0, 0, 0, none, 0, 0, none, 0, 0, 0, 0, 0, 0, 0, 0, 1, 0⟩

theorem lv_valid (b : Nat) : validB (lvS b) [lvD] [0] [] [] = 0 := by
  unfold validB numsB n1 n2 n3 n4 n5 n6 n7 n8 properB mapB bodyB d1 d2 d3 d4 d5 inB lvS lvD
  simp
theorem lv_size (b : Nat) : szOf (lvS b) = 60 := by simp [szOf, lvS]
theorem lv_player (b : Nat) : plOf (lvS b) 0 = 48 := by simp [plOf, lvS]
theorem lv_body (b : Nat) : bdOf (lvS b) 0 = 52 := by simp [bdOf, lvS]
theorem lv_field : fieldOf { data := #[118, 120] } = 2 := by rfl
theorem lv_ok (b : Nat) : (lvS b).Ok := ⟨by simp only [lvS]; omega, by simp only [lvS]; omega, by simp only [lvS]; omega, by simp only [lvS]; omega⟩


end Go.Proofs.Ytdbngpncigjfiaa
