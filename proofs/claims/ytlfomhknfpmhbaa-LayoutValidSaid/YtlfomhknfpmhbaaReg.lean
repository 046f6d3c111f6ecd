/- A region of a function's code, found by its number. -/
import Derived.Test.YtlfomhknfpmhbaaShapeOf
namespace Go.Proofs.Ytlfomhknfpmhbaa
open Go.RowKit

def regOf (k : Nat) : Code → Option Code
  | .region i ops d => if i = k then some (.region i ops d) else none
  | .seq a b => match regOf k a with
    | some c => some c
    | none => regOf k b
  | .cond _ a b => match regOf k a with
    | some c => some c
    | none => regOf k b
  | .block _ c => regOf k c
  | .loop c => regOf k c
  | .scope c => regOf k c
  | _ => none
end Go.Proofs.Ytlfomhknfpmhbaa
