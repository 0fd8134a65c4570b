/-
  The cells of a datum of plain data.
-/
import Derived.Test.YtbnllihefecemaaGreatDoorAm1
import GoSem.ClaimWide
namespace Go.AM
open Go

def litV : Lit → Value
  | .bool b => .bool b
  | .int k n => .int k n
  | .string bs => .string ⟨bs.toArray⟩
  | _ => .nilFunc

/-- A datum's cells, to a depth. -/
def flatW {H : Type} : Nat → DataW H → List Value
  | 0, _ => []
  | _ + 1, .lit l => [litV l]
  | k + 1, .agg ds => ds.flatMap (flatW k)
  | _ + 1, _ => []

end Go.AM
