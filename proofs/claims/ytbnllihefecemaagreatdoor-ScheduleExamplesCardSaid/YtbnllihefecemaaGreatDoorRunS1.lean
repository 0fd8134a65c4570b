/-
  The closed run of ScheduleExamples: the first stage, parsing and lowering.
-/
import Derived.Test.YtbnllihefecemaaGreatDoorRunS0
set_option maxRecDepth 1000000
namespace Go.Proofs.YtbnllihefecemaaGreatDoor
open Go Go.AM

theorem ranA : Nat.beq (normalNo (runC (lC body3) ⟨.leaf, m0⟩)) 1 = true := by kernel_rfl
theorem ranB : Nat.beq (chk litB (runC (lC (rC body3)) sA)) 1 = true := by kernel_rfl

end Go.Proofs.YtbnllihefecemaaGreatDoor
