/-
  The closed run of ScheduleExamples: the third stage, the schedule's execution.
-/
import Derived.Test.YtbnllihefecemaaGreatDoorRunS0
set_option maxRecDepth 1000000
namespace Go.Proofs.YtbnllihefecemaaGreatDoor
open Go Go.AM

theorem ranE : Nat.beq (chk litE (runC (lC (rC (rC (rC (rC body3))))) litD.st)) 1 = true := by kernel_rfl

end Go.Proofs.YtbnllihefecemaaGreatDoor
