/-
  The closed run of ScheduleExamples: the second stage, the two schedules.
-/
import Derived.Test.YtbnllihefecemaaGreatDoorRunS0
set_option maxRecDepth 1000000
namespace Go.Proofs.YtbnllihefecemaaGreatDoor
open Go Go.AM

theorem ranC : Nat.beq (normalNo (runC (lC (rC (rC body3))) litB.st)) 1 = true := by kernel_rfl
theorem ranD : Nat.beq (chk litD (runC (lC (rC (rC (rC body3)))) sC)) 1 = true := by kernel_rfl

end Go.Proofs.YtbnllihefecemaaGreatDoor
