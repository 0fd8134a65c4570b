/-
  The closed run of ScheduleExamples: the last stage, the comparison.
-/
import Derived.Test.YtbnllihefecemaaGreatDoorRunS0
set_option maxRecDepth 1000000
namespace Go.Proofs.YtbnllihefecemaaGreatDoor
open Go Go.AM

/-- 1: the text ended by its return, with true. -/
noncomputable def lastNo (r : Option Res) : Nat :=
  match r with
  | some (.code .ret s) =>
    match leave Tryz.prog Tryz.f3 s with
    | some (.call (.bool b) _) => bif b then 1 else 0
    | _ => 0
  | _ => 0

theorem ranF : Nat.beq (lastNo (runC (rC (rC (rC (rC (rC body3))))) litE.st)) 1 = true := by kernel_rfl

theorem ranF_to : ∃ s m', runC (rC (rC (rC (rC (rC body3))))) litE.st = some (.code .ret s) ∧ leave Tryz.prog Tryz.f3 s = some (.call (.bool true) m') := by
  have h := Nat.eq_of_beq_eq_true ranF
  unfold lastNo at h
  split at h
  · rename_i s hs
    split at h
    · rename_i b m' hl
      cases b with
      | true => exact ⟨s, m', hs, hl⟩
      | false => cases h
    · cases h
  · cases h

end Go.Proofs.YtbnllihefecemaaGreatDoor
