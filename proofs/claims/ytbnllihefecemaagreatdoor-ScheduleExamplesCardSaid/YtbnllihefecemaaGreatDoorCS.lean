/-
  The call of ScheduleExamples returns true and leaves what it was handed as it was.
  Conditions: the three package-level variables that the row lists read, before the call, as the row lists them; the card ties that to the program's text (the tie is the given one).
  Nothing else is assumed of the memory, and nothing of the tape: every order and every capacity that Go leaves open is covered.
-/
import Derived.Test.YtbnllihefecemaaGreatDoorPS
set_option linter.unusedSimpArgs false
set_option linter.unusedVariables false
namespace Go.Proofs.YtbnllihefecemaaGreatDoor
open Go Go.ChangeShapes Go.WideShapes Go.ChangeAt Go.RowKit

theorem row_holds : Rows.ScheduleExamplesSaid :=
  OpenClaim.holds_of_wide 3 Tryz.f3 rfl rfl rfl rfl rfl rfl rfl ⟨rfl, rfl, rfl, rfl, rfl⟩ rfl rfl rfl rfl rfl (by kernel_rfl) Tryz.func3 (by kernel_rfl)
    (of_decide_eq_true (by kernel_rfl)) (by unfold Func.isWrapper; rw [if_neg (of_decide_eq_false (by kernel_rfl))]; exact ⟨rfl, rfl⟩)
    (fun os started H enc _ => lifted os started H enc)

theorem scheduleExamples_card : Rows.ScheduleExamplesCardSaid :=
  Claim7.holds_tied_plain_at .later [] [.data, .data, .data] true (true, "d91548b26e963f05ac4e8b03022f8553fdc6ac22c040fc2e03e15ee8ff097c4b") false
    row_holds (fun _ h => by cases h) (by kernel_rfl) (fun _ h => by cases h) scheduleExamples_row_tie rfl ⟨rfl, rfl⟩ (by kernel_rfl) rfl
    (fun f fn hf hfn => by
      obtain rfl : f = 3 := Option.some.inj ((show Tryz.prog.funcNamed "fulling/fullinglaw37.ScheduleExamples" = some 3 by kernel_rfl).symm.trans hf) |>.symm
      obtain rfl : fn = Tryz.f3 := (Option.some.inj (Tryz.func3.symm.trans hfn)).symm
      exact ⟨by kernel_rfl, fun j t ht => by
        rw [Tryz.params3] at ht
        simp at ht⟩)
    (by kernel_rfl)

end Go.Proofs.YtbnllihefecemaaGreatDoor
