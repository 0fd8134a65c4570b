/-
  The call of SymExecExamples returns true and leaves what it was handed as it was.
  Conditions: the four package-level variables that the row lists read, before the call, as the row lists them; the card ties that to the program's text (the tie is the given one).
  Nothing else is assumed of the memory, and nothing of the tape: every order and every capacity that Go leaves open is covered.
-/
import Derived.Test.YtjnjpljpacpilaaDoorP3
set_option linter.unusedSimpArgs false
set_option linter.unusedVariables false
namespace Go.Proofs.YtjnjpljpacpilaaDoor
open Go Go.ChangeShapes Go.WideShapes Go.ChangeAt Go.RowKit

theorem row_holds : Rows.SymExecExamplesSaid :=
  OpenClaim.holds_of_wide 3 Tryd.f3 rfl rfl rfl rfl rfl rfl rfl ⟨rfl, rfl, rfl, rfl, rfl⟩ rfl rfl rfl rfl rfl (by kernel_rfl) Tryd.func3 (by kernel_rfl)
    (of_decide_eq_true (by kernel_rfl)) (by unfold Func.isWrapper; rw [if_neg (of_decide_eq_false (by kernel_rfl))]; exact ⟨rfl, rfl⟩)
    (fun os started H enc _ => lifted os started H enc)

theorem symExecExamples_card : Rows.SymExecExamplesCardSaid :=
  Claim7.holds_tied_plain_at .later [] [.data, .data, .data, .data] true (true, "d37c7f0920bf1943cc573ee9671f4bbc8699bf5a02e3d7ab13fc493ef3239345") false
    row_holds (fun _ h => by cases h) (by kernel_rfl) (fun _ h => by cases h) symExecExamples_row_tie rfl ⟨rfl, rfl⟩ (by kernel_rfl) rfl
    (fun f fn hf hfn => by
      obtain rfl : f = 3 := Option.some.inj ((show Tryd.prog.funcNamed "fulling/fullinglaw39.SymExecExamples" = some 3 by kernel_rfl).symm.trans hf) |>.symm
      obtain rfl : fn = Tryd.f3 := (Option.some.inj (Tryd.func3.symm.trans hfn)).symm
      exact ⟨by kernel_rfl, fun j t ht => by
        rw [Tryd.params3] at ht
        simp at ht⟩)
    (by kernel_rfl)

end Go.Proofs.YtjnjpljpacpilaaDoor
