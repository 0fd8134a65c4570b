/-
  ScheduleExamples: the row and its tied card.
-/
import Derived.Test.YtbnllihefecemaaGreatDoorSS
import Derived.Test.YtbnllihefecemaaGreatDoorCards
import Derived.Test.YtbnllihefecemaaGreatDoorTie
import Derived.ProofKit
import Derived.OpenShut
import Derived.LaidMore
import Derived.Lay
import Derived.SevenTiedAt
import Derived.Stop.Joined
set_option linter.unusedSimpArgs false
set_option linter.unusedVariables false
namespace Go.Proofs.YtbnllihefecemaaGreatDoor
open Go Go.ChangeShapes Go.WideShapes Go.ChangeAt Go.RowKit

theorem own : ownKnob Tryz.prog.godebug = none := by kernel_rfl
theorem handleless : (Rows.scheduleExamplesRow.laid.all fun x => x.2.handleName?.isNone) = true := by kernel_rfl

set_option maxRecDepth 100000 in
theorem lifted (os : Os) (started : os.Started) (H : Type) (enc : TypeId × Value → H) :
    ReturnsInHanded {} Tryz.checked os 3 .any (fun w args => (Rows.scheduleExamplesSpec.pre enc Tryz.prog Tryz.f3 Rows.scheduleExamplesRow.domain false w args ∧ laidMetH Tryz.prog Rows.scheduleExamplesRow.laid w) ∧ sizedMet enc Tryz.prog Tryz.f3 (OpenSpec.ofChange Rows.scheduleExamplesSpec) false w args)
      (Rows.scheduleExamplesSpec.post enc Tryz.prog Tryz.f3 false true false false) := by
  refine returnsInHanded_of_change_and (C := Tryz.checked) (X := fun w _ => laidMetH Tryz.prog Rows.scheduleExamplesRow.laid w) (fun _ _ _ hh h => h.of_heap hh) own started (by kernel_rfl) Tryz.func3
    (ChangeSpec.witness_shaped (enc := enc) (C := Tryz.checked) (os := os) (X := fun w _ => laidMetH Tryz.prog Rows.scheduleExamplesRow.laid w) false (World.laidAll Tryz.prog os Rows.scheduleExamplesRow.laid) #[] 8 (World.laidAll_os _ _ _)
      (World.shaped_of_ZipB (by kernel_rfl) (by kernel_rfl)) (by kernel_rfl) (by kernel_rfl) (by kernel_rfl)
      (by rw [MakeChecks.laidMetH_plain _ _ _ handleless]; exact laidMet_laidAll _ (by kernel_rfl) (by kernel_rfl))) ?_
  intro W base args ds gs before hval0 hW _ _ hL _
  have hW' := hW
  obtain ⟨p, q, hA0, hV, rfl, hfz, hnd⟩ := hW
  have hA : DataW.TrodAll enc Tryz.prog W 0 (fun _ => true) true Tryz.f3.params.toList args.toList ds p := hA0
  rw [Tryz.params3] at hA
  obtain ⟨hargs, rfl, rfl⟩ := trodAll_none hA
  obtain ⟨rfl, rfl⟩ := trodVars_none hV
  rw [MakeChecks.laidMetH_plain _ _ _ handleless] at hL
  clear hA0 hval0
  simp only [List.append_nil] at hW'
  subst hargs
  refine (call_true W hL).mono fun e W' ⟨he, ho, ht, hu, hs, hk⟩ => ?_
  subst he
  have hB : Below W.heap.size W W' := ⟨ho, ht, hu, hs, hk⟩
  refine ⟨_, rfl, _, _, _, [], [], [], hW', ?_, ?_, ?_, hB.frame _, fun h => by cases h⟩
  · exact trodAll_mk1 (shut_bool Tryz.underlying4 true)
  · exact trodAll_mk0
  · rfl

end Go.Proofs.YtbnllihefecemaaGreatDoor
