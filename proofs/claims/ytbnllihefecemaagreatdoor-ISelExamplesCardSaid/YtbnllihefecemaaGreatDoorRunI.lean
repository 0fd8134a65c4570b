/-
  The closed run of ISelExamples in the nice machine, from the listed variables on.
-/
import Derived.Test.YtbnllihefecemaaGreatDoorAmF
import Derived.Test.YtbnllihefecemaaGreatDoorN1
import Derived.Test.YtbnllihefecemaaGreatDoorRows
set_option linter.unusedSimpArgs false
set_option linter.unusedVariables false
set_option maxRecDepth 1000000
namespace Go.Proofs.YtbnllihefecemaaGreatDoor
open Go Go.AM

/-- The memory at the call's beginning: the three listed variables. -/
noncomputable def m0 : Mem :=
  let t := T.set (Blk.cells 0 (flatW 2 (Rows.laid_internal_strconv_uint64pow10 : DataW Unit)) false) depth 0 T.leaf
  let t := T.set (Blk.cells 0 (flatW 2 (Rows.laid_math_bits_deBruijn32tab : DataW Unit)) false) depth 1 t
  let t := T.set (Blk.cells 0 (flatW 2 (Rows.laid_math_bits_deBruijn64tab : DataW Unit)) false) depth 2 t
  { next := 3, t := t }

/-- 2: a call came back with true. -/
def status : Option Res → Nat
  | some (.call (.bool b) _) => bif b then 2 else 1
  | some (.call _ _) => 3
  | some (.code _ _) => 4
  | none => 0

theorem ran : Nat.beq (status (nrun Tryz.prog 2000 (.call 4 #[] m0))) 2 = true := by kernel_rfl

theorem ran_to : ∃ m', nrun Tryz.prog 2000 (.call 4 #[] m0) = some (.call (.bool true) m') := by
  have h := Nat.eq_of_beq_eq_true ran
  cases hr : nrun Tryz.prog 2000 (.call 4 #[] m0) with
  | none => rw [hr] at h; cases h
  | some r =>
    rw [hr] at h
    cases r with
    | call v m' =>
      cases v with
      | bool b =>
        cases b with
        | true => exact ⟨m', rfl⟩
        | false => cases h
      | _ => cases h
    | code e s => cases h

end Go.Proofs.YtbnllihefecemaaGreatDoor
