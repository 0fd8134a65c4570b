/-
  The closed run of SymExecExamples in the abstract machine, from the listed variables on.
-/
import Derived.Test.YtjnjpljpacpilaaDoorAmF
import Derived.Test.YtjnjpljpacpilaaDoorRows
set_option linter.unusedSimpArgs false
set_option linter.unusedVariables false
set_option maxRecDepth 1000000
namespace Go.Proofs.YtjnjpljpacpilaaDoor
open Go Go.AM

def tableRows : List (DataW Unit) :=
  match (Rows.laid_fulling_machine_table : DataW Unit) with
  | .slice ds _ => ds
  | _ => []

/-- The memory at the call's beginning: the four listed variables and the table's rows. -/
noncomputable def m0 : Mem :=
  let t := T.set (Blk.cells 0 [.slice (some ⟨4, 0, none⟩) 37 7] false) depth 0 T.leaf
  let t := T.set (Blk.cells 0 (flatW 2 (Rows.laid_internal_strconv_uint64pow10 : DataW Unit)) false) depth 1 t
  let t := T.set (Blk.cells 0 (flatW 2 (Rows.laid_math_bits_deBruijn32tab : DataW Unit)) false) depth 2 t
  let t := T.set (Blk.cells 0 (flatW 2 (Rows.laid_math_bits_deBruijn64tab : DataW Unit)) false) depth 3 t
  let t := T.set (Blk.cells 0 (tableRows.flatMap (flatW 2)) false) depth 4 t
  { next := 5, t := t }

def okRes : Option Res → Bool
  | some (.call (.bool b) _) => b
  | _ => false

theorem ran : okRes (run Tryd.prog 100000 (.call 3 #[] m0)) = true := by kernel_rfl

theorem ran_to : ∃ m', run Tryd.prog 100000 (.call 3 #[] m0) = some (.call (.bool true) m') := by
  have h := ran
  cases hr : run Tryd.prog 100000 (.call 3 #[] m0) with
  | none => rw [hr] at h; cases h
  | some r =>
    rw [hr] at h
    cases r with
    | call v m' =>
      cases v with
      | bool b =>
        have hb : b = true := h
        subst hb
        exact ⟨m', rfl⟩
      | _ => cases h
    | code e s => cases h

end Go.Proofs.YtjnjpljpacpilaaDoor
